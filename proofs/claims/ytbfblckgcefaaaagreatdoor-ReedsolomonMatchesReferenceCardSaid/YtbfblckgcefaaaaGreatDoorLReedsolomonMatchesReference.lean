/- ReedsolomonMatchesReference: for every row of numbers, every rate, every word and every place the law on Encode, EncodeExt, At, Is and Distance beside the reference returns true; no conditions. -/
import Derived.Test.YtbfblckgcefaaaaGreatDoorFrd
import Derived.Test.YtbfblckgcefaaaaGreatDoorRz7
import Derived.Test.YtbfblckgcefaaaaGreatDoorOpF
import Derived.Test.YtbfblckgcefaaaaGreatDoorOpE
import Derived.Test.YtbfblckgcefaaaaGreatDoorOp
namespace Go.Proofs.YtbfblckgcefaaaaGreatDoor.lawReedsolomonMatchesReference
open Go.ChangeShapes Go.WideShapes Go.ChangeAt Go.RowKit Att Att.CRing
theorem encOf_le (l : List F) (b : Int) : (encOf l b).1.length ≤ 65536 := by
  by_cases hv : vrow l.length b
  · obtain ⟨a, m, m1, m4, h1, rfl, ham⟩ := hv
    rw [encOf_pow h1 m1 m4 ham]
    show (valP _ _ _).length ≤ _
    rw [valP_length]; exact pow_lt ham
  · rw [encOf_bad hv]; exact Nat.zero_le _
set_option maxRecDepth 100000 in
set_option maxHeartbeats 4000000 in
theorem walk (w : World) (a0 : Option Addr) (len0 cap0 : Nat) (x0 : List Int) (x1 : Int) (a2 : Option Addr) (len2 cap2 : Nat) (x2 : List Int) (x3 : Int) (hT : Tab w) (h_x0 : SW w a0 len0 cap0 x0) (l_x1 : -9223372036854775808 ≤ x1) (u_x1 : x1 ≤ 9223372036854775807) (h_x2 : SW w a2 len2 cap2 x2) (l_x3 : -9223372036854775808 ≤ x3) (u_x3 : x3 ≤ 9223372036854775807) :
    Calls Tryz.prog 4 #[.slice a0 len0 cap0, .int .i64 x1, .slice a2 len2 cap2, .int .i64 x3] w fun e w' => e = .returned (.bool true) ∧ Below w.heap.size w w' := by
  classical
  have _q1 := l_x1
  have _q3 := l_x3
  have _q5 := u_x3
  refine Calls.mono (R := fun e w' => e = .returned (.bool true) ∧ Gn w w') ?_ (fun e w' h => ⟨h.1, h.2.below⟩)
  go_enter Tryz.func4, Tryz.ntmps4
  go_wp2_with fail
  have hg : Gn w w := Gn.refl w
  refine (o_sanity9 _ hT).mono ?_
  rintro e w1 ⟨rfl, g⟩
  replace hg := hg.trans g
  replace hT := hT.up g
  replace h_x0 := h_x0.up g
  replace h_x2 := h_x2.up g
  clear g
  go_wp2_with fail
  skip
  refine (o_elements a0 len0 cap0 16 x0 _ h_x0 (by omega)).mono ?_
  rintro e w2 ⟨vv, rfl, ho, g⟩
  replace hg := hg.trans g
  replace hT := hT.up g
  replace h_x0 := h_x0.up g
  replace h_x2 := h_x2.up g
  clear g
  have la0 := redL_length (x0.take (min len0 16))
  obtain ⟨a, hae⟩ : ∃ a, a = redL (x0.take (min len0 16)) := ⟨_, rfl⟩
  rw [← hae] at ho la0
  have ka : a.length ≤ 16 := by rw [la0, List.length_take]; omega
  obtain ⟨na, hna⟩ : ∃ n, n = a.length := ⟨_, rfl⟩
  obtain ⟨Aa, ca, rfl, ha⟩ := ho.sf
  rw [← hna] at ha ka ⊢
  replace hna := Lib.hid hna
  clear ho la0 hae
  go_wp2_with fail
  skip
  refine (o_elements a2 len2 cap2 32 x2 _ h_x2 (by omega)).mono ?_
  rintro e w3 ⟨vv, rfl, ho, g⟩
  replace hg := hg.trans g
  replace hT := hT.up g
  replace h_x0 := h_x0.up g
  replace h_x2 := h_x2.up g
  replace ha := ha.up g
  clear g
  have lz0 := redL_length (x2.take (min len2 32))
  obtain ⟨z, hze⟩ : ∃ z, z = redL (x2.take (min len2 32)) := ⟨_, rfl⟩
  rw [← hze] at ho lz0
  have kz : z.length ≤ 32 := by rw [lz0, List.length_take]; omega
  obtain ⟨nz, hnz⟩ : ∃ n, n = z.length := ⟨_, rfl⟩
  obtain ⟨Az, cz, rfl, hz⟩ := ho.sf
  rw [← hnz] at hz kz ⊢
  replace hnz := Lib.hid hnz
  clear ho lz0 hze
  clear h_x0 h_x2
  obtain ⟨v1, v2, Ev⟩ : ∃ r e, encOf a x1 = (r, e) := ⟨_, _, rfl⟩
  replace Ev := Lib.hid Ev
  go_wp2_with fail
  skip
  refine (s_encode _ _ _ _ x1 _ hT ha (by omega) (by omega)).mono ?_
  rintro e w4 hR
  rw [Ev.out] at hR
  obtain ⟨Ahu, chu, rfl, hu, g⟩ := hR.get (rfl : v1.length = _)
  replace hg := hg.trans g
  replace hT := hT.up g
  replace ha := ha.up g
  replace hz := hz.up g
  clear g
  go_wp2_with fail
  skip
  refine (y_encode _ _ _ _ x1 _ ha (by omega) (by omega)).mono ?_
  rintro e w5 hR
  rw [Ev.out] at hR
  obtain ⟨Ahu', chu', rfl, hu', g⟩ := hR.get (rfl : v1.length = _)
  replace hg := hg.trans g
  replace hT := hT.up g
  replace ha := ha.up g
  replace hz := hz.up g
  replace hu := hu.up g
  clear g
  go_wp2_with fail
  skip
  go_loopw [16, 17] (fun v i wr => ∃ k : Nat, k ≤ na ∧ i = .int .i64 k ∧ Ow wr w5.heap.size v (tab k fun j => (⟨co a j, co a (na - 1 - j)⟩ : Ext)) ∧ Gn w5 wr) (fun _ i _ => na - (intOf i).toNat)
  case atStart => exact ⟨0, by omega, rfl, Ow.empty w5 (Nat.le_refl _), Gn.al _⟩
  case round =>
    obtain ⟨k, hk, rfl, ho, hs⟩ := hrel
    have lk : (tab k fun j => (⟨co a j, co a (na - 1 - j)⟩ : Ext)).length = k := tab_length _ _
    by_cases h1 : k < na
    · obtain ⟨m', hm'⟩ : ∃ m', m' = na - 1 - k := ⟨_, rfl⟩
      have hm2 : m' < na := by omega
      have hm3 : (na : Int) - 1 - (k : Int) = (m' : Int) := by omega
      obtain ⟨b1, o1, x, E1, hx, p1, q1⟩ := (ha.up hs).at_ h1
      obtain ⟨b2, o2, y, E2, hy, p2, q2⟩ := (ha.up hs).at_ hm2
      cases E1
      cases E2
      have hst := tab_succ k fun j => (⟨co a j, co a (na - 1 - j)⟩ : Ext)
      rw [← hm', coF_get hx, coF_get hy] at hst
      replace hst := Lib.hid hst
      clear hx hy ha hu hu' hz hT hg hm'
      generalize (tab k fun j => (⟨co a j, co a (na - 1 - j)⟩ : Ext)) = T at *
      go_wp2_with fail
      try simp only [List.append_eq, List.cons_append, List.nil_append]
      refine Fk.wp_region_flow 15 (by kernel_rfl) (by kernel_rfl) ?_
      refine Fk.flow_one rfl (freeB_spec (by kernel_rfl)) ?_
      go_big_quiet_step (fail)
      refine wpQuiet_nil ?_
      refine Fk.flow_one rfl (freeB_spec (by kernel_rfl)) ?_
      go_big_quiet_step (fail)
      refine wpQuiet_nil ?_
      refine Fk.flow_one rfl (freeB_spec (by kernel_rfl)) ?_
      go_big_quiet_step (fail)
      refine wpQuiet_nil ?_
      refine Fk.flow_one rfl (freeB_spec (by kernel_rfl)) ?_
      go_big_quiet_step (fail)
      refine wpQuiet_nil ?_
      refine Fk.flow_one rfl (freeB_spec (by kernel_rfl)) ?_
      go_big_quiet_step (fail)
      refine wpQuiet_nil ?_
      refine Fk.flow_one rfl (freeB_spec (by kernel_rfl)) ?_
      go_big_quiet_step (fail)
      refine wpQuiet_nil ?_
      refine Fk.flow_one rfl (freeB_spec (by kernel_rfl)) ?_
      go_big_quiet_step (fail)
      refine wpQuiet_nil ?_
      refine Fk.flow_is (freeB_spec (by kernel_rfl)) (is_len rfl) rfl ?_
      conv => arg 8; simp only [Act.put, List.setIfInBounds_toArray, List.set_cons_succ, List.set_cons_zero]
      refine Fk.flow_one rfl (freeB_spec (by kernel_rfl)) ?_
      go_big_quiet_step (fail)
      refine wpQuiet_nil ?_
      refine Fk.flow_one rfl (freeB_spec (by kernel_rfl)) ?_
      go_big_quiet_step (fail)
      refine wpQuiet_nil ?_
      refine Fk.flow_one rfl (freeB_spec (by kernel_rfl)) ?_
      go_big_quiet_step (fail)
      refine wpQuiet_nil ?_
      refine Fk.flow_one rfl (freeB_spec (by kernel_rfl)) ?_
      go_big_quiet_step (fail)
      refine wpQuiet_nil ?_
      refine Fk.flow_one rfl (freeB_spec (by kernel_rfl)) ?_
      go_big_quiet_step (fail)
      refine wpQuiet_nil ?_
      refine Fk.flow_one rfl (freeB_spec (by kernel_rfl)) ?_
      go_big_quiet_step (fail)
      refine wpQuiet_nil ?_
      refine flow_exS _ rfl (ex_oneE (x := ⟨x, y⟩) (arg_v (by kernel_rfl) rfl) rfl (want_fill (by kernel_rfl) (by kernel_rfl))) ?_
      intro V N' X hΓ hdis g hX
      obtain ⟨Aq, cq, vq, hq⟩ := end_sv hΓ hX 68 0 rfl
      clear hΓ hdis hX
      have hgn : Gn wr (gr wr g) := ⟨g, rfl⟩
      generalize gr wr g = w4 at *
      conv => arg 5; simp only [fill, Act.put, List.setIfInBounds_toArray, List.set_cons_succ, List.set_cons_zero, vq]
      clear vq
      replace hs := hs.trans hgn
      replace ho := ho.up hgn
      refine wpList_app (.tmp 54) (.tmp 68) rfl ho hs.size rfl hq (by simp; omega) ?_
      intro v5 w5 ho5 hg5
      have hg6 := grown_gn hs ho (Nat.le_refl _) hg5
      clear hg5 p1 q1 p2 q2
      go_wp2_with fail
      exact ⟨⟨k + 1, by omega, by go_num, by rw [hst.out]; exact ho5, hg6⟩, by simp [intOf]; omega⟩
    · obtain rfl : k = na := by omega
      obtain ⟨x, hxe⟩ : ∃ x, x = tab k fun j => (⟨co a j, co a (k - 1 - j)⟩ : Ext) := ⟨_, rfl⟩
      rw [← hxe] at ho lk
      obtain ⟨Ax, cx, rfl, hx⟩ := ho.sl
      rw [lk] at hx
      try rw [lk]
      clear ho hxe
      replace lk := Lib.hid lk
      obtain ⟨z1, z2, Ez⟩ : ∃ r e, encE x x1 = (r, e) := ⟨_, _, rfl⟩
      replace Ez := Lib.hid Ez
      replace hg := hg.trans hs
      replace hT := hT.up hs
      replace ha := ha.up hs
      replace hz := hz.up hs
      replace hu := hu.up hs
      replace hu' := hu'.up hs
      go_wp2_with fail
      skip
      refine (s_encodeExt _ _ _ _ x1 _ hT hx (by omega) (by omega)).mono ?_
      rintro e w41 hR
      rw [Ez.out] at hR
      obtain ⟨Ahp, chp, rfl, hp, g⟩ := hR.get (rfl : z1.length = _)
      clear hR
      replace hg := hg.trans g
      replace hT := hT.up g
      replace ha := ha.up g
      replace hz := hz.up g
      replace hu := hu.up g
      replace hu' := hu'.up g
      replace hx := hx.up g
      clear g
      go_wp2_with fail
      skip
      refine (y_encodeExt _ _ _ _ x1 _ hx (by omega) (by omega)).mono ?_
      rintro e w42 hR
      rw [Ez.out] at hR
      obtain ⟨Ahp', chp', rfl, hp', g⟩ := hR.get (rfl : z1.length = _)
      clear hR
      replace hg := hg.trans g
      replace hT := hT.up g
      replace ha := ha.up g
      replace hz := hz.up g
      replace hu := hu.up g
      replace hu' := hu'.up g
      replace hx := hx.up g
      replace hp := hp.up g
      clear g
      go_wp2_with fail
      skip
      have hAt : ∃ (V0 V1 : Int) (E : Int), (∀ W, Sl W Ax k cx x → Calls Tryz.prog 18 #[.slice Ax k cx, .int .i64 x1, .int .i64 x3] W fun e w' => e = .returned (.tuple #[.agg #[.int .u64 V0, .int .u64 V1], .int .i64 E]) ∧ ∃ g, w' = gr W g) ∧
          (∀ W, Sl W Ax k cx x → Calls Tryz.prog 19 #[.slice Ax k cx, .int .i64 x1, .int .i64 x3] W fun e w' => e = .returned (.tuple #[.agg #[.int .u64 V0, .int .u64 V1], .int .i64 E]) ∧ ∃ g, w' = gr W g) := by
        by_cases hv : vrow k x1 ∧ 0 ≤ x3 ∧ x3 < x1 * (k : Int)
        · obtain ⟨⟨a', m, m1, m4, hka, hxm, ham⟩, h0, h1⟩ := hv
          rw [cast_pow] at hxm
          obtain ⟨i, rfl⟩ : ∃ i : Nat, x3 = (i : Int) := ⟨x3.toNat, by omega⟩
          rw [hxm, hka, two_mul_pow] at h1
          have hi : i < 2 ^ (a' + m) := by exact_mod_cast h1
          rw [hxm]
          exact ⟨_, _, _, fun W h => s_at Ax k cx x a' m i W h m1 m4 hka ham hi, fun W h => y_at Ax k cx x a' m i W h m1 m4 hka ham hi⟩
        · exact ⟨0, 0, 1, fun W _ => s_at_bad Ax k cx x1 x3 W (by omega) (by omega) hv, fun W _ => y_at_bad Ax k cx x1 x3 W (by omega) (by omega) hv⟩
      obtain ⟨V0, V1, E, hA1, hA2⟩ := hAt
      have hIs : ∃ (q : Bool) (E : Int), (∀ W, Tab W → SF W Az nz cz z → Calls Tryz.prog 20 #[.slice Az nz cz, .int .i64 x1] W fun e w' => e = .returned (.tuple #[.bool q, .int .i64 E]) ∧ Gn W w') ∧
          (∀ W, SF W Az nz cz z → Calls Tryz.prog 21 #[.slice Az nz cz, .int .i64 x1] W fun e w' => e = .returned (.tuple #[.bool q, .int .i64 E]) ∧ Gn W w') := by
        by_cases hv : vword nz x1
        · obtain ⟨a', m, m1, m4, hna, hxm, ham⟩ := hv
          rw [cast_pow] at hxm
          rw [hxm, hna]
          exact ⟨_, _, fun W h1 h => s_is Az cz z a' m W h1 m1 m4 ham h, fun W h => y_is Az cz z a' m W m1 m4 ham h⟩
        · exact ⟨false, 1, fun W _ _ => s_is_bad Az nz cz x1 W (by omega) (by omega) hv, fun W _ => y_is_bad Az nz cz x1 W (by omega) (by omega) hv⟩
      obtain ⟨q, E2, hI1, hI2⟩ := hIs
      refine (hA1 _ hx).mono ?_
      rintro e w43 ⟨rfl, g⟩
      replace hg := hg.trans g
      replace hT := hT.up g
      replace ha := ha.up g
      replace hz := hz.up g
      replace hu := hu.up g
      replace hu' := hu'.up g
      replace hx := hx.up g
      replace hp := hp.up g
      replace hp' := hp'.up g
      clear g
      go_wp2_with fail
      skip
      have hbx := hnew w43 (.cells #[.int .u64 V0, .int .u64 V1] 41)
      replace hg := hg.trans (Gn.al (w := w43) (.cells #[.int .u64 V0, .int .u64 V1] 41))
      replace hT := hT.up (Gn.al (w := w43) (.cells #[.int .u64 V0, .int .u64 V1] 41))
      replace ha := ha.up (Gn.al (w := w43) (.cells #[.int .u64 V0, .int .u64 V1] 41))
      replace hz := hz.up (Gn.al (w := w43) (.cells #[.int .u64 V0, .int .u64 V1] 41))
      replace hu := hu.up (Gn.al (w := w43) (.cells #[.int .u64 V0, .int .u64 V1] 41))
      replace hu' := hu'.up (Gn.al (w := w43) (.cells #[.int .u64 V0, .int .u64 V1] 41))
      replace hx := hx.up (Gn.al (w := w43) (.cells #[.int .u64 V0, .int .u64 V1] 41))
      replace hp := hp.up (Gn.al (w := w43) (.cells #[.int .u64 V0, .int .u64 V1] 41))
      replace hp' := hp'.up (Gn.al (w := w43) (.cells #[.int .u64 V0, .int .u64 V1] 41))
      skip
      generalize w43.alloc (.cells #[.int .u64 V0, .int .u64 V1] 41) = w44 at *
      generalize w43.heap.size = bhbx at *
      refine (hA2 _ hx).mono ?_
      rintro e w45 ⟨rfl, g⟩
      replace hg := hg.trans g
      replace hT := hT.up g
      replace ha := ha.up g
      replace hz := hz.up g
      replace hu := hu.up g
      replace hu' := hu'.up g
      replace hx := hx.up g
      replace hp := hp.up g
      replace hp' := hp'.up g
      replace hbx := Gn.block g hbx
      clear g
      go_wp2_with fail
      skip
      have hby := hnew w45 (.cells #[.int .u64 V0, .int .u64 V1] 41)
      replace hg := hg.trans (Gn.al (w := w45) (.cells #[.int .u64 V0, .int .u64 V1] 41))
      replace hT := hT.up (Gn.al (w := w45) (.cells #[.int .u64 V0, .int .u64 V1] 41))
      replace ha := ha.up (Gn.al (w := w45) (.cells #[.int .u64 V0, .int .u64 V1] 41))
      replace hz := hz.up (Gn.al (w := w45) (.cells #[.int .u64 V0, .int .u64 V1] 41))
      replace hu := hu.up (Gn.al (w := w45) (.cells #[.int .u64 V0, .int .u64 V1] 41))
      replace hu' := hu'.up (Gn.al (w := w45) (.cells #[.int .u64 V0, .int .u64 V1] 41))
      replace hx := hx.up (Gn.al (w := w45) (.cells #[.int .u64 V0, .int .u64 V1] 41))
      replace hp := hp.up (Gn.al (w := w45) (.cells #[.int .u64 V0, .int .u64 V1] 41))
      replace hp' := hp'.up (Gn.al (w := w45) (.cells #[.int .u64 V0, .int .u64 V1] 41))
      replace hbx := Gn.block (Gn.al (w := w45) (.cells #[.int .u64 V0, .int .u64 V1] 41)) hbx
      skip
      generalize w45.alloc (.cells #[.int .u64 V0, .int .u64 V1] 41) = w46 at *
      generalize w45.heap.size = bhby at *
      refine (hI1 _ hT hz).mono ?_
      rintro e w47 ⟨rfl, g⟩
      replace hg := hg.trans g
      replace hT := hT.up g
      replace ha := ha.up g
      replace hz := hz.up g
      replace hu := hu.up g
      replace hu' := hu'.up g
      replace hx := hx.up g
      replace hp := hp.up g
      replace hp' := hp'.up g
      replace hbx := Gn.block g hbx
      replace hby := Gn.block g hby
      clear g
      go_wp2_with fail
      skip
      refine (hI2 _ hz).mono ?_
      rintro e w48 ⟨rfl, g⟩
      replace hg := hg.trans g
      replace hT := hT.up g
      replace ha := ha.up g
      replace hz := hz.up g
      replace hu := hu.up g
      replace hu' := hu'.up g
      replace hx := hx.up g
      replace hp := hp.up g
      replace hp' := hp'.up g
      replace hbx := Gn.block g hbx
      replace hby := Gn.block g hby
      clear g
      have r1 := box_a hbx; have r2 := box_b hbx; have r3 := blk_lt hbx; have r4 := box_a hby; have r5 := box_b hby; have r6 := blk_lt hby
      try go_wp2_with fail
      try simp only [List.append_eq, List.cons_append, List.nil_append]
      try go_wp2_with fail
      have hvl : v1.length ≤ 1000000 := by have h := encOf_le a x1; rw [Ev.out] at h; exact Nat.le_trans h (by decide)
      refine (y_same_true hu hu' hvl hvl rfl).mono ?_
      rintro e w49 ⟨rfl, g⟩
      replace hg := hg.trans g
      replace hT := hT.up g
      replace ha := ha.up g
      replace hz := hz.up g
      replace hu := hu.up g
      replace hu' := hu'.up g
      replace hx := hx.up g
      replace hp := hp.up g
      replace hp' := hp'.up g
      replace hbx := Gn.block g hbx
      replace hby := Gn.block g hby
      clear g
      clear r1 r2 r3 r4 r5 r6
      have r1 := box_a hbx; have r2 := box_b hbx; have r3 := blk_lt hbx; have r4 := box_a hby; have r5 := box_b hby; have r6 := blk_lt hby
      go_wp2_with fail
      skip
      refine (x_same_true hp hp' rfl).mono ?_
      rintro e w50 ⟨rfl, g⟩
      replace hg := hg.trans g
      replace hT := hT.up g
      replace ha := ha.up g
      replace hz := hz.up g
      replace hu := hu.up g
      replace hu' := hu'.up g
      replace hx := hx.up g
      replace hp := hp.up g
      replace hp' := hp'.up g
      replace hbx := Gn.block g hbx
      replace hby := Gn.block g hby
      clear g
      clear r1 r2 r3 r4 r5 r6
      have r1 := box_a hbx; have r2 := box_b hbx; have r3 := blk_lt hbx; have r4 := box_a hby; have r5 := box_b hby; have r6 := blk_lt hby
      go_wp2_with fail
      skip
      have hD1 := fun W h1 h2 => s_distance Aa Az k ca nz cz a z W h1 h2 (by omega) (by omega)
      have hD2 := fun W h1 h2 => y_distance Aa Az k ca nz cz a z W h1 h2 (by omega) (by omega)
      generalize disL a z = dd at *
      refine (hD1 _ ha hz).mono ?_
      rintro e w51 ⟨rfl, g⟩
      replace hg := hg.trans g
      replace hT := hT.up g
      replace ha := ha.up g
      replace hz := hz.up g
      replace hu := hu.up g
      replace hu' := hu'.up g
      replace hx := hx.up g
      replace hp := hp.up g
      replace hp' := hp'.up g
      replace hbx := Gn.block g hbx
      replace hby := Gn.block g hby
      clear g
      go_wp2_with fail
      skip
      refine (hD2 _ ha hz).mono ?_
      rintro e w52 ⟨rfl, g⟩
      replace hg := hg.trans g
      replace hT := hT.up g
      replace ha := ha.up g
      replace hz := hz.up g
      replace hu := hu.up g
      replace hu' := hu'.up g
      replace hx := hx.up g
      replace hp := hp.up g
      replace hp' := hp'.up g
      replace hbx := Gn.block g hbx
      replace hby := Gn.block g hby
      clear g
      go_wp2_with fail
      skip
      go_ret
      exact ⟨rfl, hg⟩

set_option linter.unusedVariables false in
set_option maxRecDepth 100000 in
set_option maxHeartbeats 1000000 in
theorem lifted (os : Os) (started : os.Started) (H : Type) (enc : TypeId × Value → H) :
    ReturnsInHanded {} Tryz.checked os 4 .any (fun w args => (Rows.reedsolomonMatchesReferenceSpec.pre enc Tryz.prog Tryz.f4 [] false w args ∧ laidMetH Tryz.prog laid2 w) ∧ sizedMet enc Tryz.prog Tryz.f4 (OpenSpec.ofChange Rows.reedsolomonMatchesReferenceSpec) false w args)
      (Rows.reedsolomonMatchesReferenceSpec.post enc Tryz.prog Tryz.f4 false true false false) := by
  refine returnsInHanded_of_change_and (C := Tryz.checked) (X := fun w _ => laidMetH Tryz.prog laid2 w) (fun _ _ _ hh h => h.of_heap hh) own started (by kernel_rfl) Tryz.func4
    (ChangeSpec.witness_shaped (enc := enc) (C := Tryz.checked) (os := os) (X := fun w _ => laidMetH Tryz.prog laid2 w) false (World.doorLaid Tryz.prog 400 os) #[.slice none 0 0, .int .i64 0, .slice none 0 0, .int .i64 0] 8 rfl (World.shaped_of_RefB (by kernel_rfl) (by kernel_rfl)) (by kernel_rfl) (by kernel_rfl) (by kernel_rfl) (door_met os _)) ?_
  intro W base args ds gs before hval0 hW _ _ hL _
  have hval : ∀ (j : Nat) t v, Tryz.f4.params[j]? = some t → args[j]? = some v → Value.okWide Tryz.prog W .any base t v := hval0
  have hW' : DataW.Whole enc Tryz.prog Tryz.f4.params.toList Rows.reedsolomonMatchesReferenceSpec.vars false W args.toList ds gs before := hW
  obtain ⟨p, q, hA0, hV, rfl, hfz, hnd⟩ := hW
  have hA : DataW.TrodAll enc Tryz.prog W 0 (fun _ => true) true Tryz.f4.params.toList args.toList ds p := hA0
  rw [Tryz.params4] at hA hval
  obtain ⟨v0, vs0, d0, ds0, p0, q0, hargs, rfl, rfl, h0, r0⟩ := trodAll_cons hA
  obtain ⟨v1, vs1, d1, ds1, p1, q1, rfl, rfl, rfl, h1, r1⟩ := trodAll_cons r0
  obtain ⟨v2, vs2, d2, ds2, p2, q2, rfl, rfl, rfl, h2, r2⟩ := trodAll_cons r1
  obtain ⟨v3, vs3, d3, ds3, p3, q3, rfl, rfl, rfl, h3, r3⟩ := trodAll_cons r2
  obtain ⟨rfl, rfl, rfl⟩ := trodAll_nil r3
  obtain rfl : args = #[v0, v1, v2, v3] := by cases args; simp_all
  obtain ⟨rfl, rfl⟩ := trodVars_none hV
  obtain ⟨a0, len0, cap0, rfl⟩ := okWide_slice Tryz.underlying22 (hval 0 22 v0 rfl rfl)
  obtain ⟨x0, hz0⟩ := openU64s h0
  obtain ⟨x1, rfl, hz1⟩ := int_open Tryz.underlying3 (hval 1 3 v1 rfl rfl)
  obtain ⟨a2, len2, cap2, rfl⟩ := okWide_slice Tryz.underlying22 (hval 2 22 v2 rfl rfl)
  obtain ⟨x2, hz2⟩ := openU64s h2
  obtain ⟨x3, rfl, hz3⟩ := int_open Tryz.underlying3 (hval 3 3 v3 rfl rfl)
  refine (walk W a0 len0 cap0 x0 x1 a2 len2 cap2 x2 x3 (tab_of_laid hL) hz0 (has_i64 hz1).1 (has_i64 hz1).2 hz2 (has_i64 hz3).1 (has_i64 hz3).2).mono fun e W' ⟨he, bel⟩ => ?_
  subst he
  exact ⟨_, rfl, law_post laidOut hW' rfl (by kernel_rfl) rfl Tryz.underlying4 rfl bel⟩

theorem row_proved : Rows.ReedsolomonMatchesReferenceSaid :=
  OpenClaim.holds_of_wide 4 Tryz.f4 rfl rfl rfl rfl rfl rfl rfl ⟨rfl, rfl, rfl, rfl, rfl⟩ rfl rfl rfl rfl rfl (by kernel_rfl) Tryz.func4 (by kernel_rfl)
    (of_decide_eq_true (by kernel_rfl)) (by unfold Func.isWrapper; first | (rw [if_pos (by decide +kernel)]; kernel_rfl) | (rw [if_neg (by decide +kernel)]; exact ⟨rfl, rfl⟩))
    (fun os started H enc _ => lifted os started H enc)

/-- the card: the row's listed variables are tied to the program's text -/
theorem proved : Rows.ReedsolomonMatchesReferenceCardSaid :=
  Claim7.holds_tied_plain_at .later [] [.data, .data] true Rows.reedsolomonMatchesReferenceCard.stood.harness false
    row_proved (fun _ h => by cases h) (by kernel_rfl) (fun _ h => by cases h) reedsolomonMatchesReference_row_tie rfl ⟨rfl, rfl⟩ (by kernel_rfl) rfl
    (fun f fn hf hfn => by
      obtain rfl : f = 4 := (Option.some.inj ((show Tryz.prog.funcNamed Rows.reedsolomonMatchesReferenceRow.func = some 4 by kernel_rfl).symm.trans hf)).symm
      obtain rfl : fn = Tryz.f4 := (Option.some.inj (Tryz.func4.symm.trans hfn)).symm
      exact ⟨by kernel_rfl, fun j t ht => by
        rw [Tryz.params4] at ht
        have hall : ([22, 3, 22, 3].all fun t => !Tryz.prog.wantsStandIn t) = true := by kernel_rfl
        have hm := List.mem_of_getElem? (show [22, 3, 22, 3][j]? = some t by simpa using ht)
        have := List.all_eq_true.1 hall t hm
        exact (show Tryz.prog.wantsStandIn t = false by simpa using this)⟩)
    (by kernel_rfl)
end Go.Proofs.YtbfblckgcefaaaaGreatDoor.lawReedsolomonMatchesReference
