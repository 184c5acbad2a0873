/- NttLinearity: for every two rows of numbers and every pair of numbers the law on the transform of a sum and a multiple returns true; no conditions. -/
import Derived.Test.YtjgdbfhpjjmjkaaDoorFrd
import Derived.Test.YtjgdbfhpjjmjkaaDoorNz
import Derived.Test.YtjgdbfhpjjmjkaaDoorOpF
namespace Go.Proofs.YtjgdbfhpjjmjkaaDoor.lawNttLinearity
open Go.ChangeShapes Go.WideShapes Go.ChangeAt Go.RowKit Att Att.CRing

set_option maxRecDepth 100000 in
set_option maxHeartbeats 4000000 in
theorem walk (w : World) (a0 : Option Addr) (len0 cap0 : Nat) (x0 : List Int) (a1 : Option Addr) (len1 cap1 : Nat) (x1 : List Int) (x2a : Int) (x2b : Int) (hT : Tab w) (h_x0 : SW w a0 len0 cap0 x0) (h_x1 : SW w a1 len1 cap1 x1) (h_x2a : In64 x2a) (h_x2b : In64 x2b) :
    Calls Tryd.prog 5 #[.slice a0 len0 cap0, .slice a1 len1 cap1, .agg #[.int .u64 x2a, .int .u64 x2b]] w fun e w' => e = .returned (.bool true) ∧ Below w.heap.size w w' := by
  obtain ⟨kn, rfl⟩ : ∃ kn : Nat, x2a = (kn : Int) := ⟨x2a.toNat, by rw [Int.toNat_of_nonneg h_x2a.nn]⟩
  have hk : bits .and .u64 (kn : Int) 15 = ((kn &&& 15 : Nat) : Int) := bits_and_u64_nat kn 15 (by have := h_x2a.lt; omega) (by omega)
  have hk15 : kn &&& 15 ≤ 15 := Nat.and_le_right
  generalize kn &&& 15 = k0 at *
  obtain ⟨s, hs⟩ : ∃ s, s = k0 % 9 := ⟨_, rfl⟩
  have hs8 : s ≤ 8 := by omega
  replace hs := Lib.hid hs
  obtain ⟨sc, hsc⟩ : ∃ sc : F, int x2b = sc := ⟨_, rfl⟩
  replace hsc := Lib.hid hsc
  have hwr : IntKind.u8.wrap (k0 : Int) = (k0 : Int) := IntWalk.u8_in _ (by omega)
  have B0 : x0.length ≤ 9223372036854775807 := by rw [h_x0.len]; have := h_x0.le; have := h_x0.small; omega
  have B1 : x1.length ≤ 9223372036854775807 := by rw [h_x1.len]; have := h_x1.le; have := h_x1.small; omega
  refine Calls.mono (R := fun e w' => e = .returned (.bool true) ∧ Gn w w') ?_ (fun e w' h => ⟨h.1, h.2.below⟩)
  go_enter Tryd.func5, Tryd.ntmps5
  go_wp2_with fail
  have hg : Gn w w := Gn.refl w
  have hx := hnew w (.cells #[.int .u64 (kn : Int), .int .u64 x2b] 35)
  replace hg := hg.trans (Gn.al (w := w) (.cells #[.int .u64 (kn : Int), .int .u64 x2b] 35))
  replace hT := hT.up (Gn.al (w := w) (.cells #[.int .u64 (kn : Int), .int .u64 x2b] 35))
  replace h_x0 := h_x0.up (Gn.al (w := w) (.cells #[.int .u64 (kn : Int), .int .u64 x2b] 35))
  replace h_x1 := h_x1.up (Gn.al (w := w) (.cells #[.int .u64 (kn : Int), .int .u64 x2b] 35))
  skip
  generalize w.alloc (.cells #[.int .u64 (kn : Int), .int .u64 x2b] 35) = w0 at *
  generalize w.heap.size = bx at *
  refine (o_sanity4 _ hT).mono ?_
  rintro e w1 ⟨rfl, g⟩
  replace hg := hg.trans g
  replace hT := hT.up g
  replace h_x0 := h_x0.up g
  replace h_x1 := h_x1.up g
  replace hx := Gn.block g hx
  clear g
  have q0 := obj_cell hx 0 rfl
  have q1 := obj_cell hx 1 rfl
  have ql := blk_lt hx
  go_wp2_with fail
  skip
  have i0 : isW x0 _ w1 := ⟨_, _, _, rfl, h_x0⟩
  have i1 : isW x1 _ w1 := ⟨_, _, _, rfl, h_x1⟩
  try simp only [List.append_eq, List.cons_append, List.nil_append]
  refine Fk.wp_region_flow 15 (by kernel_rfl) (by kernel_rfl) ?_
  refine Fk.flow_one rfl (freeB_spec (by kernel_rfl)) ?_
  go_big_quiet_step (fail)
  refine wpQuiet_nil ?_
  refine Fk.flow_one rfl (freeB_spec (by kernel_rfl)) ?_
  go_big_quiet_step (fail)
  refine wpQuiet_nil ?_
  refine Fk.flow_one rfl (freeB_spec (by kernel_rfl)) ?_
  go_big_quiet_step (fail)
  refine wpQuiet_nil ?_
  refine Fk.flow_one rfl (freeB_spec (by kernel_rfl)) ?_
  go_big_quiet_step (fail)
  refine wpQuiet_nil ?_
  refine Fk.flow_one rfl (freeB_spec (by kernel_rfl)) ?_
  go_big_quiet_step (fail)
  refine wpQuiet_nil ?_
  refine flow_exS _ rfl (ex_call3 (k_made4 (l := x0) (k := (k0 : Int)) (most := 8) (s := s) B0 (by omega) (by omega) (by omega) (by have := hs.out; omega)) rfl (by kernel_rfl) (want_fill (by kernel_rfl) (by kernel_rfl)) (arg_w0 (by kernel_rfl) rfl i0) (arg_v (by kernel_rfl) rfl) (arg_c)) ?_
  refine Fk.flow_one rfl (freeB_spec (by kernel_rfl)) ?_
  go_big_quiet_step (fail)
  refine wpQuiet_nil ?_
  refine Fk.flow_one rfl (freeB_spec (by kernel_rfl)) ?_
  go_big_quiet_step (fail)
  refine wpQuiet_nil ?_
  refine Fk.flow_one rfl (freeB_spec (by kernel_rfl)) ?_
  go_big_quiet_step (fail)
  refine wpQuiet_nil ?_
  refine Fk.flow_one rfl (freeB_spec (by kernel_rfl)) ?_
  go_big_quiet_step (fail)
  refine wpQuiet_nil ?_
  refine Fk.flow_one rfl (freeB_spec (by kernel_rfl)) ?_
  go_big_quiet_step (fail)
  refine wpQuiet_nil ?_
  refine flow_exS _ rfl (ex_call3 (k_made4 (l := x1) (k := (k0 : Int)) (most := 8) (s := s) B1 (by omega) (by omega) (by omega) (by have := hs.out; omega)) rfl (by kernel_rfl) (want_fill (by kernel_rfl) (by kernel_rfl)) (arg_w0 (by kernel_rfl) rfl i1) (arg_v (by kernel_rfl) rfl) (arg_c)) ?_
  refine Fk.flow_one rfl (freeB_spec (by kernel_rfl)) ?_
  go_big_quiet_step (fail)
  refine wpQuiet_nil ?_
  refine Fk.flow_one rfl (freeB_spec (by kernel_rfl)) ?_
  go_big_quiet_step (fail)
  refine wpQuiet_nil ?_
  refine flow_knS (.int .u64 (Zm.i (sc))) rfl (ex_call1 (k_reduce h_x2b hsc.out) rfl (by kernel_rfl) (want_fill (by kernel_rfl) (by kernel_rfl)) (arg_v (by kernel_rfl) rfl)) ?_
  conv => arg 8; simp only [Act.put, List.setIfInBounds_toArray, List.set_cons_succ, List.set_cons_zero]
  intro V N' X hΓ hdis g hX
  obtain ⟨Aa, ca, va, ha⟩ := end_fv hΓ hX 26 1 rfl
  obtain ⟨Ab, cb, vb, hb⟩ := end_fv hΓ hX 32 0 rfl
  clear hΓ hdis hX
  have hgn : Gn w1 (gr w1 g) := ⟨g, rfl⟩
  generalize gr w1 g = w2 at *
  replace hg := hg.trans hgn
  replace hT := hT.up hgn
  replace h_x0 := h_x0.up hgn
  replace h_x1 := h_x1.up hgn
  replace hx := Gn.block hgn hx
  clear hgn
  conv => arg 5; simp only [fill, Act.put, List.setIfInBounds_toArray, List.set_cons_succ, List.set_cons_zero, va, vb]
  clear va
  clear vb
  clear h_x0 h_x1 hx
  clear i0 i1 q0 q1 ql hk hwr B0 B1
  obtain ⟨a, hae⟩ : ∃ a, a = padF (redL x0) (2 ^ s) := ⟨_, rfl⟩
  obtain ⟨b, hbe⟩ : ∃ b, b = padF (redL x1) (2 ^ s) := ⟨_, rfl⟩
  have la : a.length = 2 ^ s := by rw [hae, padF_length]
  have lb : b.length = 2 ^ s := by rw [hbe, padF_length]
  rw [← hae, la] at ha
  rw [← hbe, lb] at hb
  rw [← hae, ← hbe, la, lb]
  clear hae hbe
  have pa : 2 ^ s ≤ 1024 := Nat.le_trans (Nat.pow_le_pow_right (n := 2) (by omega) (show s ≤ 10 by omega)) (by decide)
  have pa0 : 0 < 2 ^ s := Nat.pow_pos (by omega)
  obtain ⟨t, ht⟩ : ∃ t, t = tab (2 ^ s) fun i => co a i + sc * co b i := ⟨_, rfl⟩
  have lt : t.length = 2 ^ s := by rw [ht, tab_length]
  obtain ⟨c, Ec, lc, _, Vc⟩ := fwd_ok la (by omega)
  obtain ⟨d, Ed, ld, _, Vd⟩ := fwd_ok lb (by omega)
  obtain ⟨e, Ee, le, _, Ve⟩ := fwd_ok lt (by omega)
  have hV : ∀ i, i < 2 ^ s → ∃ x y, c[i]? = some x ∧ d[i]? = some y ∧ e[i]? = some (x + sc * y) := by
    intro i hi
    refine ⟨_, _, by rw [Vc]; exact get_valP hi, by rw [Vd]; exact get_valP hi, ?_⟩
    rw [Ve, get_valP hi, ev_map2 la lb sc ht]
  clear Vc Vd Ve
  generalize 2 ^ s = n at *
  replace la := Lib.hid la; replace lb := Lib.hid lb; replace lc := Lib.hid lc; replace ld := Lib.hid ld; replace le := Lib.hid le; replace lt := Lib.hid lt
  replace ht := Lib.hid ht; replace hV := Lib.hid hV; replace Ec := Lib.hid Ec; replace Ed := Lib.hid Ed; replace Ee := Lib.hid Ee
  go_wp2_with fail
  skip
  go_loopw [11, 12] (fun v i wr => ∃ k : Nat, k ≤ n ∧ i = .int .i64 k ∧ OF wr w2.heap.size v (tab k fun i => co a i + sc * co b i) ∧ Gn w2 wr) (fun _ i _ => n - (intOf i).toNat)
  case atStart => exact ⟨0, by omega, rfl, OF.empty w2 (Nat.le_refl _), Gn.al _⟩
  case round =>
    obtain ⟨k, hk, rfl, ho, hr⟩ := hrel
    by_cases h1 : k < n
    · replace ha := ha.up hr; replace hb := hb.up hr
      obtain ⟨b1, o1, x, E1, h1', p1, q1⟩ := ha.at_ h1
      first | cases E1 | (subst E1)
      try rw [Nat.zero_add] at q1
      obtain ⟨b2, o2, y, E2, h2', p2, q2⟩ := hb.at_ h1
      first | cases E2 | (subst E2)
      try rw [Nat.zero_add] at q2
      have hst := Lib.hid (tab_succ k fun i => co a i + sc * co b i)
      rw [coF_at h1', coF_at h2'] at hst
      have lk2 : (tab k fun i => co a i + sc * co b i).length ≤ 1024 := by rw [tab_length]; omega
      clear h1' h2' hg hT
      generalize (tab k fun i => co a i + sc * co b i) = T at *
      go_wp2_with fail
      try simp only [List.append_eq, List.cons_append, List.nil_append]
      refine Fk.wp_region_flow 13 (by kernel_rfl) (by kernel_rfl) ?_
      refine Fk.flow_one rfl (freeB_spec (by kernel_rfl)) ?_
      go_big_quiet_step (fail)
      refine wpQuiet_nil ?_
      refine Fk.flow_one rfl (freeB_spec (by kernel_rfl)) ?_
      go_big_quiet_step (fail)
      refine wpQuiet_nil ?_
      refine Fk.flow_one rfl (freeB_spec (by kernel_rfl)) ?_
      go_big_quiet_step (fail)
      refine wpQuiet_nil ?_
      refine Fk.flow_one rfl (freeB_spec (by kernel_rfl)) ?_
      go_big_quiet_step (fail)
      refine wpQuiet_nil ?_
      refine Fk.flow_one rfl (freeB_spec (by kernel_rfl)) ?_
      go_big_quiet_step (fail)
      refine wpQuiet_nil ?_
      refine Fk.flow_one rfl (freeB_spec (by kernel_rfl)) ?_
      go_big_quiet_step (fail)
      refine wpQuiet_nil ?_
      refine Fk.flow_one rfl (freeB_spec (by kernel_rfl)) ?_
      go_big_quiet_step (fail)
      refine wpQuiet_nil ?_
      refine Fk.flow_one rfl (freeB_spec (by kernel_rfl)) ?_
      go_big_quiet_step (fail)
      refine wpQuiet_nil ?_
      refine Fk.flow_one rfl (freeB_spec (by kernel_rfl)) ?_
      go_big_quiet_step (fail)
      refine wpQuiet_nil ?_
      refine Fk.flow_one rfl (freeB_spec (by kernel_rfl)) ?_
      go_big_quiet_step (fail)
      refine wpQuiet_nil ?_
      apply Fk.flow_is
      · exact freeB_spec (by kernel_rfl)
      · intro g K hK
        go_wp2_with fail
        refine (r_mulF sc y _).mono ?_
        rintro e w' ⟨rfl, rfl⟩
        go_wp2_with fail
        exact hK _ (Up.refl _)
      · rfl
      conv => arg 8; simp only [Act.put, List.setIfInBounds_toArray, List.set_cons_succ, List.set_cons_zero]
      apply Fk.flow_is
      · exact freeB_spec (by kernel_rfl)
      · intro g K hK
        go_wp2_with fail
        refine (r_addF x (sc * y) _).mono ?_
        rintro e w' ⟨rfl, rfl⟩
        go_wp2_with fail
        exact hK _ (Up.refl _)
      · rfl
      conv => arg 8; simp only [Act.put, List.setIfInBounds_toArray, List.set_cons_succ, List.set_cons_zero]
      refine flow_exS _ rfl (ex_oneF (arg_v (by kernel_rfl) rfl) rfl (want_fill (by kernel_rfl) (by kernel_rfl))) ?_
      intro V N' X hΓ hdis g hX
      obtain ⟨Az, cz, vz, hz⟩ := end_fv hΓ hX 55 0 rfl
      clear hΓ hdis hX
      have hgn : Gn wr (gr wr g) := ⟨g, rfl⟩
      generalize gr wr g = w91 at *
      replace hr := hr.trans hgn
      replace ho := ho.up hgn
      conv => arg 5; simp only [fill, Act.put, List.setIfInBounds_toArray, List.set_cons_succ, List.set_cons_zero, vz]
      clear vz
      refine wpList_appF (.tmp 43) (.tmp 55) rfl ho hr.size rfl hz (by simp; omega) ?_
      intro v4 w4 ho4 hg4
      have hg5 := grown_gnF hr ho (Nat.le_refl _) hg4
      clear hg4 p1 q1 p2 q2
      go_wp2_with fail
      exact ⟨⟨k + 1, by omega, by go_num, by rw [hst.out]; exact ho4, hg5⟩, by simp [intOf]; omega⟩
    · obtain rfl : k = n := by omega
      rw [← ht.out] at ho
      obtain ⟨At, ct, rfl, ht'⟩ := ho.sf
      rw [lt.out] at ht'
      try rw [lt.out]
      clear ho
      replace hg := hg.trans hr
      replace hT := hT.up hr
      replace ha := ha.up hr
      replace hb := hb.up hr
      go_wp2_with fail
      skip
      refine (n_forward _ _ _ _ _ hT ha (by omega)).mono ?_
      rintro e w31 hR
      rw [Ec.out] at hR
      obtain ⟨Ahc, chc, rfl, hc, g⟩ := hR.get lc.out
      replace hg := hg.trans g
      replace hT := hT.up g
      replace ha := ha.up g
      replace hb := hb.up g
      replace ht' := ht'.up g
      clear g
      go_wp2_with fail
      skip
      refine (n_forward _ _ _ _ _ hT hb (by omega)).mono ?_
      rintro e w32 hR
      rw [Ed.out] at hR
      obtain ⟨Ahd, chd, rfl, hd, g⟩ := hR.get ld.out
      replace hg := hg.trans g
      replace hT := hT.up g
      replace ha := ha.up g
      replace hb := hb.up g
      replace ht' := ht'.up g
      replace hc := hc.up g
      clear g
      go_wp2_with fail
      skip
      refine (n_forward _ _ _ _ _ hT ht' (by omega)).mono ?_
      rintro e w33 hR
      rw [Ee.out] at hR
      obtain ⟨Ahe, che, rfl, he, g⟩ := hR.get le.out
      replace hg := hg.trans g
      replace hT := hT.up g
      replace ha := ha.up g
      replace hb := hb.up g
      replace ht' := ht'.up g
      replace hc := hc.up g
      replace hd := hd.up g
      clear g
      go_wp2_with fail
      skip
      go_loopw [19] (fun v wr => ∃ i : Nat, i ≤ k ∧ v = .int .i64 i ∧ Gn w33 wr) (fun v _ => k - (intOf v).toNat)
      case atStart => exact ⟨0, by omega, rfl, Gn.refl _⟩
      case round =>
        obtain ⟨i, hi, rfl, hr2⟩ := hrel
        by_cases h1 : i < k
        · replace hc := hc.up hr2; replace hd := hd.up hr2; replace he := he.up hr2
          obtain ⟨x, y, hx1, hy1, hz1⟩ := hV.out i h1
          obtain ⟨b1, o1, x', E1, h1', p1, q1⟩ := hc.at_ h1
          first | cases E1 | (subst E1)
          try rw [Nat.zero_add] at q1
          obtain rfl := Option.some.inj (h1'.symm.trans hx1)
          obtain ⟨b2, o2, y', E2, h2', p2, q2⟩ := hd.at_ h1
          first | cases E2 | (subst E2)
          try rw [Nat.zero_add] at q2
          obtain rfl := Option.some.inj (h2'.symm.trans hy1)
          obtain ⟨b3, o3, z', E3, h3', p3, q3⟩ := he.at_ h1
          first | cases E3 | (subst E3)
          try rw [Nat.zero_add] at q3
          obtain rfl := Option.some.inj (h3'.symm.trans hz1)
          clear hx1 hy1 hz1 h1' h2' h3' hg
          go_wp2_with fail
          try simp only [List.append_eq, List.cons_append, List.nil_append]
          refine wp_region_gr (by kernel_rfl) (lex_of_chk (by kernel_rfl) (by kernel_rfl)) ?_
          repeat (go_big_quiet_step ((first | (go_at_call 24; with_reducible apply qa (r_reduceF _ _); rfl) | (go_at_call 26; with_reducible apply qa (r_mulF _ _ _); rfl) | (go_at_call 25; with_reducible apply qa (r_addF _ _ _); rfl))))
          refine wpQuiet_nil ?_
          intro wq gd
          replace hr2 := hr2.trans gd
          clear gd p1 q1 p2 q2 p3 q3
          go_wp2_with fail
          exact ⟨⟨i + 1, by omega, by go_num, hr2⟩, by simp [intOf]; omega⟩
        · obtain rfl : i = k := by omega
          go_wp2_with fail
          go_ret
          exact ⟨rfl, hg.trans hr2⟩

set_option linter.unusedVariables false in
set_option maxRecDepth 100000 in
set_option maxHeartbeats 1000000 in
theorem lifted (os : Os) (started : os.Started) (H : Type) (enc : TypeId × Value → H) :
    ReturnsInHanded {} Tryd.checked os 5 .any (fun w args => (Rows.nttLinearitySpec.pre enc Tryd.prog Tryd.f5 [] false w args ∧ laidMetH Tryd.prog laid2 w) ∧ sizedMet enc Tryd.prog Tryd.f5 (OpenSpec.ofChange Rows.nttLinearitySpec) false w args)
      (Rows.nttLinearitySpec.post enc Tryd.prog Tryd.f5 false true false false) := by
  refine returnsInHanded_of_change_and (C := Tryd.checked) (X := fun w _ => laidMetH Tryd.prog laid2 w) (fun _ _ _ hh h => h.of_heap hh) own started (by kernel_rfl) Tryd.func5
    (ChangeSpec.witness_shaped (enc := enc) (C := Tryd.checked) (os := os) (X := fun w _ => laidMetH Tryd.prog laid2 w) false (World.doorLaid Tryd.prog 400 os) #[.slice none 0 0, .slice none 0 0, .agg #[.int .u64 0, .int .u64 0]] 8 rfl (World.shaped_of_RefB (by kernel_rfl) (by kernel_rfl)) (by kernel_rfl) (by kernel_rfl) (by kernel_rfl) (door_met os _)) ?_
  intro W base args ds gs before hval0 hW _ _ hL _
  have hval : ∀ (j : Nat) t v, Tryd.f5.params[j]? = some t → args[j]? = some v → Value.okWide Tryd.prog W .any base t v := hval0
  have hW' : DataW.Whole enc Tryd.prog Tryd.f5.params.toList Rows.nttLinearitySpec.vars false W args.toList ds gs before := hW
  obtain ⟨p, q, hA0, hV, rfl, hfz, hnd⟩ := hW
  have hA : DataW.TrodAll enc Tryd.prog W 0 (fun _ => true) true Tryd.f5.params.toList args.toList ds p := hA0
  rw [Tryd.params5] at hA hval
  obtain ⟨v0, vs0, d0, ds0, p0, q0, hargs, rfl, rfl, h0, r0⟩ := trodAll_cons hA
  obtain ⟨v1, vs1, d1, ds1, p1, q1, rfl, rfl, rfl, h1, r1⟩ := trodAll_cons r0
  obtain ⟨v2, vs2, d2, ds2, p2, q2, rfl, rfl, rfl, h2, r2⟩ := trodAll_cons r1
  obtain ⟨rfl, rfl, rfl⟩ := trodAll_nil r2
  obtain rfl : args = #[v0, v1, v2] := by cases args; simp_all
  obtain ⟨rfl, rfl⟩ := trodVars_none hV
  obtain ⟨a0, len0, cap0, rfl⟩ := okWide_slice Tryd.underlying22 (hval 0 22 v0 rfl rfl)
  obtain ⟨x0, hz0⟩ := openU64s h0
  obtain ⟨a1, len1, cap1, rfl⟩ := okWide_slice Tryd.underlying22 (hval 1 22 v1 rfl rfl)
  obtain ⟨x1, hz1⟩ := openU64s h1
  obtain ⟨zs2, hlen2, rfl, hz2⟩ := aggs_open (k := .u64) (ts := [34, 34]) (n := 2) (by kernel_rfl) (by kernel_rfl) (by kernel_rfl) (by kernel_rfl) (hval 2 35 v2 rfl rfl)
  obtain ⟨x2a, x2b, rfl⟩ := list2 zs2 hlen2
  refine (walk W a0 len0 cap0 x0 a1 len1 cap1 x1 x2a x2b (tab_of_laid hL) hz0 hz1 ⟨(has_u64 (hz2 x2a (by simp))).1, (has_u64 (hz2 x2a (by simp))).2⟩ ⟨(has_u64 (hz2 x2b (by simp))).1, (has_u64 (hz2 x2b (by simp))).2⟩).mono fun e W' ⟨he, bel⟩ => ?_
  subst he
  exact ⟨_, rfl, law_post laidOut hW' rfl (by kernel_rfl) rfl Tryd.underlying4 rfl bel⟩

theorem row_proved : Rows.NttLinearitySaid :=
  OpenClaim.holds_of_wide 5 Tryd.f5 rfl rfl rfl rfl rfl rfl rfl ⟨rfl, rfl, rfl, rfl, rfl⟩ rfl rfl rfl rfl rfl (by kernel_rfl) Tryd.func5 (by kernel_rfl)
    (of_decide_eq_true (by kernel_rfl)) (by unfold Func.isWrapper; first | (rw [if_pos (by decide +kernel)]; kernel_rfl) | (rw [if_neg (by decide +kernel)]; exact ⟨rfl, rfl⟩))
    (fun os started H enc _ => lifted os started H enc)

/-- the card: the row's listed variables are tied to the program's text -/
theorem proved : Rows.NttLinearityCardSaid :=
  Claim7.holds_tied_plain_at .later [] [.data, .data] true Rows.nttLinearityCard.stood.harness false
    row_proved (fun _ h => by cases h) (by kernel_rfl) (fun _ h => by cases h) nttLinearity_row_tie rfl ⟨rfl, rfl⟩ (by kernel_rfl) rfl
    (fun f fn hf hfn => by
      obtain rfl : f = 5 := (Option.some.inj ((show Tryd.prog.funcNamed Rows.nttLinearityRow.func = some 5 by kernel_rfl).symm.trans hf)).symm
      obtain rfl : fn = Tryd.f5 := (Option.some.inj (Tryd.func5.symm.trans hfn)).symm
      exact ⟨by kernel_rfl, fun j t ht => by
        rw [Tryd.params5] at ht
        have hall : ([22, 22, 35].all fun t => !Tryd.prog.wantsStandIn t) = true := by kernel_rfl
        have hm := List.mem_of_getElem? (show [22, 22, 35][j]? = some t by simpa using ht)
        have := List.all_eq_true.1 hall t hm
        exact (show Tryd.prog.wantsStandIn t = false by simpa using this)⟩)
    (by kernel_rfl)
end Go.Proofs.YtjgdbfhpjjmjkaaDoor.lawNttLinearity
