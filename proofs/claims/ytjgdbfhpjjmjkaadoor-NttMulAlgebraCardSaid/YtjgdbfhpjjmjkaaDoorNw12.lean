/- The walks of the reference of ntt: Forward, Inverse, Extend, Mul. -/
import Derived.Test.YtjgdbfhpjjmjkaaDoorNw11
import Derived.Test.YtjgdbfhpjjmjkaaDoorPm
namespace Go.Proofs.YtjgdbfhpjjmjkaaDoor
open Go.RowKit Att Att.CRing
theorem logIs_pow {k : Nat} {r : Int} (hk : k ≤ 16) (h : LogIs ((2 ^ k : Nat) : Int) r) : r = (k : Int) := by
  rcases h with ⟨j, hj, e, rfl⟩ | ⟨_, h⟩
  · rw [cast_pow] at e
    have e2 : 2 ^ k = 2 ^ j := by exact_mod_cast e
    rw [pow_inj2 e2]
  · exact absurd (cast_pow k).symm (h k hk)
theorem logIs_bad {n : Nat} {r : Int} (hv : ¬ vlen n) (h : LogIs (n : Int) r) : r = -1 := by
  rcases h with ⟨j, hj, e, rfl⟩ | ⟨h, _⟩
  · rw [cast_pow] at e
    exact absurd ⟨j, hj, by exact_mod_cast e⟩ hv
  · exact h
theorem x_log_pow (k : Nat) (hk : k ≤ 16) (w : World) : Calls Tryd.prog 28 #[.int .i64 ((2 ^ k : Nat) : Int)] w fun e w' => e = .returned (.int .i64 k) ∧ ∃ g, w' = gr w g := by
  refine (x_log _ w).mono ?_
  rintro e w' ⟨⟨r, rfl, h⟩, g⟩
  rw [logIs_pow hk h]
  exact ⟨rfl, g⟩
theorem x_log_bad (n : Nat) (hv : ¬ vlen n) (w : World) : Calls Tryd.prog 28 #[.int .i64 n] w fun e w' => e = .returned (.int .i64 (-1)) ∧ ∃ g, w' = gr w g := by
  refine (x_log _ w).mono ?_
  rintro e w' ⟨⟨r, rfl, h⟩, g⟩
  rw [logIs_bad hv h]
  exact ⟨rfl, g⟩
theorem r_rootN (k : Nat) (hk : k ≤ 32) (w : World) : Calls Tryd.prog 27 #[.int .i64 k] w fun e w' => e = .returned (.tuple #[.int .u64 (Zm.i (root k)), .int .i64 0]) ∧ w = w' := by
  have h := r_root (k : Int) (by omega) (by omega) w
  rwa [Int.toNat_natCast] at h
theorem r_invF (x : F) (hx : x ≠ 0) (w : World) : Calls Tryd.prog 38 #[.int .u64 (Zm.i (x))] w fun e w' => e = .returned (.tuple #[.int .u64 (Zm.i ((Fld.inv x : F))), .int .i64 0]) ∧ w = w' := by
  have h0 : 0 < Zm.i x := by
    have h1 := i_nn x
    rcases Int.lt_or_le 0 (Zm.i x) with h | h
    · exact h
    · exact absurd (i_inj (show Zm.i x = Zm.i 0 by rw [i_zero]; omega)) hx
  have h := r_inv (Zm.i x) h0 w
  rwa [int_i] at h
theorem coF_at {l : List F} {i : Nat} {x : F} (h : l[i]? = some x) : co l i = x := by
  have hi := (List.getElem?_eq_some_iff.1 h).1
  rw [co_get l i hi]
  exact (List.getElem?_eq_some_iff.1 h).2
open Classical in
set_option maxHeartbeats 1000000 in
theorem x_forward (A : Option Addr) (n c : Nat) (l : List F) (w : World) (hl : SF w A n c l) (hn : n ≤ 1000000) :
    Calls Tryd.prog 15 #[.slice A n c] w fun e w' => Ret4 e w w' (fwdOf l) := by
  by_cases hv : vlen n
  · obtain ⟨k, hk, rfl⟩ := hv
    rw [fwdOf_pow hl.len hk]
    have hL := x_log_pow k hk
    have hR := r_rootN k (by omega)
    generalize root k = u at *
    generalize 2 ^ k = n at *
    go_enter Tryd.func15, Tryd.ntmps15
    go_wp2_with fail
    refine (hL _).mono ?_
    rintro e w1 ⟨rfl, g1⟩
    have hg1 : Gn w w1 := g1
    clear g1
    go_wp2_with fail
    refine (hR _).mono ?_
    rintro e w2 ⟨rfl, rfl⟩
    go_wp2_with fail
    refine (x_values A n c l u n _ (hl.up hg1) hn hn).mono ?_
    rintro e w3 ⟨v, rfl, ho, g3⟩
    obtain ⟨A', c', rfl, hs⟩ := ho.sf
    go_wp2_with fail
    go_ret2
    exact ⟨⟨A', c', rfl, hs⟩, hg1.trans g3⟩
  · rw [fwdOf_bad (by rw [hl.len]; exact hv)]
    have hL := x_log_bad n hv
    clear hv
    go_enter Tryd.func15, Tryd.ntmps15
    go_wp2_with fail
    refine (hL _).mono ?_
    rintro e w1 ⟨rfl, g1⟩
    go_wp2_with fail
    go_ret2
    exact ⟨⟨none, 0, rfl, SF.nil _⟩, g1⟩
open Classical in
set_option maxHeartbeats 1000000 in
theorem x_inverse (A : Option Addr) (n c : Nat) (l : List F) (w : World) (hl : SF w A n c l) (hn : n ≤ 1000000) :
    Calls Tryd.prog 17 #[.slice A n c] w fun e w' => Ret4 e w w' (invOf l) := by
  by_cases hv : vlen n
  · obtain ⟨k, hk, rfl⟩ := hv
    rw [invOf_pow hl.len hk]
    have hp := pow_lt hk
    have hp0 : 0 < 2 ^ k := Nat.pow_pos (by omega)
    have hL := x_log_pow k hk
    have hR := r_rootN k (by omega)
    have hV := r_invF (root k) ((root_prim k (by omega)).ne_zero)
    generalize root k = u at *
    obtain ⟨v, hv⟩ : ∃ v, v = Fld.inv u := ⟨_, rfl⟩
    rw [← hv] at hV ⊢
    clear hv
    have hX := fun w hl => x_values A (2 ^ k) c l v (2 ^ k) w hl hn hn
    have HP := Lib.hid (valP_length l v (2 ^ k))
    generalize valP l v (2 ^ k) = M at *
    generalize 2 ^ k = n at *
    have hI := fun w => @r_inv (n : Int) ⟨by omega, by omega⟩ (by omega) w
    obtain ⟨z, hz⟩ : ∃ z, z = (Fld.inv (int (n : Int)) : F) := ⟨_, rfl⟩
    rw [← hz] at hI ⊢
    clear hz
    go_enter Tryd.func17, Tryd.ntmps17
    go_wp2_with fail
    refine (hL _).mono ?_
    rintro e w1 ⟨rfl, g1⟩
    have hg1 : Gn w w1 := g1
    clear g1
    go_wp2_with fail
    refine (hR _).mono ?_
    rintro e w2 ⟨rfl, rfl⟩
    go_wp2_with fail
    refine (hV _).mono ?_
    rintro e w2 ⟨rfl, rfl⟩
    go_wp2_with fail
    refine (hI _).mono ?_
    rintro e w2 ⟨rfl, rfl⟩
    go_wp2_with fail
    refine (hX _ (hl.up hg1)).mono ?_
    rintro e w3 ⟨v3, rfl, ho, g3⟩
    obtain ⟨g, c', rest, rfl, hr3, hb, hc1, hc2⟩ := ho.rf (by rw [HP.out]; exact hp0)
    have hg3 := hg1.trans g3
    have hbb := Nat.le_trans hg1.size hb
    rw [HP.out] at hc1 ⊢
    rw [← mulF_zero M z] at hr3
    clear ho g3 hb hg1
    go_wp2_with fail
    go_loopw [12] (fun v wr => ∃ i : Nat, i ≤ n ∧ v = .int .i64 i ∧ RF wr g (mulF M z i) rest ∧ Gn w wr) (fun v _ => n - (intOf v).toNat)
    case atStart => exact ⟨0, by omega, rfl, hr3, hg3⟩
    case round =>
      clear hr3 hg3
      obtain ⟨i, hi, rfl, hr, hg⟩ := hrel
      by_cases h1 : i < n
      · have hx := mulF_get M z (i := i) (by rw [HP.out]; exact h1)
        have hst := Lib.hid (mulF_set M z (i := i) (by rw [HP.out]; exact h1))
        have hil := Lib.hid (show i < (mulF M z i).length by rw [mulF_len, HP.out]; exact h1)
        generalize co M i = x at *
        have hr2 := RF.set hr hil.out (x * z)
        have hg2 := setF_below (i := i) hg hbb (x * z)
        rw [hst.out] at hr2
        have c1 := hr.cell hx
        have c3 := blk_lt hr
        have f1 := box_fz (i := i) hr
        clear hx
        go_wp2_with fail
        refine (r_mulF x z _).mono ?_
        rintro e w5 ⟨rfl, rfl⟩
        go_wp2_with fail
        exact ⟨⟨i + 1, by omega, by go_num, hr2, hg2⟩, by simp [intOf]; omega⟩
      · obtain rfl : i = n := by omega
        have he := Lib.hid (mulF_end M z)
        rw [HP.out] at he
        rw [he.out] at hr
        go_wp2_with fail
        go_ret2
        have e := HP.out
        refine ⟨⟨some ⟨g, 0, none⟩, c', ?_, ?_⟩, hg⟩
        · simp [e]
        · exact hr.sf (by simp [e]; exact hc1) hc2
  · rw [invOf_bad (by rw [hl.len]; exact hv)]
    have hL := x_log_bad n hv
    clear hv
    go_enter Tryd.func17, Tryd.ntmps17
    go_wp2_with fail
    refine (hL _).mono ?_
    rintro e w1 ⟨rfl, g1⟩
    go_wp2_with fail
    go_ret2
    exact ⟨⟨none, 0, rfl, SF.nil _⟩, g1⟩
open Classical in
set_option maxHeartbeats 1000000 in
theorem x_extend (A : Option Addr) (n c : Nat) (l : List F) (b : Int) (w : World) (hl : SF w A n c l) (hn : n ≤ 1000000) :
    Calls Tryd.prog 19 #[.slice A n c, .int .i64 b] w fun e w' => Ret4 e w w' (extOf l b) := by
  by_cases hv : vlen n
  · obtain ⟨k, hk, rfl⟩ := hv
    have hL := x_log_pow k hk
    have hLb := x_log b
    have hlen := hl.len
    by_cases hm : ∃ m : Nat, m ≤ 16 ∧ b = (2 : Int) ^ m
    · obtain ⟨m, hm, rfl⟩ := hm
      rw [cast_pow] at hLb
      have hLm := x_log_pow m hm
      clear hLb
      by_cases hkm : k + m ≤ 16
      · rw [extOf_pow hlen hkm, cast_pow]
        have hR := r_rootN (k + m) (by omega)
        have hmul : ((2 ^ m : Nat) : Int) * ((2 ^ k : Nat) : Int) = ((2 ^ (k + m) : Nat) : Int) := by
          rw [← Int.natCast_mul, ← Nat.pow_add, Nat.add_comm]
        have hp := pow_lt hkm
        have hX := fun w hl => x_values A (2 ^ k) c l (root (k + m)) (2 ^ (k + m)) w hl hn (by omega)
        generalize root (k + m) = u at *
        clear hlen
        generalize 2 ^ (k + m) = N at *
        generalize 2 ^ k = n at *
        generalize 2 ^ m = b at *
        rw [Int.natCast_add] at hR
        have hkm2 : ¬ (16 < (k : Int) + (m : Int)) := by omega
        go_enter Tryd.func19, Tryd.ntmps19
        go_wp2_with fail
        refine (hL _).mono ?_
        rintro e w1 ⟨rfl, g1⟩
        have hg1 : Gn w w1 := g1
        clear g1
        go_wp2_with fail
        refine (hLm _).mono ?_
        rintro e w2 ⟨rfl, g2⟩
        have hg2 : Gn w w2 := hg1.trans g2
        clear g2 hg1
        go_wp2_with fail
        refine (hR _).mono ?_
        rintro e w3 ⟨rfl, rfl⟩
        go_wp2_with fail
        try rw [hmul]
        refine (hX _ (hl.up hg2)).mono ?_
        rintro e w3 ⟨v, rfl, ho, g3⟩
        obtain ⟨A', c', rfl, hs⟩ := ho.sf
        go_wp2_with fail
        go_ret2
        exact ⟨⟨A', c', rfl, hs⟩, hg2.trans g3⟩
      · rw [extOf_bad (by
          rw [hlen]
          rintro ⟨k', m', h1, h2, h3⟩
          have e1 : k = k' := pow_inj2 h1
          rw [cast_pow, cast_pow] at h2
          have e2 : m = m' := pow_inj2 (by exact_mod_cast h2)
          omega), cast_pow]
        clear hlen
        generalize 2 ^ k = n at *
        generalize 2 ^ m = b at *
        have hkm2 : 16 < (k : Int) + (m : Int) := by omega
        go_enter Tryd.func19, Tryd.ntmps19
        go_wp2_with fail
        refine (hL _).mono ?_
        rintro e w1 ⟨rfl, g1⟩
        have hg1 : Gn w w1 := g1
        clear g1
        go_wp2_with fail
        refine (hLm _).mono ?_
        rintro e w2 ⟨rfl, g2⟩
        have hg2 : Gn w w2 := hg1.trans g2
        clear g2 hg1
        go_wp2_with fail
        go_ret2
        exact ⟨⟨none, 0, rfl, SF.nil _⟩, hg2⟩
    · rw [extOf_bad (by
        rintro ⟨k', m', h1, h2, h3⟩
        exact hm ⟨m', by omega, h2⟩)]
      have hLm : ∀ w, Calls Tryd.prog 28 #[.int .i64 b] w fun e w' => e = .returned (.int .i64 (-1)) ∧ ∃ g, w' = gr w g := by
        intro w
        refine (x_log b w).mono ?_
        rintro e w' ⟨⟨r, rfl, h⟩, g⟩
        rcases h with ⟨j, hj, e, _⟩ | ⟨rfl, _⟩
        · exact absurd ⟨j, hj, e⟩ hm
        · exact ⟨rfl, g⟩
      clear hlen hm hLb
      have hk0 : ¬ ((k : Int) < 0) := by omega
      generalize 2 ^ k = n at *
      go_enter Tryd.func19, Tryd.ntmps19
      go_wp2_with fail
      refine (hL _).mono ?_
      rintro e w1 ⟨rfl, g1⟩
      have hg1 : Gn w w1 := g1
      clear g1
      go_wp2_with fail
      refine (hLm _).mono ?_
      rintro e w2 ⟨rfl, g2⟩
      have hg2 : Gn w w2 := hg1.trans g2
      clear g2 hg1
      go_wp2_with fail
      go_ret2
      exact ⟨⟨none, 0, rfl, SF.nil _⟩, hg2⟩
  · rw [extOf_bad (by
      rw [hl.len]
      rintro ⟨k', m', h1, h2, h3⟩
      exact hv ⟨k', by omega, h1⟩)]
    have hL := x_log_bad n hv
    have hLb := x_log b
    clear hv
    go_enter Tryd.func19, Tryd.ntmps19
    go_wp2_with fail
    refine (hL _).mono ?_
    rintro e w1 ⟨rfl, g1⟩
    have hg1 : Gn w w1 := g1
    clear g1
    go_wp2_with fail
    refine (hLb _).mono ?_
    rintro e w2 ⟨⟨r, rfl, _⟩, g2⟩
    have hg2 : Gn w w2 := hg1.trans g2
    clear g2 hg1
    go_wp2_with fail
    go_ret2
    exact ⟨⟨none, 0, rfl, SF.nil _⟩, hg2⟩
theorem accL_mulL {l k : List F} {n m : Nat} (hn : l.length = n) (hm : k.length = m) : accL (n + m - 1) l k n 0 = mulL l k := by
  unfold accL mulL
  rw [hn, hm]
  exact tab_congr fun i _ => by rw [← hn]; exact accF_end l k i
set_option maxHeartbeats 4000000 in
theorem x_mul4 (A B : Option Addr) (n c m d : Nat) (l k : List F) (w : World) (hl : SF w A n c l) (hk : SF w B m d k) (hn : n ≤ 1000000) (hm : m ≤ 1000000) :
    Calls Tryd.prog 21 #[.slice A n c, .slice B m d] w fun e w' => Ret4 e w w' (mulOf l k) := by
  have l1 := Lib.hid hl.len
  have k1 := Lib.hid hk.len
  rcases Nat.eq_zero_or_pos n with h0 | h0
  · rw [mulOf_nil (.inl (by rw [l1.out]; exact h0))]
    subst h0
    go_enter Tryd.func21, Tryd.ntmps21
    go_wp2_with fail
    go_ret2
    exact ⟨⟨none, 0, rfl, SF.nil _⟩, Gn.refl _⟩
  · have b1 : ((n : Int) == 0) = false := by simp; omega
    rcases Nat.eq_zero_or_pos m with h2 | h2
    · rw [mulOf_nil (.inr (by rw [k1.out]; exact h2))]
      subst h2
      go_enter Tryd.func21, Tryd.ntmps21
      go_wp2_with fail
      go_ret2
      exact ⟨⟨none, 0, rfl, SF.nil _⟩, Gn.refl _⟩
    · have b2 : ((m : Int) == 0) = false := by simp; omega
      by_cases h3 : 65536 < n + m - 1
      · rw [mulOf_big (by rw [l1.out]; omega) (by rw [k1.out]; omega) (by rw [l1.out, k1.out]; exact h3)]
        go_enter Tryd.func21, Tryd.ntmps21
        go_wp2_with fail
        go_ret2
        exact ⟨⟨none, 0, rfl, SF.nil _⟩, Gn.refl _⟩
      · rw [mulOf_ok (by rw [l1.out]; omega) (by rw [k1.out]; omega) (by rw [l1.out, k1.out]; omega)]
        have he := Lib.hid (accL_mulL l1.out k1.out)
        have hML := Lib.hid (show (mulL l k).length = n + m - 1 by rw [mulL_length, l1.out, k1.out])
        go_enter Tryd.func21, Tryd.ntmps21
        go_wp2_with (at_make; refine wpList_mkF (.tmp 29) (.tmp 29) (n + m - 1) (congrArg (Value.int .i64) (by omega)) (congrArg (Value.int .i64) (by omega)) (by omega) ?_)
        go_loopw [7] (fun v wr => ∃ i : Nat, i ≤ n ∧ v = .int .i64 i ∧ BF wr w.heap.size (accL (n + m - 1) l k i 0) ∧ Gn w wr) (fun v _ => n - (intOf v).toNat)
        case atStart => exact ⟨0, by omega, rfl, by rw [accL_zero]; exact hnew w _, Gn.al _⟩
        case round =>
          obtain ⟨i, hi, rfl, hB, hg⟩ := hrel
          by_cases hlt : i < n
          · go_wp2_with fail
            go_loopw [8] (fun v wr => ∃ j : Nat, j ≤ m ∧ v = .int .i64 j ∧ BF wr w.heap.size (accL (n + m - 1) l k i j) ∧ Gn w wr) (fun v _ => m - (intOf v).toNat)
            case atStart => exact ⟨0, by omega, rfl, hB, hg⟩
            case round =>
              clear hB hg
              obtain ⟨j, hj, rfl, hB, hg⟩ := hrel
              by_cases hlt2 : j < m
              · obtain ⟨b, o, x, rfl, hx, q1, q2⟩ := (hl.up hg).at_ hlt
                obtain ⟨b', o', y, rfl, hy, r1, r2⟩ := (hk.up hg).at_ hlt2
                have HX := Lib.hid (coF_at hx); clear hx
                have HY := Lib.hid (coF_at hy); clear hy
                have hG := accL_get (N := n + m - 1) l k i j (by omega)
                have hS := Lib.hid (accL_set (N := n + m - 1) l k i j (by omega))
                obtain ⟨u, hu⟩ : ∃ u, u = accF l k i j (i + j) := ⟨_, rfl⟩
                rw [← hu] at hG hS
                clear hu
                have hil := Lib.hid (show i + j < (accL (n + m - 1) l k i j).length by rw [accL_len]; omega)
                have c1 := hB.cell hG
                have c3 := blk_lt hB
                clear hG
                have e1 : IntKind.i64.wrap ((i : Int) + (j : Int)) = (i : Int) + (j : Int) := IntWalk.i64_in _ (by omega)
                have e2 : 0 ≤ (i : Int) + (j : Int) := by omega
                have e3 : ((i : Int) + (j : Int)).toNat = i + j := by omega
                go_wp2_with fail
                try simp only [List.append_eq, List.cons_append, List.nil_append]
                refine Fk.wp_region_flow 20 (by kernel_rfl) (by kernel_rfl) ?_
                iterate 18
                  refine Fk.flow_one rfl (freeB_spec (by kernel_rfl)) ?_
                  go_big_quiet_step (fail)
                  refine wpQuiet_nil ?_
                apply Fk.flow_is
                · exact freeB_spec (by kernel_rfl)
                · intro g K hK
                  go_wp2_with fail
                  refine (r_mulF x y _).mono ?_
                  rintro e w' ⟨rfl, rfl⟩
                  go_wp2_with fail
                  exact hK _ (Up.refl _)
                · rfl
                apply Fk.flow_is
                · exact freeB_spec (by kernel_rfl)
                · intro g K hK
                  go_wp2_with fail
                  refine (r_addF u (x * y) _).mono ?_
                  rintro e w' ⟨rfl, rfl⟩
                  go_wp2_with fail
                  exact hK _ (Up.refl _)
                · rfl
                intro V N X hΓ hdis g hX
                clear hΓ hdis hX
                conv => arg 5; simp only [fill, Act.put, List.setIfInBounds_toArray, List.set_cons_succ, List.set_cons_zero]
                have hgn : Gn wr (gr wr g) := ⟨g, rfl⟩
                have hB1 := BF.up hB hgn
                have hg1 := hg.trans hgn
                clear c1 c3 q1 q2 r1 r2
                generalize gr wr g = w8 at *
                have hB2 := hB1.set (i := i + j) (u + x * y)
                have hg2 := setF_below (i := i + j) hg1 (Nat.le_refl _) (u + x * y)
                rw [← HX.out, ← HY.out, hS.out, HX.out, HY.out] at hB2
                have c1 := blk_lt hB1
                go_wp2_with (refine tail_storeF (b := w.heap.size) (i := i + j) (x := u + x * y) rfl rfl hB1.rf hil.out ?_)
                exact ⟨⟨j + 1, by omega, by go_num, hB2, hg2⟩, by simp [intOf]; omega⟩
              · obtain rfl : j = m := by omega
                go_wp2_with fail
                exact ⟨⟨i + 1, by omega, by go_num, by rw [accL_next, k1.out]; exact hB, hg⟩, by simp [intOf]; omega⟩
          · obtain rfl : i = n := by omega
            rw [he.out] at hB
            have hS := hB.sf (by rw [hML.out]; omega)
            rw [hML.out] at hS
            go_wp2_with fail
            go_ret2
            refine ⟨⟨some ⟨w.heap.size, 0, none⟩, i + m - 1, ?_, ?_⟩, hg⟩
            · have e := hML.out
              simp [e]
            · have e := hML.out
              rw [e]; exact hS
end Go.Proofs.YtjgdbfhpjjmjkaaDoor
