/- NttErrors: for every length and every blowup the law on the errors of Forward, Inverse, Extend and Mul returns true; no conditions. -/
import Derived.Test.YtjgdbfhpjjmjkaaDoorFrd
import Derived.Test.YtjgdbfhpjjmjkaaDoorNzb
import Derived.Test.YtjgdbfhpjjmjkaaDoorOpF
namespace Go.Proofs.YtjgdbfhpjjmjkaaDoor.lawNttErrors
open Go.ChangeShapes Go.WideShapes Go.ChangeAt Go.RowKit Att Att.CRing

set_option maxRecDepth 100000 in
set_option maxHeartbeats 4000000 in
theorem walk (w : World) (x0 : Int) (x1 : Int) (hT : Tab w) (l_x0 : 0 ≤ x0) (u_x0 : x0 ≤ 65535) (l_x1 : -9223372036854775808 ≤ x1) (u_x1 : x1 ≤ 9223372036854775807) :
    Calls Tryd.prog 11 #[.int .u16 x0, .int .i64 x1] w fun e w' => e = .returned (.bool true) ∧ Below w.heap.size w w' := by
  obtain ⟨l, hl⟩ : ∃ l : Nat, (l : Int) = x0 % 1001 := ⟨(x0 % 1001).toNat, Int.toNat_of_nonneg (by omega)⟩
  have hl1 : l ≤ 1000 := by omega
  have hrm : Int.tmod x0 1001 = (l : Int) := by rw [hl]; exact Int.tmod_eq_emod_of_nonneg l_x0
  obtain ⟨n1, hn1⟩ : ∃ n, n = 65536 - l := ⟨_, rfl⟩
  obtain ⟨n2, hn2⟩ : ∃ n, n = l + 2 := ⟨_, rfl⟩
  have e1 : (65536 : Int) - (l : Int) = (n1 : Int) := by omega
  have e2 : (l : Int) + 2 = (n2 : Int) := by omega
  have w1' : IntKind.i64.wrap (n1 : Int) = (n1 : Int) := IntWalk.i64_in _ (by omega)
  have w2' : IntKind.i64.wrap (n2 : Int) = (n2 : Int) := IntWalk.i64_in _ (by omega)
  have Em := mulOf_big (l := List.replicate n1 (0 : F)) (k := List.replicate n2 (0 : F)) (by simp; omega) (by simp; omega) (by simp; omega)
  have hr1 := Int.emod_emod_of_dvd
  clear hr1
  replace hl := Lib.hid hl
  replace Em := Lib.hid Em
  replace hn1 := Lib.hid hn1; replace hn2 := Lib.hid hn2
  have hrm2 := hl.out.symm
  refine Calls.mono (R := fun e w' => e = .returned (.bool true) ∧ Gn w w') ?_ (fun e w' h => ⟨h.1, h.2.below⟩)
  go_enter Tryd.func11, Tryd.ntmps11
  go_wp2_with fail
  have hg : Gn w w := Gn.refl w
  refine (o_sanity4 _ hT).mono ?_
  rintro e w1 ⟨rfl, g⟩
  replace hg := hg.trans g
  replace hT := hT.up g
  clear g
  have HE1 := Lib.hid e1; have HE2 := Lib.hid e2; have HW1 := Lib.hid w1'; have HW2 := Lib.hid w2'
  clear e1 e2 w1' w2'
  go_wp2_with (at_make; refine wpList_mkF (.tmp 22) (.tmp 22) l rfl rfl (by omega) ?_)
  clear hrm hrm2
  have ha0 : BF (w1.alloc (.cells (ff (List.replicate l 0)).toArray 34)) w1.heap.size (List.replicate l 0) := hnew w1 _
  have ha := ha0.sf (by simp; omega)
  rw [List.length_replicate] at ha
  clear ha0
  replace hg := hg.trans (Gn.al (w := w1) (.cells (ff (List.replicate l 0)).toArray 34))
  replace hT := hT.up (Gn.al (w := w1) (.cells (ff (List.replicate l 0)).toArray 34))
  skip
  generalize w1.alloc (.cells (ff (List.replicate l 0)).toArray 34) = w2 at *
  generalize w1.heap.size = b0 at *
  have la : (List.replicate l (0 : F)).length = l := List.length_replicate
  generalize List.replicate l (0 : F) = a at *
  by_cases hv : vlen l
  · obtain ⟨k, hk, rfl⟩ := hv
    have hLk := x_log_pow k hk
    obtain ⟨f, Ef, lf, _, _⟩ := fwd_ok la hk
    obtain ⟨v, Ev, lv, _⟩ := inv_ok la hk
    have hbk := x_log x1
    by_cases hm : ∃ m : Nat, m ≤ 16 ∧ x1 = (2 : Int) ^ m
    · obtain ⟨m, hm, rfl⟩ := hm
      have hLm := x_log_pow m hm
      rw [cast_pow] at u_x1
      clear hbk
      have hp : ((2 ^ m : Nat) : Int) * ((2 ^ k : Nat) : Int) = ((2 ^ (k + m) : Nat) : Int) := by rw [← Int.natCast_mul, ← Nat.pow_add, Nat.add_comm]
      have hp32 : 2 ^ (k + m) ≤ 4294967296 := Nat.le_trans (Nat.pow_le_pow_right (n := 2) (by omega) (show k + m ≤ 32 by omega)) (by decide)
      have hpw : IntKind.i64.wrap ((2 ^ (k + m) : Nat) : Int) = ((2 ^ (k + m) : Nat) : Int) := IntWalk.i64_in _ (by clear hp; generalize 2 ^ (k + m) = P at hp32 ⊢; omega)
      by_cases hkm : k + m ≤ 16
      · have hq := pow_lt hkm
        rw [cast_pow]
        clear hp32
        generalize 2 ^ (k + m) = P at *
        generalize 2 ^ k = n at *
        generalize 2 ^ m = M at *
        replace Ef := Lib.hid Ef; replace Ev := Lib.hid Ev; replace la := Lib.hid la; replace lf := Lib.hid lf; replace lv := Lib.hid lv
        refine (hLk _).mono ?_
        rintro e w3 ⟨rfl, g⟩
        replace hg := hg.trans g
        replace hT := hT.up g
        replace ha := ha.up g
        clear g
        go_wp2_with fail
        skip
        refine (hLm _).mono ?_
        rintro e w4 ⟨rfl, g⟩
        replace hg := hg.trans g
        replace hT := hT.up g
        replace ha := ha.up g
        clear g
        go_wp2_with fail
        skip
        refine (n_forward _ _ _ _ _ hT ha (by omega)).mono ?_
        rintro e w5 hR
        rw [Ef.out] at hR
        obtain ⟨Ahf, chf, rfl, hf, g⟩ := hR.get lf.out
        replace hg := hg.trans g
        replace hT := hT.up g
        replace ha := ha.up g
        clear g
        go_wp2_with fail
        skip
        refine (n_inverse _ _ _ _ _ hT ha (by omega)).mono ?_
        rintro e w6 hR
        rw [Ev.out] at hR
        obtain ⟨Ahv, chv, rfl, hv, g⟩ := hR.get lv.out
        replace hg := hg.trans g
        replace hT := hT.up g
        replace ha := ha.up g
        replace hf := hf.up g
        clear g
        have e1 := HE1.out; have e2 := HE2.out; have w1' := HW1.out; have w2' := HW2.out
        go_wp2_with fail
        skip
        try simp only [List.append_eq, List.cons_append, List.nil_append]
        refine Fk.wp_region_flow 11 (by kernel_rfl) (by kernel_rfl) ?_
        refine Fk.flow_one rfl (freeB_spec (by kernel_rfl)) ?_
        go_big_quiet_step (fail)
        refine wpQuiet_nil ?_
        refine Fk.flow_one rfl (freeB_spec (by kernel_rfl)) ?_
        go_big_quiet_step (fail)
        refine wpQuiet_nil ?_
        refine Fk.flow_ex (mkF n1) rfl (ex_mkF _ _ _ _ _ _ n1 (fun V => rfl) (fun V => rfl) (by omega)) ?_
        refine Fk.flow_one rfl (freeB_spec (by kernel_rfl)) ?_
        go_big_quiet_step (fail)
        refine wpQuiet_nil ?_
        refine Fk.flow_one rfl (freeB_spec (by kernel_rfl)) ?_
        go_big_quiet_step (fail)
        refine wpQuiet_nil ?_
        refine Fk.flow_ex (mkF n2) rfl (ex_mkF _ _ _ _ _ _ n2 (fun V => rfl) (fun V => rfl) (by omega)) ?_
        refine flow_exS _ rfl (ex_call2 (k_mulE (by simp; omega) (by simp; omega) Em.out) rfl (by kernel_rfl) (want_fill (by kernel_rfl) (by kernel_rfl)) (arg_and (arg_mk 1 rfl (by kernel_rfl) (by kernel_rfl) (by omega)) (fun w g => hT.up (Gn.of g))) (arg_mk 0 rfl (by kernel_rfl) (by kernel_rfl) (by omega))) ?_
        refine flow_exS _ rfl (ex_mvF (arg_fe 0 rfl (by kernel_rfl) (by kernel_rfl)) rfl (want_fill (by kernel_rfl) (by kernel_rfl))) ?_
        refine flow_exS _ rfl (ex_e0F (arg_fe 0 rfl (by kernel_rfl) (by kernel_rfl)) rfl (want_fill (by kernel_rfl) (by kernel_rfl))) ?_
        refine flow_knS (.int .i64 2) rfl (ex_e1F (arg_fe 1 rfl (by kernel_rfl) (by kernel_rfl)) rfl (want_fill (by kernel_rfl) (by kernel_rfl))) ?_
        conv => arg 8; simp only [Act.put, List.setIfInBounds_toArray, List.set_cons_succ, List.set_cons_zero]
        refine flow_exS _ rfl (ex_asF (arg_fv 0 rfl (by kernel_rfl) (by kernel_rfl)) rfl (want_fill (by kernel_rfl) (by kernel_rfl))) ?_
        intro V N' X hΓ hdis g hX
        obtain ⟨Ad, cd, vd, hd⟩ := end_fv hΓ hX 14 0 rfl
        clear hΓ hdis hX e1 e2 w1' w2'
        have hgn : Gn w6 (gr w6 g) := ⟨g, rfl⟩
        generalize gr w6 g = w7 at *
        replace hg := hg.trans hgn
        replace hT := hT.up hgn
        replace ha := ha.up hgn
        replace hf := hf.up hgn
        replace hv := hv.up hgn
        clear hgn
        conv => arg 5; simp only [fill, Act.put, List.setIfInBounds_toArray, List.set_cons_succ, List.set_cons_zero, vd]
        clear vd
        go_wp2_with fail
        skip
        go_ret
        exact ⟨rfl, hg⟩
      · have hq : 65536 < 2 ^ (k + m) := Nat.lt_of_lt_of_le (by decide) (Nat.pow_le_pow_right (n := 2) (by omega) (show 17 ≤ k + m by omega))
        have Ee : extOf a ((2 : Int) ^ m) = ([], 1) := extOf_bad (by
          rw [la]
          rintro ⟨k', m', h1, h2, h3⟩
          have e1 : k = k' := pow_inj2 h1
          rw [cast_pow, cast_pow] at h2
          have e2 : m = m' := pow_inj2 (by exact_mod_cast h2)
          omega)
        rw [cast_pow] at Ee ⊢
        generalize 2 ^ (k + m) = P at *
        generalize 2 ^ k = n at *
        generalize 2 ^ m = M at *
        replace Ef := Lib.hid Ef; replace Ev := Lib.hid Ev; replace la := Lib.hid la; replace lf := Lib.hid lf; replace lv := Lib.hid lv; replace Ee := Lib.hid Ee
        refine (hLk _).mono ?_
        rintro e w3 ⟨rfl, g⟩
        replace hg := hg.trans g
        replace hT := hT.up g
        replace ha := ha.up g
        clear g
        go_wp2_with fail
        skip
        refine (hLm _).mono ?_
        rintro e w4 ⟨rfl, g⟩
        replace hg := hg.trans g
        replace hT := hT.up g
        replace ha := ha.up g
        clear g
        go_wp2_with fail
        skip
        refine (n_forward _ _ _ _ _ hT ha (by omega)).mono ?_
        rintro e w5 hR
        rw [Ef.out] at hR
        obtain ⟨Ahf, chf, rfl, hf, g⟩ := hR.get lf.out
        replace hg := hg.trans g
        replace hT := hT.up g
        replace ha := ha.up g
        clear g
        go_wp2_with fail
        skip
        refine (n_inverse _ _ _ _ _ hT ha (by omega)).mono ?_
        rintro e w6 hR
        rw [Ev.out] at hR
        obtain ⟨Ahv, chv, rfl, hv, g⟩ := hR.get lv.out
        replace hg := hg.trans g
        replace hT := hT.up g
        replace ha := ha.up g
        replace hf := hf.up g
        clear g
        have e1 := HE1.out; have e2 := HE2.out; have w1' := HW1.out; have w2' := HW2.out
        go_wp2_with fail
        skip
        try simp only [List.append_eq, List.cons_append, List.nil_append]
        refine Fk.wp_region_flow 11 (by kernel_rfl) (by kernel_rfl) ?_
        refine Fk.flow_one rfl (freeB_spec (by kernel_rfl)) ?_
        go_big_quiet_step (fail)
        refine wpQuiet_nil ?_
        refine Fk.flow_one rfl (freeB_spec (by kernel_rfl)) ?_
        go_big_quiet_step (fail)
        refine wpQuiet_nil ?_
        refine Fk.flow_ex (mkF n1) rfl (ex_mkF _ _ _ _ _ _ n1 (fun V => rfl) (fun V => rfl) (by omega)) ?_
        refine Fk.flow_one rfl (freeB_spec (by kernel_rfl)) ?_
        go_big_quiet_step (fail)
        refine wpQuiet_nil ?_
        refine Fk.flow_one rfl (freeB_spec (by kernel_rfl)) ?_
        go_big_quiet_step (fail)
        refine wpQuiet_nil ?_
        refine Fk.flow_ex (mkF n2) rfl (ex_mkF _ _ _ _ _ _ n2 (fun V => rfl) (fun V => rfl) (by omega)) ?_
        refine flow_exS _ rfl (ex_call2 (k_mulE (by simp; omega) (by simp; omega) Em.out) rfl (by kernel_rfl) (want_fill (by kernel_rfl) (by kernel_rfl)) (arg_and (arg_mk 1 rfl (by kernel_rfl) (by kernel_rfl) (by omega)) (fun w g => hT.up (Gn.of g))) (arg_mk 0 rfl (by kernel_rfl) (by kernel_rfl) (by omega))) ?_
        refine flow_exS _ rfl (ex_mvF (arg_fe 0 rfl (by kernel_rfl) (by kernel_rfl)) rfl (want_fill (by kernel_rfl) (by kernel_rfl))) ?_
        refine flow_exS _ rfl (ex_e0F (arg_fe 0 rfl (by kernel_rfl) (by kernel_rfl)) rfl (want_fill (by kernel_rfl) (by kernel_rfl))) ?_
        refine flow_knS (.int .i64 2) rfl (ex_e1F (arg_fe 1 rfl (by kernel_rfl) (by kernel_rfl)) rfl (want_fill (by kernel_rfl) (by kernel_rfl))) ?_
        conv => arg 8; simp only [Act.put, List.setIfInBounds_toArray, List.set_cons_succ, List.set_cons_zero]
        refine flow_exS _ rfl (ex_asF (arg_fv 0 rfl (by kernel_rfl) (by kernel_rfl)) rfl (want_fill (by kernel_rfl) (by kernel_rfl))) ?_
        intro V N' X hΓ hdis g hX
        obtain ⟨Ad, cd, vd, hd⟩ := end_fv hΓ hX 14 0 rfl
        clear hΓ hdis hX e1 e2 w1' w2'
        have hgn : Gn w6 (gr w6 g) := ⟨g, rfl⟩
        generalize gr w6 g = w7 at *
        replace hg := hg.trans hgn
        replace hT := hT.up hgn
        replace ha := ha.up hgn
        replace hf := hf.up hgn
        replace hv := hv.up hgn
        clear hgn
        conv => arg 5; simp only [fill, Act.put, List.setIfInBounds_toArray, List.set_cons_succ, List.set_cons_zero, vd]
        clear vd
        go_wp2_with fail
        skip
        refine (n_extend _ _ _ _ (M : Int) _ hT ha (by omega) u_x1).mono ?_
        rintro e w8 hR
        rw [Ee.out] at hR
        obtain ⟨Ahe, che, rfl, he, g⟩ := hR.get (n := 0) rfl
        replace hg := hg.trans g
        replace hT := hT.up g
        replace ha := ha.up g
        replace hf := hf.up g
        replace hv := hv.up g
        clear g
        go_wp2_with fail
        skip
        go_ret
        exact ⟨rfl, hg⟩
    · have hLm : ∀ w, Calls Tryd.prog 28 #[.int .i64 x1] w fun e w' => e = .returned (.int .i64 (-1)) ∧ ∃ g, w' = gr w g := by
        intro w
        refine (x_log x1 w).mono ?_
        rintro e w' ⟨⟨r, rfl, h⟩, g⟩
        rcases h with ⟨j, hj, e, _⟩ | ⟨rfl, _⟩
        · exact absurd ⟨j, hj, e⟩ hm
        · exact ⟨rfl, g⟩
      have Ee : extOf a x1 = ([], 1) := extOf_bad (by
        rintro ⟨k', m', h1, h2, h3⟩
        exact hm ⟨m', by omega, h2⟩)
      clear hm hbk
      generalize 2 ^ k = n at *
      replace Ef := Lib.hid Ef; replace Ev := Lib.hid Ev; replace la := Lib.hid la; replace lf := Lib.hid lf; replace lv := Lib.hid lv; replace Ee := Lib.hid Ee
      refine (hLk _).mono ?_
      rintro e w3 ⟨rfl, g⟩
      replace hg := hg.trans g
      replace hT := hT.up g
      replace ha := ha.up g
      clear g
      go_wp2_with fail
      skip
      refine (hLm _).mono ?_
      rintro e w4 ⟨rfl, g⟩
      replace hg := hg.trans g
      replace hT := hT.up g
      replace ha := ha.up g
      clear g
      go_wp2_with fail
      skip
      refine (n_forward _ _ _ _ _ hT ha (by omega)).mono ?_
      rintro e w5 hR
      rw [Ef.out] at hR
      obtain ⟨Ahf, chf, rfl, hf, g⟩ := hR.get lf.out
      replace hg := hg.trans g
      replace hT := hT.up g
      replace ha := ha.up g
      clear g
      go_wp2_with fail
      skip
      refine (n_inverse _ _ _ _ _ hT ha (by omega)).mono ?_
      rintro e w6 hR
      rw [Ev.out] at hR
      obtain ⟨Ahv, chv, rfl, hv, g⟩ := hR.get lv.out
      replace hg := hg.trans g
      replace hT := hT.up g
      replace ha := ha.up g
      replace hf := hf.up g
      clear g
      have e1 := HE1.out; have e2 := HE2.out; have w1' := HW1.out; have w2' := HW2.out
      go_wp2_with fail
      skip
      try simp only [List.append_eq, List.cons_append, List.nil_append]
      refine Fk.wp_region_flow 11 (by kernel_rfl) (by kernel_rfl) ?_
      refine Fk.flow_one rfl (freeB_spec (by kernel_rfl)) ?_
      go_big_quiet_step (fail)
      refine wpQuiet_nil ?_
      refine Fk.flow_one rfl (freeB_spec (by kernel_rfl)) ?_
      go_big_quiet_step (fail)
      refine wpQuiet_nil ?_
      refine Fk.flow_ex (mkF n1) rfl (ex_mkF _ _ _ _ _ _ n1 (fun V => rfl) (fun V => rfl) (by omega)) ?_
      refine Fk.flow_one rfl (freeB_spec (by kernel_rfl)) ?_
      go_big_quiet_step (fail)
      refine wpQuiet_nil ?_
      refine Fk.flow_one rfl (freeB_spec (by kernel_rfl)) ?_
      go_big_quiet_step (fail)
      refine wpQuiet_nil ?_
      refine Fk.flow_ex (mkF n2) rfl (ex_mkF _ _ _ _ _ _ n2 (fun V => rfl) (fun V => rfl) (by omega)) ?_
      refine flow_exS _ rfl (ex_call2 (k_mulE (by simp; omega) (by simp; omega) Em.out) rfl (by kernel_rfl) (want_fill (by kernel_rfl) (by kernel_rfl)) (arg_and (arg_mk 1 rfl (by kernel_rfl) (by kernel_rfl) (by omega)) (fun w g => hT.up (Gn.of g))) (arg_mk 0 rfl (by kernel_rfl) (by kernel_rfl) (by omega))) ?_
      refine flow_exS _ rfl (ex_mvF (arg_fe 0 rfl (by kernel_rfl) (by kernel_rfl)) rfl (want_fill (by kernel_rfl) (by kernel_rfl))) ?_
      refine flow_exS _ rfl (ex_e0F (arg_fe 0 rfl (by kernel_rfl) (by kernel_rfl)) rfl (want_fill (by kernel_rfl) (by kernel_rfl))) ?_
      refine flow_knS (.int .i64 2) rfl (ex_e1F (arg_fe 1 rfl (by kernel_rfl) (by kernel_rfl)) rfl (want_fill (by kernel_rfl) (by kernel_rfl))) ?_
      conv => arg 8; simp only [Act.put, List.setIfInBounds_toArray, List.set_cons_succ, List.set_cons_zero]
      refine flow_exS _ rfl (ex_asF (arg_fv 0 rfl (by kernel_rfl) (by kernel_rfl)) rfl (want_fill (by kernel_rfl) (by kernel_rfl))) ?_
      intro V N' X hΓ hdis g hX
      obtain ⟨Ad, cd, vd, hd⟩ := end_fv hΓ hX 14 0 rfl
      clear hΓ hdis hX e1 e2 w1' w2'
      have hgn : Gn w6 (gr w6 g) := ⟨g, rfl⟩
      generalize gr w6 g = w7 at *
      replace hg := hg.trans hgn
      replace hT := hT.up hgn
      replace ha := ha.up hgn
      replace hf := hf.up hgn
      replace hv := hv.up hgn
      clear hgn
      conv => arg 5; simp only [fill, Act.put, List.setIfInBounds_toArray, List.set_cons_succ, List.set_cons_zero, vd]
      clear vd
      go_wp2_with fail
      skip
      refine (n_extend _ _ _ _ x1 _ hT ha (by omega) u_x1).mono ?_
      rintro e w8 hR
      rw [Ee.out] at hR
      obtain ⟨Ahe, che, rfl, he, g⟩ := hR.get (n := 0) rfl
      replace hg := hg.trans g
      replace hT := hT.up g
      replace ha := ha.up g
      replace hf := hf.up g
      replace hv := hv.up g
      clear g
      go_wp2_with fail
      skip
      go_ret
      exact ⟨rfl, hg⟩
  · have hLk := x_log_bad l hv
    have Ef := fwdOf_bad (l := a) (by rw [la]; exact hv)
    have Ev := invOf_bad (l := a) (by rw [la]; exact hv)
    have Ee : extOf a x1 = ([], 1) := extOf_bad (by
      rw [la]
      rintro ⟨k', m', h1, h2, h3⟩
      exact hv ⟨k', by omega, h1⟩)
    clear hv
    replace Ef := Lib.hid Ef; replace Ev := Lib.hid Ev; replace la := Lib.hid la; replace Ee := Lib.hid Ee
    have hLm : ∀ w, Calls Tryd.prog 28 #[.int .i64 x1] w fun e w' => (∃ r, e = .returned (.int .i64 r)) ∧ ∃ g, w' = gr w g := fun w => (x_log x1 w).mono fun e w' ⟨⟨r, h1, _⟩, g⟩ => ⟨⟨r, h1⟩, g⟩
    refine (hLk _).mono ?_
    rintro e w3 ⟨rfl, g⟩
    replace hg := hg.trans g
    replace hT := hT.up g
    replace ha := ha.up g
    clear g
    go_wp2_with fail
    skip
    refine (hLm _).mono ?_
    rintro e w4 ⟨⟨r, rfl⟩, g⟩
    replace hg := hg.trans g
    replace hT := hT.up g
    replace ha := ha.up g
    clear g
    go_wp2_with fail
    skip
    refine (n_forward _ _ _ _ _ hT ha (by omega)).mono ?_
    rintro e w5 hR
    rw [Ef.out] at hR
    obtain ⟨Ahf, chf, rfl, hf, g⟩ := hR.get (n := 0) rfl
    replace hg := hg.trans g
    replace hT := hT.up g
    replace ha := ha.up g
    clear g
    go_wp2_with fail
    skip
    refine (n_inverse _ _ _ _ _ hT ha (by omega)).mono ?_
    rintro e w6 hR
    rw [Ev.out] at hR
    obtain ⟨Ahv, chv, rfl, hv, g⟩ := hR.get (n := 0) rfl
    replace hg := hg.trans g
    replace hT := hT.up g
    replace ha := ha.up g
    replace hf := hf.up g
    clear g
    have e1 := HE1.out; have e2 := HE2.out; have w1' := HW1.out; have w2' := HW2.out
    go_wp2_with fail
    skip
    try simp only [List.append_eq, List.cons_append, List.nil_append]
    refine Fk.wp_region_flow 11 (by kernel_rfl) (by kernel_rfl) ?_
    refine Fk.flow_one rfl (freeB_spec (by kernel_rfl)) ?_
    go_big_quiet_step (fail)
    refine wpQuiet_nil ?_
    refine Fk.flow_one rfl (freeB_spec (by kernel_rfl)) ?_
    go_big_quiet_step (fail)
    refine wpQuiet_nil ?_
    refine Fk.flow_ex (mkF n1) rfl (ex_mkF _ _ _ _ _ _ n1 (fun V => rfl) (fun V => rfl) (by omega)) ?_
    refine Fk.flow_one rfl (freeB_spec (by kernel_rfl)) ?_
    go_big_quiet_step (fail)
    refine wpQuiet_nil ?_
    refine Fk.flow_one rfl (freeB_spec (by kernel_rfl)) ?_
    go_big_quiet_step (fail)
    refine wpQuiet_nil ?_
    refine Fk.flow_ex (mkF n2) rfl (ex_mkF _ _ _ _ _ _ n2 (fun V => rfl) (fun V => rfl) (by omega)) ?_
    refine flow_exS _ rfl (ex_call2 (k_mulE (by simp; omega) (by simp; omega) Em.out) rfl (by kernel_rfl) (want_fill (by kernel_rfl) (by kernel_rfl)) (arg_and (arg_mk 1 rfl (by kernel_rfl) (by kernel_rfl) (by omega)) (fun w g => hT.up (Gn.of g))) (arg_mk 0 rfl (by kernel_rfl) (by kernel_rfl) (by omega))) ?_
    refine flow_exS _ rfl (ex_mvF (arg_fe 0 rfl (by kernel_rfl) (by kernel_rfl)) rfl (want_fill (by kernel_rfl) (by kernel_rfl))) ?_
    refine flow_exS _ rfl (ex_e0F (arg_fe 0 rfl (by kernel_rfl) (by kernel_rfl)) rfl (want_fill (by kernel_rfl) (by kernel_rfl))) ?_
    refine flow_knS (.int .i64 2) rfl (ex_e1F (arg_fe 1 rfl (by kernel_rfl) (by kernel_rfl)) rfl (want_fill (by kernel_rfl) (by kernel_rfl))) ?_
    conv => arg 8; simp only [Act.put, List.setIfInBounds_toArray, List.set_cons_succ, List.set_cons_zero]
    refine flow_exS _ rfl (ex_asF (arg_fv 0 rfl (by kernel_rfl) (by kernel_rfl)) rfl (want_fill (by kernel_rfl) (by kernel_rfl))) ?_
    intro V N' X hΓ hdis g hX
    obtain ⟨Ad, cd, vd, hd⟩ := end_fv hΓ hX 14 0 rfl
    clear hΓ hdis hX e1 e2 w1' w2'
    have hgn : Gn w6 (gr w6 g) := ⟨g, rfl⟩
    generalize gr w6 g = w7 at *
    replace hg := hg.trans hgn
    replace hT := hT.up hgn
    replace ha := ha.up hgn
    replace hf := hf.up hgn
    replace hv := hv.up hgn
    clear hgn
    conv => arg 5; simp only [fill, Act.put, List.setIfInBounds_toArray, List.set_cons_succ, List.set_cons_zero, vd]
    clear vd
    go_wp2_with fail
    skip
    refine (n_extend _ _ _ _ x1 _ hT ha (by omega) u_x1).mono ?_
    rintro e w8 hR
    rw [Ee.out] at hR
    obtain ⟨Ahe, che, rfl, he, g⟩ := hR.get (n := 0) rfl
    replace hg := hg.trans g
    replace hT := hT.up g
    replace ha := ha.up g
    replace hf := hf.up g
    replace hv := hv.up g
    clear g
    go_wp2_with fail
    skip
    go_ret
    exact ⟨rfl, hg⟩

set_option linter.unusedVariables false in
set_option maxRecDepth 100000 in
set_option maxHeartbeats 1000000 in
theorem lifted (os : Os) (started : os.Started) (H : Type) (enc : TypeId × Value → H) :
    ReturnsInHanded {} Tryd.checked os 11 .any (fun w args => (Rows.nttErrorsSpec.pre enc Tryd.prog Tryd.f11 [] false w args ∧ laidMetH Tryd.prog laid2 w) ∧ sizedMet enc Tryd.prog Tryd.f11 (OpenSpec.ofChange Rows.nttErrorsSpec) false w args)
      (Rows.nttErrorsSpec.post enc Tryd.prog Tryd.f11 false true false false) := by
  refine returnsInHanded_of_change_and (C := Tryd.checked) (X := fun w _ => laidMetH Tryd.prog laid2 w) (fun _ _ _ hh h => h.of_heap hh) own started (by kernel_rfl) Tryd.func11
    (ChangeSpec.witness_shaped (enc := enc) (C := Tryd.checked) (os := os) (X := fun w _ => laidMetH Tryd.prog laid2 w) false (World.doorLaid Tryd.prog 400 os) #[.int .u16 0, .int .i64 0] 8 rfl (World.shaped_of_RefB (by kernel_rfl) (by kernel_rfl)) (by kernel_rfl) (by kernel_rfl) (by kernel_rfl) (door_met os _)) ?_
  intro W base args ds gs before hval0 hW _ _ hL _
  have hval : ∀ (j : Nat) t v, Tryd.f11.params[j]? = some t → args[j]? = some v → Value.okWide Tryd.prog W .any base t v := hval0
  have hW' : DataW.Whole enc Tryd.prog Tryd.f11.params.toList Rows.nttErrorsSpec.vars false W args.toList ds gs before := hW
  obtain ⟨p, q, hA0, hV, rfl, hfz, hnd⟩ := hW
  have hA : DataW.TrodAll enc Tryd.prog W 0 (fun _ => true) true Tryd.f11.params.toList args.toList ds p := hA0
  rw [Tryd.params11] at hA hval
  obtain ⟨v0, vs0, d0, ds0, p0, q0, hargs, rfl, rfl, h0, r0⟩ := trodAll_cons hA
  obtain ⟨v1, vs1, d1, ds1, p1, q1, rfl, rfl, rfl, h1, r1⟩ := trodAll_cons r0
  obtain ⟨rfl, rfl, rfl⟩ := trodAll_nil r1
  obtain rfl : args = #[v0, v1] := by cases args; simp_all
  obtain ⟨rfl, rfl⟩ := trodVars_none hV
  obtain ⟨x0, rfl, hz0⟩ := int_open Tryd.underlying43 (hval 0 43 v0 rfl rfl)
  obtain ⟨x1, rfl, hz1⟩ := int_open Tryd.underlying3 (hval 1 3 v1 rfl rfl)
  refine (walk W x0 x1 (tab_of_laid hL) (by have := has_u16 hz0; omega) (by have := has_u16 hz0; omega) (has_i64 hz1).1 (has_i64 hz1).2).mono fun e W' ⟨he, bel⟩ => ?_
  subst he
  exact ⟨_, rfl, law_post laidOut hW' rfl (by kernel_rfl) rfl Tryd.underlying4 rfl bel⟩

theorem row_proved : Rows.NttErrorsSaid :=
  OpenClaim.holds_of_wide 11 Tryd.f11 rfl rfl rfl rfl rfl rfl rfl ⟨rfl, rfl, rfl, rfl, rfl⟩ rfl rfl rfl rfl rfl (by kernel_rfl) Tryd.func11 (by kernel_rfl)
    (of_decide_eq_true (by kernel_rfl)) (by unfold Func.isWrapper; first | (rw [if_pos (by decide +kernel)]; kernel_rfl) | (rw [if_neg (by decide +kernel)]; exact ⟨rfl, rfl⟩))
    (fun os started H enc _ => lifted os started H enc)

/-- the card: the row's listed variables are tied to the program's text -/
theorem proved : Rows.NttErrorsCardSaid :=
  Claim7.holds_tied_plain_at .later [] [.data, .data] true Rows.nttErrorsCard.stood.harness false
    row_proved (fun _ h => by cases h) (by kernel_rfl) (fun _ h => by cases h) nttErrors_row_tie rfl ⟨rfl, rfl⟩ (by kernel_rfl) rfl
    (fun f fn hf hfn => by
      obtain rfl : f = 11 := (Option.some.inj ((show Tryd.prog.funcNamed Rows.nttErrorsRow.func = some 11 by kernel_rfl).symm.trans hf)).symm
      obtain rfl : fn = Tryd.f11 := (Option.some.inj (Tryd.func11.symm.trans hfn)).symm
      exact ⟨by kernel_rfl, fun j t ht => by
        rw [Tryd.params11] at ht
        have hall : ([43, 3].all fun t => !Tryd.prog.wantsStandIn t) = true := by kernel_rfl
        have hm := List.mem_of_getElem? (show [43, 3][j]? = some t by simpa using ht)
        have := List.all_eq_true.1 hall t hm
        exact (show Tryd.prog.wantsStandIn t = false by simpa using this)⟩)
    (by kernel_rfl)
end Go.Proofs.YtjgdbfhpjjmjkaaDoor.lawNttErrors
