/- NttMatchesReference: for every two rows of numbers and every blowup the law on Forward, Inverse, Extend and Mul beside the reference returns true; no conditions. -/
import Derived.Test.YtjgdbfhpjjmjkaaDoorFrd
import Derived.Test.YtjgdbfhpjjmjkaaDoorNz
import Derived.Test.YtjgdbfhpjjmjkaaDoorOpF
namespace Go.Proofs.YtjgdbfhpjjmjkaaDoor.lawNttMatchesReference
open Go.ChangeShapes Go.WideShapes Go.ChangeAt Go.RowKit Att Att.CRing

set_option maxRecDepth 100000 in
set_option maxHeartbeats 4000000 in
theorem walk (w : World) (a0 : Option Addr) (len0 cap0 : Nat) (x0 : List Int) (a1 : Option Addr) (len1 cap1 : Nat) (x1 : List Int) (x2 : Int) (hT : Tab w) (h_x0 : SW w a0 len0 cap0 x0) (h_x1 : SW w a1 len1 cap1 x1) (l_x2 : -9223372036854775808 ≤ x2) (u_x2 : x2 ≤ 9223372036854775807) :
    Calls Tryd.prog 3 #[.slice a0 len0 cap0, .slice a1 len1 cap1, .int .i64 x2] w fun e w' => e = .returned (.bool true) ∧ Below w.heap.size w w' := by
  skip
  refine Calls.mono (R := fun e w' => e = .returned (.bool true) ∧ Gn w w') ?_ (fun e w' h => ⟨h.1, h.2.below⟩)
  go_enter Tryd.func3, Tryd.ntmps3
  go_wp2_with fail
  have hg : Gn w w := Gn.refl w
  refine (o_sanity4 _ hT).mono ?_
  rintro e w1 ⟨rfl, g⟩
  replace hg := hg.trans g
  replace hT := hT.up g
  replace h_x0 := h_x0.up g
  replace h_x1 := h_x1.up g
  clear g
  go_wp2_with fail
  skip
  have e0 := min_nat len0 64
  obtain ⟨m0, hm0⟩ : ∃ m, m = min len0 64 := ⟨_, rfl⟩
  rw [← hm0] at e0
  have ml0 : m0 ≤ len0 := by omega
  have mk0 : m0 ≤ 64 := by omega
  have hs0 := fun w => slice_h (A := a0) (n := len0) (c := cap0) (h := m0) (Nat.le_trans ml0 h_x0.le) w
  have hc0 := h_x0.take ml0
  have L0 := take_redL x0 h_x0.len ml0
  replace e0 := Lib.hid e0
  clear hm0
  have e1 := min_nat len1 64
  obtain ⟨m1, hm1⟩ : ∃ m, m = min len1 64 := ⟨_, rfl⟩
  rw [← hm1] at e1
  have ml1 : m1 ≤ len1 := by omega
  have mk1 : m1 ≤ 64 := by omega
  have hs1 := fun w => slice_h (A := a1) (n := len1) (c := cap1) (h := m1) (Nat.le_trans ml1 h_x1.le) w
  have hc1 := h_x1.take ml1
  have L1 := take_redL x1 h_x1.len ml1
  replace e1 := Lib.hid e1
  clear hm1
  have i0 : isW _ _ w1 := ⟨_, _, _, rfl, h_x0.take ml0⟩
  have i1 : isW _ _ w1 := ⟨_, _, _, rfl, h_x1.take ml1⟩
  try simp only [List.append_eq, List.cons_append, List.nil_append]
  refine Fk.wp_region_flow 12 (by kernel_rfl) (by kernel_rfl) ?_
  refine Fk.flow_one rfl (freeB_spec (by kernel_rfl)) ?_
  go_big_quiet_step (fail)
  refine wpQuiet_nil ?_
  refine Fk.flow_one rfl (freeB_spec (by kernel_rfl)) ?_
  go_big_quiet_step (fail)
  refine wpQuiet_nil ?_
  refine Fk.flow_is (freeB_spec (by kernel_rfl)) (is_len rfl) rfl ?_
  conv => arg 8; simp only [Act.put, List.setIfInBounds_toArray, List.set_cons_succ, List.set_cons_zero]
  refine Fk.flow_is (freeB_spec (by kernel_rfl)) (is_min rfl (e0.out)) rfl ?_
  conv => arg 8; simp only [Act.put, List.setIfInBounds_toArray, List.set_cons_succ, List.set_cons_zero]
  refine Fk.flow_is (freeB_spec (by kernel_rfl)) (is_sliceH hs0 rfl rfl) rfl ?_
  conv => arg 8; simp only [Act.put, List.setIfInBounds_toArray, List.set_cons_succ, List.set_cons_zero]
  refine flow_exS _ rfl (ex_call1 (k_made1 (by rw [hc0.len]; omega)) rfl (by kernel_rfl) (want_fill (by kernel_rfl) (by kernel_rfl)) (arg_w0 (by kernel_rfl) rfl i0)) ?_
  refine Fk.flow_one rfl (freeB_spec (by kernel_rfl)) ?_
  go_big_quiet_step (fail)
  refine wpQuiet_nil ?_
  refine Fk.flow_one rfl (freeB_spec (by kernel_rfl)) ?_
  go_big_quiet_step (fail)
  refine wpQuiet_nil ?_
  refine Fk.flow_is (freeB_spec (by kernel_rfl)) (is_len rfl) rfl ?_
  conv => arg 8; simp only [Act.put, List.setIfInBounds_toArray, List.set_cons_succ, List.set_cons_zero]
  refine Fk.flow_is (freeB_spec (by kernel_rfl)) (is_min rfl (e1.out)) rfl ?_
  conv => arg 8; simp only [Act.put, List.setIfInBounds_toArray, List.set_cons_succ, List.set_cons_zero]
  refine Fk.flow_is (freeB_spec (by kernel_rfl)) (is_sliceH hs1 rfl rfl) rfl ?_
  conv => arg 8; simp only [Act.put, List.setIfInBounds_toArray, List.set_cons_succ, List.set_cons_zero]
  refine flow_exS _ rfl (ex_call1 (k_made1 (by rw [hc1.len]; omega)) rfl (by kernel_rfl) (want_fill (by kernel_rfl) (by kernel_rfl)) (arg_w0 (by kernel_rfl) rfl i1)) ?_
  intro V N' X hΓ hdis g hX
  obtain ⟨Aa, ca, va, ha⟩ := end_fv hΓ hX 32 1 rfl
  obtain ⟨Ab, cb, vb, hb⟩ := end_fv hΓ hX 38 0 rfl
  clear hΓ hdis hX
  have hgn : Gn w1 (gr w1 g) := ⟨g, rfl⟩
  generalize gr w1 g = w2 at *
  replace hg := hg.trans hgn
  replace hT := hT.up hgn
  replace h_x0 := h_x0.up hgn
  replace h_x1 := h_x1.up hgn
  clear hgn
  conv => arg 5; simp only [fill, Act.put, List.setIfInBounds_toArray, List.set_cons_succ, List.set_cons_zero, va, vb]
  clear va
  clear vb
  clear i0 i1 hc0 hc1 hs0 hs1
  replace L0 := Lib.hid L0; replace L1 := Lib.hid L1
  generalize redL (x0.take m0) = a at *
  generalize redL (x1.take m1) = b at *
  have ka : a.length ≤ 64 := by rw [L0.out]; exact mk0
  have kb : b.length ≤ 64 := by rw [L1.out]; exact mk1
  obtain ⟨f1, f2, Ef⟩ : ∃ f1 f2, fwdOf a = (f1, f2) := ⟨_, _, rfl⟩
  obtain ⟨v1, v2, Ev⟩ : ∃ v1 v2, invOf a = (v1, v2) := ⟨_, _, rfl⟩
  obtain ⟨p1, p2, Ep⟩ : ∃ p1 p2, mulOf a b = (p1, p2) := ⟨_, _, rfl⟩
  replace Ef := Lib.hid Ef; replace Ev := Lib.hid Ev; replace Ep := Lib.hid Ep
  rcases (show (8 < x2 ∧ x2 < 100000) ∨ (x2 ≤ 8) ∨ (8 < x2 ∧ 100000 ≤ x2) by omega) with ⟨q1, q2⟩ | q1 | ⟨q1, q3⟩
  all_goals (go_wp2_with fail)
  all_goals first
    | (have hbb : x2 % 9 ≤ 9223372036854775807 := by omega
       generalize x2 % 9 = bb at *
       clear q2)
    | (have hbb := u_x2
       generalize x2 = bb at *
       clear q3)
    | (have hbb := u_x2
       generalize x2 = bb at *)
  all_goals clear q1
  all_goals
    obtain ⟨e1, e2, Ee⟩ : ∃ e1 e2, extOf a bb = (e1, e2) := ⟨_, _, rfl⟩
    replace Ee := Lib.hid Ee
    clear h_x0 h_x1
    refine (n_forward _ _ _ _ _ hT ha (by omega)).mono ?_
    rintro e w3 hR
    rw [Ef.out] at hR
    obtain ⟨Ahf, chf, rfl, hf, g⟩ := hR.get (rfl : f1.length = _)
    replace hg := hg.trans g
    replace hT := hT.up g
    replace ha := ha.up g
    replace hb := hb.up g
    clear g
    go_wp2_with fail
    skip
    refine (x_forward _ _ _ _ _ ha (by omega)).mono ?_
    rintro e w4 hR
    rw [Ef.out] at hR
    obtain ⟨Ahf', chf', rfl, hf', g⟩ := hR.get (rfl : f1.length = _)
    replace hg := hg.trans g
    replace hT := hT.up g
    replace ha := ha.up g
    replace hb := hb.up g
    replace hf := hf.up g
    clear g
    go_wp2_with fail
    skip
    refine (n_inverse _ _ _ _ _ hT ha (by omega)).mono ?_
    rintro e w5 hR
    rw [Ev.out] at hR
    obtain ⟨Ahv, chv, rfl, hv, g⟩ := hR.get (rfl : v1.length = _)
    replace hg := hg.trans g
    replace hT := hT.up g
    replace ha := ha.up g
    replace hb := hb.up g
    replace hf := hf.up g
    replace hf' := hf'.up g
    clear g
    go_wp2_with fail
    skip
    refine (x_inverse _ _ _ _ _ ha (by omega)).mono ?_
    rintro e w6 hR
    rw [Ev.out] at hR
    obtain ⟨Ahv', chv', rfl, hv', g⟩ := hR.get (rfl : v1.length = _)
    replace hg := hg.trans g
    replace hT := hT.up g
    replace ha := ha.up g
    replace hb := hb.up g
    replace hf := hf.up g
    replace hf' := hf'.up g
    replace hv := hv.up g
    clear g
    go_wp2_with fail
    skip
    refine (n_extend _ _ _ _ bb _ hT ha (by omega) hbb).mono ?_
    rintro e w7 hR
    rw [Ee.out] at hR
    obtain ⟨Ahe, che, rfl, he, g⟩ := hR.get (rfl : e1.length = _)
    replace hg := hg.trans g
    replace hT := hT.up g
    replace ha := ha.up g
    replace hb := hb.up g
    replace hf := hf.up g
    replace hf' := hf'.up g
    replace hv := hv.up g
    replace hv' := hv'.up g
    clear g
    go_wp2_with fail
    skip
    refine (x_extend _ _ _ _ bb _ ha (by omega)).mono ?_
    rintro e w8 hR
    rw [Ee.out] at hR
    obtain ⟨Ahe', che', rfl, he', g⟩ := hR.get (rfl : e1.length = _)
    replace hg := hg.trans g
    replace hT := hT.up g
    replace ha := ha.up g
    replace hb := hb.up g
    replace hf := hf.up g
    replace hf' := hf'.up g
    replace hv := hv.up g
    replace hv' := hv'.up g
    replace he := he.up g
    clear g
    go_wp2_with fail
    skip
    refine (n_mul _ _ _ _ _ _ _ _ _ hT ha hb (by omega) (by omega)).mono ?_
    rintro e w9 hR
    rw [Ep.out] at hR
    obtain ⟨Ahp, chp, rfl, hp, g⟩ := hR.get (rfl : p1.length = _)
    replace hg := hg.trans g
    replace hT := hT.up g
    replace ha := ha.up g
    replace hb := hb.up g
    replace hf := hf.up g
    replace hf' := hf'.up g
    replace hv := hv.up g
    replace hv' := hv'.up g
    replace he := he.up g
    replace he' := he'.up g
    clear g
    go_wp2_with fail
    skip
    refine (x_mul4 _ _ _ _ _ _ _ _ _ ha hb (by omega) (by omega)).mono ?_
    rintro e w10 hR
    rw [Ep.out] at hR
    obtain ⟨Ahp', chp', rfl, hp', g⟩ := hR.get (rfl : p1.length = _)
    replace hg := hg.trans g
    replace hT := hT.up g
    replace ha := ha.up g
    replace hb := hb.up g
    replace hf := hf.up g
    replace hf' := hf'.up g
    replace hv := hv.up g
    replace hv' := hv'.up g
    replace he := he.up g
    replace he' := he'.up g
    replace hp := hp.up g
    clear g
    go_wp2_with fail
    skip
    refine (r_same_true hf hf' rfl).mono ?_
    rintro e w11 ⟨rfl, g⟩
    replace hg := hg.trans g
    replace hT := hT.up g
    replace ha := ha.up g
    replace hb := hb.up g
    replace hf := hf.up g
    replace hf' := hf'.up g
    replace hv := hv.up g
    replace hv' := hv'.up g
    replace he := he.up g
    replace he' := he'.up g
    replace hp := hp.up g
    replace hp' := hp'.up g
    clear g
    go_wp2_with fail
    skip
    refine (r_same_true hv hv' rfl).mono ?_
    rintro e w12 ⟨rfl, g⟩
    replace hg := hg.trans g
    replace hT := hT.up g
    replace ha := ha.up g
    replace hb := hb.up g
    replace hf := hf.up g
    replace hf' := hf'.up g
    replace hv := hv.up g
    replace hv' := hv'.up g
    replace he := he.up g
    replace he' := he'.up g
    replace hp := hp.up g
    replace hp' := hp'.up g
    clear g
    go_wp2_with fail
    skip
    refine (r_same_true he he' rfl).mono ?_
    rintro e w13 ⟨rfl, g⟩
    replace hg := hg.trans g
    replace hT := hT.up g
    replace ha := ha.up g
    replace hb := hb.up g
    replace hf := hf.up g
    replace hf' := hf'.up g
    replace hv := hv.up g
    replace hv' := hv'.up g
    replace he := he.up g
    replace he' := he'.up g
    replace hp := hp.up g
    replace hp' := hp'.up g
    clear g
    go_wp2_with fail
    skip
    refine (r_same_true hp hp' rfl).mono ?_
    rintro e w14 ⟨rfl, g⟩
    replace hg := hg.trans g
    replace hT := hT.up g
    replace ha := ha.up g
    replace hb := hb.up g
    replace hf := hf.up g
    replace hf' := hf'.up g
    replace hv := hv.up g
    replace hv' := hv'.up g
    replace he := he.up g
    replace he' := he'.up g
    replace hp := hp.up g
    replace hp' := hp'.up g
    clear g
    go_wp2_with fail
    skip
    go_ret
    exact ⟨rfl, hg⟩

set_option linter.unusedVariables false in
set_option maxRecDepth 100000 in
set_option maxHeartbeats 1000000 in
theorem lifted (os : Os) (started : os.Started) (H : Type) (enc : TypeId × Value → H) :
    ReturnsInHanded {} Tryd.checked os 3 .any (fun w args => (Rows.nttMatchesReferenceSpec.pre enc Tryd.prog Tryd.f3 [] false w args ∧ laidMetH Tryd.prog laid2 w) ∧ sizedMet enc Tryd.prog Tryd.f3 (OpenSpec.ofChange Rows.nttMatchesReferenceSpec) false w args)
      (Rows.nttMatchesReferenceSpec.post enc Tryd.prog Tryd.f3 false true false false) := by
  refine returnsInHanded_of_change_and (C := Tryd.checked) (X := fun w _ => laidMetH Tryd.prog laid2 w) (fun _ _ _ hh h => h.of_heap hh) own started (by kernel_rfl) Tryd.func3
    (ChangeSpec.witness_shaped (enc := enc) (C := Tryd.checked) (os := os) (X := fun w _ => laidMetH Tryd.prog laid2 w) false (World.doorLaid Tryd.prog 400 os) #[.slice none 0 0, .slice none 0 0, .int .i64 0] 8 rfl (World.shaped_of_RefB (by kernel_rfl) (by kernel_rfl)) (by kernel_rfl) (by kernel_rfl) (by kernel_rfl) (door_met os _)) ?_
  intro W base args ds gs before hval0 hW _ _ hL _
  have hval : ∀ (j : Nat) t v, Tryd.f3.params[j]? = some t → args[j]? = some v → Value.okWide Tryd.prog W .any base t v := hval0
  have hW' : DataW.Whole enc Tryd.prog Tryd.f3.params.toList Rows.nttMatchesReferenceSpec.vars false W args.toList ds gs before := hW
  obtain ⟨p, q, hA0, hV, rfl, hfz, hnd⟩ := hW
  have hA : DataW.TrodAll enc Tryd.prog W 0 (fun _ => true) true Tryd.f3.params.toList args.toList ds p := hA0
  rw [Tryd.params3] at hA hval
  obtain ⟨v0, vs0, d0, ds0, p0, q0, hargs, rfl, rfl, h0, r0⟩ := trodAll_cons hA
  obtain ⟨v1, vs1, d1, ds1, p1, q1, rfl, rfl, rfl, h1, r1⟩ := trodAll_cons r0
  obtain ⟨v2, vs2, d2, ds2, p2, q2, rfl, rfl, rfl, h2, r2⟩ := trodAll_cons r1
  obtain ⟨rfl, rfl, rfl⟩ := trodAll_nil r2
  obtain rfl : args = #[v0, v1, v2] := by cases args; simp_all
  obtain ⟨rfl, rfl⟩ := trodVars_none hV
  obtain ⟨a0, len0, cap0, rfl⟩ := okWide_slice Tryd.underlying22 (hval 0 22 v0 rfl rfl)
  obtain ⟨x0, hz0⟩ := openU64s h0
  obtain ⟨a1, len1, cap1, rfl⟩ := okWide_slice Tryd.underlying22 (hval 1 22 v1 rfl rfl)
  obtain ⟨x1, hz1⟩ := openU64s h1
  obtain ⟨x2, rfl, hz2⟩ := int_open Tryd.underlying3 (hval 2 3 v2 rfl rfl)
  refine (walk W a0 len0 cap0 x0 a1 len1 cap1 x1 x2 (tab_of_laid hL) hz0 hz1 (has_i64 hz2).1 (has_i64 hz2).2).mono fun e W' ⟨he, bel⟩ => ?_
  subst he
  exact ⟨_, rfl, law_post laidOut hW' rfl (by kernel_rfl) rfl Tryd.underlying4 rfl bel⟩

theorem row_proved : Rows.NttMatchesReferenceSaid :=
  OpenClaim.holds_of_wide 3 Tryd.f3 rfl rfl rfl rfl rfl rfl rfl ⟨rfl, rfl, rfl, rfl, rfl⟩ rfl rfl rfl rfl rfl (by kernel_rfl) Tryd.func3 (by kernel_rfl)
    (of_decide_eq_true (by kernel_rfl)) (by unfold Func.isWrapper; first | (rw [if_pos (by decide +kernel)]; kernel_rfl) | (rw [if_neg (by decide +kernel)]; exact ⟨rfl, rfl⟩))
    (fun os started H enc _ => lifted os started H enc)

/-- the card: the row's listed variables are tied to the program's text -/
theorem proved : Rows.NttMatchesReferenceCardSaid :=
  Claim7.holds_tied_plain_at .later [] [.data, .data] true Rows.nttMatchesReferenceCard.stood.harness false
    row_proved (fun _ h => by cases h) (by kernel_rfl) (fun _ h => by cases h) nttMatchesReference_row_tie rfl ⟨rfl, rfl⟩ (by kernel_rfl) rfl
    (fun f fn hf hfn => by
      obtain rfl : f = 3 := (Option.some.inj ((show Tryd.prog.funcNamed Rows.nttMatchesReferenceRow.func = some 3 by kernel_rfl).symm.trans hf)).symm
      obtain rfl : fn = Tryd.f3 := (Option.some.inj (Tryd.func3.symm.trans hfn)).symm
      exact ⟨by kernel_rfl, fun j t ht => by
        rw [Tryd.params3] at ht
        have hall : ([22, 22, 3].all fun t => !Tryd.prog.wantsStandIn t) = true := by kernel_rfl
        have hm := List.mem_of_getElem? (show [22, 22, 3][j]? = some t by simpa using ht)
        have := List.all_eq_true.1 hall t hm
        exact (show Tryd.prog.wantsStandIn t = false by simpa using this)⟩)
    (by kernel_rfl)
end Go.Proofs.YtjgdbfhpjjmjkaaDoor.lawNttMatchesReference
