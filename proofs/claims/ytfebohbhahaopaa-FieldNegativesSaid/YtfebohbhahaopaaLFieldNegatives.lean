/- FieldNegatives: for every two numbers of 64 bits the law on additive inverses returns true; no conditions. -/
import Derived.Test.YtfebohbhahaopaaFrm
import Derived.Test.YtfebohbhahaopaaFs
namespace Go.Proofs.Ytfebohbhahaopaa.lawFieldNegatives
open Go.ChangeShapes Go.WideShapes Go.ChangeAt Go.RowKit Att Att.CRing

set_option maxRecDepth 100000 in
set_option maxHeartbeats 4000000 in
theorem walk (x0a : Int) (x0b : Int) (h_x0a : In64 x0a) (h_x0b : In64 x0b) (w : World) :
    Calls Try.prog 5 #[.agg #[.int .u64 x0a, .int .u64 x0b]] w fun e w' => e = .returned (.bool true) ∧ Below w.heap.size w w' := by
  go_enter Try.func5, Try.ntmps5
  go_wp2_with fail
  refine (f_sanity _).mono ?_
  rintro e w' ⟨rfl, n0, rfl⟩
  go_wp2_with fail
  go_quiet ((go_at_call 20; first | exact qs (r_reduce _ _) rfl | exact qs2 (r_reduce _ _) rfl))
  generalize (int x0a : F) = a, (int x0b : F) = b
  have e1 : a + -a = 0 := add_neg _
  have e0 : (0 : F).i = 0 := rfl
  have e2 : - -a = a := neg_neg _
  have e3 : a + -b = a - b := (sub_eq _ _).symm
  have e4 : a - b + b = a := sub_add_cancel _ _
  have e5 : -a * b = -(a * b) := neg_mul _ _
  go_wp2_with (first
    | (go_at_call 30; refine (f_add _ _ _).mono ?_; rintro e w' ⟨rfl, rfl⟩)
    | (go_at_call 32; refine (f_sub _ _ _).mono ?_; rintro e w' ⟨rfl, rfl⟩)
    | (go_at_call 34; refine (f_neg _ _).mono ?_; rintro e w' ⟨rfl, rfl⟩)
    | (go_at_call 36; refine (f_mul _ _ _).mono ?_; rintro e w' ⟨rfl, rfl⟩)
    | (go_at_call 26; refine (r_validF _ _).mono ?_; rintro e w' ⟨rfl, rfl⟩))
  go_ret
  exact ⟨rfl, by repeat (first | exact Below.refl _ _ | exact Below.alloc (Below.refl _ _) (Nat.le_refl _) _ | apply below_drewN)⟩

set_option linter.unusedVariables false in
set_option maxRecDepth 100000 in
set_option maxHeartbeats 1000000 in
theorem lifted (os : Os) (started : os.Started) (H : Type) (enc : TypeId × Value → H) :
    ReturnsInHanded {} Try.checked os 5 .any (Rows.fieldNegativesSpec.pre6 enc Try.prog Try.f5 Rows.fieldNegativesRow.domain false) (Rows.fieldNegativesSpec.post enc Try.prog Try.f5 false true false false) := by
  refine returnsInHanded_of_change (C := Try.checked) own started (by kernel_rfl) Try.func5
    (ChangeSpec.witness6 (enc := enc) (C := Try.checked) false ⟨#[], #[.agg #[.int .u64 0, .int .u64 0]], []⟩ 8 (by kernel_rfl) (by kernel_rfl) (by kernel_rfl) (by kernel_rfl)) ?_
  intro W base args ds gs before hval0 hW _ _
  have hval : ∀ (j : Nat) t v, Try.f5.params[j]? = some t → args[j]? = some v → Value.okWide Try.prog W .any base t v := hval0
  have hW' : DataW.Whole enc Try.prog Try.f5.params.toList Rows.fieldNegativesSpec.vars false W args.toList ds gs before := hW
  obtain ⟨p, q, hA0, hV, rfl, hfz, hnd⟩ := hW
  have hA : DataW.TrodAll enc Try.prog W 0 (fun _ => true) true Try.f5.params.toList args.toList ds p := hA0
  rw [Try.params5] at hA hval
  obtain ⟨v0, vs0, d0, ds0, p0, q0, hargs, rfl, rfl, h0, r0⟩ := trodAll_cons hA
  obtain ⟨rfl, rfl, rfl⟩ := trodAll_nil r0
  obtain rfl : args = #[v0] := by cases args; simp_all
  obtain ⟨rfl, rfl⟩ := trodVars_none hV
  obtain ⟨zs0, hlen0, rfl, hz0⟩ := aggs_open (k := .u64) (ts := [22, 22]) (n := 2) (by kernel_rfl) (by kernel_rfl) (by kernel_rfl) (by kernel_rfl) (hval 0 23 v0 rfl rfl)
  obtain ⟨x0a, x0b, rfl⟩ := list2 zs0 hlen0
  refine (walk x0a x0b ⟨(has_u64 (hz0 x0a (by simp))).1, (has_u64 (hz0 x0a (by simp))).2⟩ ⟨(has_u64 (hz0 x0b (by simp))).1, (has_u64 (hz0 x0b (by simp))).2⟩ W).mono fun e W' ⟨he, bel⟩ => ?_
  subst he
  exact ⟨_, rfl, law_post laidOut hW' rfl (by kernel_rfl) rfl Try.underlying4 rfl bel⟩

theorem proved : Rows.FieldNegativesSaid :=
  OpenClaim.holds_of_wide 5 Try.f5 rfl rfl rfl rfl rfl rfl rfl ⟨rfl, rfl, rfl, rfl, rfl⟩ rfl rfl rfl rfl rfl (by kernel_rfl) Try.func5 (by kernel_rfl)
    (of_decide_eq_true (by kernel_rfl)) (by unfold Func.isWrapper; first | (rw [if_pos (by decide +kernel)]; kernel_rfl) | (rw [if_neg (by decide +kernel)]; exact ⟨rfl, rfl⟩))
    (fun os started H enc _ => lifted os started H enc)
end Go.Proofs.Ytfebohbhahaopaa.lawFieldNegatives
