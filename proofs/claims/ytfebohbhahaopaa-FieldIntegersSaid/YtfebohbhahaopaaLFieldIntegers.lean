/- FieldIntegers: for every two integers of 32 bits the law on FromInt returns true; no conditions. -/
import Derived.Test.YtfebohbhahaopaaFrm
import Derived.Test.YtfebohbhahaopaaFs
namespace Go.Proofs.Ytfebohbhahaopaa.lawFieldIntegers
open Go.ChangeShapes Go.WideShapes Go.ChangeAt Go.RowKit Att Att.CRing
theorem prod (m n : Int) (m0 : -2147483648 ≤ m) (m1 : m ≤ 2147483647) (n0 : -2147483648 ≤ n) (n1 : n ≤ 2147483647) : -9223372036854775808 ≤ m * n ∧ m * n ≤ 9223372036854775807 := by
  have h : (m * n).natAbs ≤ 2147483648 * 2147483648 := by
    rw [Int.natAbs_mul]; exact Nat.mul_le_mul (by omega) (by omega)
  omega
theorem inj (m n : Int) (m0 : -2147483648 ≤ m) (m1 : m ≤ 2147483647) (n0 : -2147483648 ≤ n) (n1 : n ≤ 2147483647) (h : m ≠ n) : ((int m : F).i == (int n : F).i) = false := by
  simp only [beq_eq_false_iff_ne, i_int]; omega

set_option maxRecDepth 100000 in
set_option maxHeartbeats 4000000 in
theorem walk (x0 : Int) (x1 : Int) (l_x0 : -2147483648 ≤ x0) (u_x0 : x0 ≤ 2147483647) (l_x1 : -2147483648 ≤ x1) (u_x1 : x1 ≤ 2147483647) (w : World) :
    Calls Try.prog 10 #[.int .i32 x0, .int .i32 x1] w fun e w' => e = .returned (.bool true) ∧ Below w.heap.size w w' := by
  obtain ⟨p0, p1⟩ := prod x0 x1 l_x0 u_x0 l_x1 u_x1
  have e1 : (int x0 + int x1 : F) = int (x0 + x1) := (int_add _ _).symm
  have e2 : (int x0 - int x1 : F) = int (x0 - x1) := (int_sub _ _).symm
  have e3 : (int x0 * int x1 : F) = int (x0 * x1) := (int_mul _ _).symm
  have e4 : (- int x0 : F) = int (-x0) := (int_neg _).symm
  by_cases h : x0 = x1
  · subst h
    go_enter Try.func10, Try.ntmps10
    go_wp2_with fail
    refine (f_sanity _).mono ?_
    rintro e w' ⟨rfl, n0, rfl⟩
    go_wp2_with (first
      | (go_at_call 30; refine (f_add _ _ _).mono ?_; rintro e w' ⟨rfl, rfl⟩)
      | (go_at_call 32; refine (f_sub _ _ _).mono ?_; rintro e w' ⟨rfl, rfl⟩)
      | (go_at_call 34; refine (f_neg _ _).mono ?_; rintro e w' ⟨rfl, rfl⟩)
      | (go_at_call 36; refine (f_mul _ _ _).mono ?_; rintro e w' ⟨rfl, rfl⟩)
      | (go_at_call 26; refine (r_validF _ _).mono ?_; rintro e w' ⟨rfl, rfl⟩)
      | (go_at_call 28; refine (f_fromInt _ (by omega) (by omega) _).mono ?_; rintro e w' ⟨rfl, rfl⟩))
    go_ret
    exact ⟨rfl, below_drewN (Below.refl _ _) _⟩
  · have hi := inj x0 x1 l_x0 u_x0 l_x1 u_x1 h
    have hj : (x0 == x1) = false := by simp; exact h
    have H := Lib.hid h; clear h
    go_enter Try.func10, Try.ntmps10
    go_wp2_with fail
    refine (f_sanity _).mono ?_
    rintro e w' ⟨rfl, n0, rfl⟩
    go_wp2_with (first
      | (go_at_call 30; refine (f_add _ _ _).mono ?_; rintro e w' ⟨rfl, rfl⟩)
      | (go_at_call 32; refine (f_sub _ _ _).mono ?_; rintro e w' ⟨rfl, rfl⟩)
      | (go_at_call 34; refine (f_neg _ _).mono ?_; rintro e w' ⟨rfl, rfl⟩)
      | (go_at_call 36; refine (f_mul _ _ _).mono ?_; rintro e w' ⟨rfl, rfl⟩)
      | (go_at_call 26; refine (r_validF _ _).mono ?_; rintro e w' ⟨rfl, rfl⟩)
      | (go_at_call 28; refine (f_fromInt _ (by omega) (by omega) _).mono ?_; rintro e w' ⟨rfl, rfl⟩))
    go_ret
    exact ⟨rfl, below_drewN (Below.refl _ _) _⟩

set_option linter.unusedVariables false in
set_option maxRecDepth 100000 in
set_option maxHeartbeats 1000000 in
theorem lifted (os : Os) (started : os.Started) (H : Type) (enc : TypeId × Value → H) :
    ReturnsInHanded {} Try.checked os 10 .any (Rows.fieldIntegersSpec.pre6 enc Try.prog Try.f10 Rows.fieldIntegersRow.domain false) (Rows.fieldIntegersSpec.post enc Try.prog Try.f10 false true false false) := by
  refine returnsInHanded_of_change (C := Try.checked) own started (by kernel_rfl) Try.func10
    (ChangeSpec.witness6 (enc := enc) (C := Try.checked) false ⟨#[], #[.int .i32 0, .int .i32 0], []⟩ 8 (by kernel_rfl) (by kernel_rfl) (by kernel_rfl) (by kernel_rfl)) ?_
  intro W base args ds gs before hval0 hW _ _
  have hval : ∀ (j : Nat) t v, Try.f10.params[j]? = some t → args[j]? = some v → Value.okWide Try.prog W .any base t v := hval0
  have hW' : DataW.Whole enc Try.prog Try.f10.params.toList Rows.fieldIntegersSpec.vars false W args.toList ds gs before := hW
  obtain ⟨p, q, hA0, hV, rfl, hfz, hnd⟩ := hW
  have hA : DataW.TrodAll enc Try.prog W 0 (fun _ => true) true Try.f10.params.toList args.toList ds p := hA0
  rw [Try.params10] at hA hval
  obtain ⟨v0, vs0, d0, ds0, p0, q0, hargs, rfl, rfl, h0, r0⟩ := trodAll_cons hA
  obtain ⟨v1, vs1, d1, ds1, p1, q1, rfl, rfl, rfl, h1, r1⟩ := trodAll_cons r0
  obtain ⟨rfl, rfl, rfl⟩ := trodAll_nil r1
  obtain rfl : args = #[v0, v1] := by cases args; simp_all
  obtain ⟨rfl, rfl⟩ := trodVars_none hV
  obtain ⟨x0, rfl, hz0⟩ := int_open Try.underlying21 (hval 0 21 v0 rfl rfl)
  obtain ⟨x1, rfl, hz1⟩ := int_open Try.underlying21 (hval 1 21 v1 rfl rfl)
  refine (walk x0 x1 (has_i32 hz0).1 (has_i32 hz0).2 (has_i32 hz1).1 (has_i32 hz1).2 W).mono fun e W' ⟨he, bel⟩ => ?_
  subst he
  exact ⟨_, rfl, law_post laidOut hW' rfl (by kernel_rfl) rfl Try.underlying4 rfl bel⟩

theorem proved : Rows.FieldIntegersSaid :=
  OpenClaim.holds_of_wide 10 Try.f10 rfl rfl rfl rfl rfl rfl rfl ⟨rfl, rfl, rfl, rfl, rfl⟩ rfl rfl rfl rfl rfl (by kernel_rfl) Try.func10 (by kernel_rfl)
    (of_decide_eq_true (by kernel_rfl)) (by unfold Func.isWrapper; first | (rw [if_pos (by decide +kernel)]; kernel_rfl) | (rw [if_neg (by decide +kernel)]; exact ⟨rfl, rfl⟩))
    (fun os started H enc _ => lifted os started H enc)
end Go.Proofs.Ytfebohbhahaopaa.lawFieldIntegers
