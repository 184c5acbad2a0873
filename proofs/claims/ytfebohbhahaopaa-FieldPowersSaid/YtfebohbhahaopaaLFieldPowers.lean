/- FieldPowers: for every two numbers of 64 bits and every two exponents of 32 bits the laws of exponents return true; no conditions. -/
import Derived.Test.YtfebohbhahaopaaFrm
import Derived.Test.YtfebohbhahaopaaFs
namespace Go.Proofs.Ytfebohbhahaopaa.lawFieldPowers
open Go.ChangeShapes Go.WideShapes Go.ChangeAt Go.RowKit Att Att.CRing
theorem mul32 (m n : Int) (m0 : 0 ≤ m) (m1 : m ≤ 4294967295) (n0 : 0 ≤ n) (n1 : n ≤ 4294967295) : 0 ≤ m * n ∧ m * n < 18446744073709551616 := half_le m n m0 m1 n0 n1

set_option maxRecDepth 100000 in
set_option maxHeartbeats 4000000 in
theorem walk (x0a : Int) (x0b : Int) (x1 : Int) (x2 : Int) (h_x0a : In64 x0a) (h_x0b : In64 x0b) (l_x1 : 0 ≤ x1) (u_x1 : x1 ≤ 4294967295) (l_x2 : 0 ≤ x2) (u_x2 : x2 ≤ 4294967295) (w : World) :
    Calls Try.prog 7 #[.agg #[.int .u64 x0a, .int .u64 x0b], .int .u32 x1, .int .u32 x2] w fun e w' => e = .returned (.bool true) ∧ Below w.heap.size w w' := by
  go_enter Try.func7, Try.ntmps7
  go_wp2_with fail
  refine (f_sanity _).mono ?_
  rintro e w' ⟨rfl, n0, rfl⟩
  go_wp2_with fail
  go_quiet ((go_at_call 20; first | exact qs (r_reduce _ _) rfl | exact qs2 (r_reduce _ _) rfl))
  generalize (int x0a : F) = a, (int x0b : F) = b
  obtain ⟨p0, p1⟩ := mul32 x1 x2 l_x1 u_x1 l_x2 u_x2
  have e1 : pw a x1.toNat * pw a x2.toNat = pw a (x1 + x2).toNat := by rw [← pw_add]; congr 1; omega
  have e2 : pw (pw a x1.toNat) x2.toNat = pw a (x1 * x2).toNat := by rw [← pw_mul, Int.toNat_mul l_x1 l_x2]
  have e3 : pw (a * b) x2.toNat = pw a x2.toNat * pw b x2.toNat := mul_pw _ _ _
  have e4 : pw a 0 = 1 := rfl
  have e5 : pw a 1 = a := pw_one a
  have e6 : pw a 2 = a * a := pw_two a
  have e7 : (1 : F).i = 1 := rfl
  go_wp2_with (first
    | (go_at_call 36; refine (f_mul _ _ _).mono ?_; rintro e w' ⟨rfl, rfl⟩)
    | (go_at_call 26; refine (r_validF _ _).mono ?_; rintro e w' ⟨rfl, rfl⟩)
    | (go_at_call 38; refine (f_pow _ _ (by omega) (by omega) _).mono ?_; rintro e w' ⟨rfl, rfl⟩))
  go_ret
  exact ⟨rfl, by repeat (first | exact Below.refl _ _ | exact Below.alloc (Below.refl _ _) (Nat.le_refl _) _ | apply below_drewN)⟩

set_option linter.unusedVariables false in
set_option maxRecDepth 100000 in
set_option maxHeartbeats 1000000 in
theorem lifted (os : Os) (started : os.Started) (H : Type) (enc : TypeId × Value → H) :
    ReturnsInHanded {} Try.checked os 7 .any (Rows.fieldPowersSpec.pre6 enc Try.prog Try.f7 Rows.fieldPowersRow.domain false) (Rows.fieldPowersSpec.post enc Try.prog Try.f7 false true false false) := by
  refine returnsInHanded_of_change (C := Try.checked) own started (by kernel_rfl) Try.func7
    (ChangeSpec.witness6 (enc := enc) (C := Try.checked) false ⟨#[], #[.agg #[.int .u64 0, .int .u64 0], .int .u32 0, .int .u32 0], []⟩ 8 (by kernel_rfl) (by kernel_rfl) (by kernel_rfl) (by kernel_rfl)) ?_
  intro W base args ds gs before hval0 hW _ _
  have hval : ∀ (j : Nat) t v, Try.f7.params[j]? = some t → args[j]? = some v → Value.okWide Try.prog W .any base t v := hval0
  have hW' : DataW.Whole enc Try.prog Try.f7.params.toList Rows.fieldPowersSpec.vars false W args.toList ds gs before := hW
  obtain ⟨p, q, hA0, hV, rfl, hfz, hnd⟩ := hW
  have hA : DataW.TrodAll enc Try.prog W 0 (fun _ => true) true Try.f7.params.toList args.toList ds p := hA0
  rw [Try.params7] at hA hval
  obtain ⟨v0, vs0, d0, ds0, p0, q0, hargs, rfl, rfl, h0, r0⟩ := trodAll_cons hA
  obtain ⟨v1, vs1, d1, ds1, p1, q1, rfl, rfl, rfl, h1, r1⟩ := trodAll_cons r0
  obtain ⟨v2, vs2, d2, ds2, p2, q2, rfl, rfl, rfl, h2, r2⟩ := trodAll_cons r1
  obtain ⟨rfl, rfl, rfl⟩ := trodAll_nil r2
  obtain rfl : args = #[v0, v1, v2] := by cases args; simp_all
  obtain ⟨rfl, rfl⟩ := trodVars_none hV
  obtain ⟨zs0, hlen0, rfl, hz0⟩ := aggs_open (k := .u64) (ts := [22, 22]) (n := 2) (by kernel_rfl) (by kernel_rfl) (by kernel_rfl) (by kernel_rfl) (hval 0 23 v0 rfl rfl)
  obtain ⟨x0a, x0b, rfl⟩ := list2 zs0 hlen0
  obtain ⟨x1, rfl, hz1⟩ := int_open Try.underlying37 (hval 1 37 v1 rfl rfl)
  obtain ⟨x2, rfl, hz2⟩ := int_open Try.underlying37 (hval 2 37 v2 rfl rfl)
  refine (walk x0a x0b x1 x2 ⟨(has_u64 (hz0 x0a (by simp))).1, (has_u64 (hz0 x0a (by simp))).2⟩ ⟨(has_u64 (hz0 x0b (by simp))).1, (has_u64 (hz0 x0b (by simp))).2⟩ (by have := has_u32 hz1; omega) (by have := has_u32 hz1; omega) (by have := has_u32 hz2; omega) (by have := has_u32 hz2; omega) W).mono fun e W' ⟨he, bel⟩ => ?_
  subst he
  exact ⟨_, rfl, law_post laidOut hW' rfl (by kernel_rfl) rfl Try.underlying4 rfl bel⟩

theorem proved : Rows.FieldPowersSaid :=
  OpenClaim.holds_of_wide 7 Try.f7 rfl rfl rfl rfl rfl rfl rfl ⟨rfl, rfl, rfl, rfl, rfl⟩ rfl rfl rfl rfl rfl (by kernel_rfl) Try.func7 (by kernel_rfl)
    (of_decide_eq_true (by kernel_rfl)) (by unfold Func.isWrapper; first | (rw [if_pos (by decide +kernel)]; kernel_rfl) | (rw [if_neg (by decide +kernel)]; exact ⟨rfl, rfl⟩))
    (fun os started H enc _ => lifted os started H enc)
end Go.Proofs.Ytfebohbhahaopaa.lawFieldPowers
