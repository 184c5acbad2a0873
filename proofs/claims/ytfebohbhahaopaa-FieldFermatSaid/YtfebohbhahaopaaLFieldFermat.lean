/- FieldFermat: for every two numbers of 64 bits the law on Fermat's little theorem returns true; no conditions. -/
import Derived.Test.YtfebohbhahaopaaFrm
import Derived.Test.YtfebohbhahaopaaFs
namespace Go.Proofs.Ytfebohbhahaopaa.lawFieldFermat
open Go.ChangeShapes Go.WideShapes Go.ChangeAt Go.RowKit Att Att.CRing
theorem p1 (a : F) : pw a (18446744069414584321 : Int).toNat = a := F.fermat a
theorem p2 (a : F) (h : a ≠ 0) : pw a (18446744069414584320 : Int).toNat = 1 := F.fermat1 a h
def half (a : F) : F := pw a 9223372034707292160
theorem p3 (a : F) : pw a (9223372034707292160 : Int).toNat = half a := rfl
theorem half_sq (a : F) (h : a ≠ 0) : half a * half a = 1 := by
  unfold half
  rw [← pw_two, ← pw_mul]; exact F.fermat1 a h
theorem half_one (a : F) (h : a ≠ 0) : half a = 1 ∨ half a = -1 := sq_eq_one (half_sq a h)
theorem half_mul (a b : F) : half (a * b) = half a * half b := mul_pw _ _ _
theorem half_zero : half 0 = 0 := zero_pw _ (by omega)
theorem i_pos {a : F} (h : a ≠ 0) : 0 < a.i := by
  have h0 := i_nn a
  have h1 : a.i ≠ (0 : F).i := fun e => h (i_inj e)
  have h2 : (0 : F).i = 0 := rfl
  omega
theorem nz {a : F} (h : a ≠ 0) : (a.i == 0) = false ∧ (!(a.i == 0)) = true ∧ (a.i != 0) = true := by have := i_pos h; simp; omega

set_option maxRecDepth 100000 in
set_option maxHeartbeats 4000000 in
theorem walk (x0a : Int) (x0b : Int) (h_x0a : In64 x0a) (h_x0b : In64 x0b) (w : World) :
    Calls Try.prog 8 #[.agg #[.int .u64 x0a, .int .u64 x0b]] w fun e w' => e = .returned (.bool true) ∧ Below w.heap.size w w' := by
  go_enter Try.func8, Try.ntmps8
  go_wp2_with fail
  refine (f_sanity _).mono ?_
  rintro e w' ⟨rfl, n0, rfl⟩
  go_wp2_with fail
  go_quiet ((go_at_call 20; first | exact qs (r_reduce _ _) rfl | exact qs2 (r_reduce _ _) rfl))
  generalize (int x0a : F) = a, (int x0b : F) = b
  by_cases ha : a = 0
  · subst ha
    have e0 : (0 : F).i = 0 := rfl
    go_wp2_with (go_at_call 38; refine (f_pow _ _ (by omega) (by omega) _).mono ?_; rintro e w' ⟨rfl, rfl⟩; (first | rw [int_i] | rw [show (int 0 : F) = 0 from rfl]); (first | rw [p1] | (rw [p3]; try rw [half_zero])))
    go_ret
    exact ⟨rfl, below_drewN ((Below.refl _ _).alloc (Nat.le_refl _) _) _⟩
  · obtain ⟨z1, z2, z3⟩ := nz ha
    have hm := half_mul a b
    have e1 : (1 : F).i = 1 := rfl
    have hh : (((half a).i == 1) = true) ∨ (((half a).i == 1) = false ∧ ((half a).i == 18446744069414584320) = true) := by
      rcases half_one a ha with e | e
      · rw [e]; exact .inl rfl
      · rw [e]; exact .inr ⟨rfl, rfl⟩
    have HA := Lib.hid ha; clear ha
    rcases hh with hh | ⟨hh, hh2⟩
    all_goals
      go_wp2_with (first
        | (go_at_call 38; refine (f_pow _ _ (by omega) (by omega) _).mono ?_; rintro e w' ⟨rfl, rfl⟩; rw [int_i]; (first | rw [p1] | rw [p3] | rw [p2 _ HA.out]))
        | (go_at_call 36; refine (f_mul _ _ _).mono ?_; rintro e w' ⟨rfl, rfl⟩)
        | (go_at_call 26; refine (r_validF _ _).mono ?_; rintro e w' ⟨rfl, rfl⟩))
      go_ret
      exact ⟨rfl, below_drewN ((Below.refl _ _).alloc (Nat.le_refl _) _) _⟩

set_option linter.unusedVariables false in
set_option maxRecDepth 100000 in
set_option maxHeartbeats 1000000 in
theorem lifted (os : Os) (started : os.Started) (H : Type) (enc : TypeId × Value → H) :
    ReturnsInHanded {} Try.checked os 8 .any (Rows.fieldFermatSpec.pre6 enc Try.prog Try.f8 Rows.fieldFermatRow.domain false) (Rows.fieldFermatSpec.post enc Try.prog Try.f8 false true false false) := by
  refine returnsInHanded_of_change (C := Try.checked) own started (by kernel_rfl) Try.func8
    (ChangeSpec.witness6 (enc := enc) (C := Try.checked) false ⟨#[], #[.agg #[.int .u64 0, .int .u64 0]], []⟩ 8 (by kernel_rfl) (by kernel_rfl) (by kernel_rfl) (by kernel_rfl)) ?_
  intro W base args ds gs before hval0 hW _ _
  have hval : ∀ (j : Nat) t v, Try.f8.params[j]? = some t → args[j]? = some v → Value.okWide Try.prog W .any base t v := hval0
  have hW' : DataW.Whole enc Try.prog Try.f8.params.toList Rows.fieldFermatSpec.vars false W args.toList ds gs before := hW
  obtain ⟨p, q, hA0, hV, rfl, hfz, hnd⟩ := hW
  have hA : DataW.TrodAll enc Try.prog W 0 (fun _ => true) true Try.f8.params.toList args.toList ds p := hA0
  rw [Try.params8] at hA hval
  obtain ⟨v0, vs0, d0, ds0, p0, q0, hargs, rfl, rfl, h0, r0⟩ := trodAll_cons hA
  obtain ⟨rfl, rfl, rfl⟩ := trodAll_nil r0
  obtain rfl : args = #[v0] := by cases args; simp_all
  obtain ⟨rfl, rfl⟩ := trodVars_none hV
  obtain ⟨zs0, hlen0, rfl, hz0⟩ := aggs_open (k := .u64) (ts := [22, 22]) (n := 2) (by kernel_rfl) (by kernel_rfl) (by kernel_rfl) (by kernel_rfl) (hval 0 23 v0 rfl rfl)
  obtain ⟨x0a, x0b, rfl⟩ := list2 zs0 hlen0
  refine (walk x0a x0b ⟨(has_u64 (hz0 x0a (by simp))).1, (has_u64 (hz0 x0a (by simp))).2⟩ ⟨(has_u64 (hz0 x0b (by simp))).1, (has_u64 (hz0 x0b (by simp))).2⟩ W).mono fun e W' ⟨he, bel⟩ => ?_
  subst he
  exact ⟨_, rfl, law_post laidOut hW' rfl (by kernel_rfl) rfl Try.underlying4 rfl bel⟩

theorem proved : Rows.FieldFermatSaid :=
  OpenClaim.holds_of_wide 8 Try.f8 rfl rfl rfl rfl rfl rfl rfl ⟨rfl, rfl, rfl, rfl, rfl⟩ rfl rfl rfl rfl rfl (by kernel_rfl) Try.func8 (by kernel_rfl)
    (of_decide_eq_true (by kernel_rfl)) (by unfold Func.isWrapper; first | (rw [if_pos (by decide +kernel)]; kernel_rfl) | (rw [if_neg (by decide +kernel)]; exact ⟨rfl, rfl⟩))
    (fun os started H enc _ => lifted os started H enc)
end Go.Proofs.Ytfebohbhahaopaa.lawFieldFermat
