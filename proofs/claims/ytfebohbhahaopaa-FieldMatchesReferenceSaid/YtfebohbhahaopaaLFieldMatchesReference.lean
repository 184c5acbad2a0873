/- FieldMatchesReference: for all arguments the functions of package field return what the reference returns; no conditions. -/
import Derived.Test.YtfebohbhahaopaaFrm
import Derived.Test.YtfebohbhahaopaaFs
import Derived.Test.YtfebohbhahaopaaLex
import Derived.Test.YtfebohbhahaopaaGr
namespace Go.Proofs.Ytfebohbhahaopaa.lawFieldMatchesReference
open Go.ChangeShapes Go.WideShapes Go.ChangeAt Go.RowKit Att Att.CRing
theorem i_pos {a : F} (h : a ≠ 0) : 0 < a.i := by
  have h0 := i_nn a
  have h1 : a.i ≠ (0 : F).i := fun e => h (i_inj e)
  have h2 : (0 : F).i = 0 := rfl
  omega
set_option linter.unusedVariables false in
set_option maxRecDepth 100000 in
set_option maxHeartbeats 4000000 in
theorem w1 (x0a x0b x1 x2 : Int) (h_x0a : In64 x0a) (h_x0b : In64 x0b) (l_x1 : -9223372036854775808 ≤ x1) (u_x1 : x1 ≤ 9223372036854775807) (l_x2 : -9223372036854775808 ≤ x2) (u_x2 : x2 ≤ 9223372036854775807) (hk : x2 < 0 ∨ 32 < x2) (ha : (int x0a : F) = 0) (w : World) :
    Calls Try.prog 3 #[.agg #[.int .u64 x0a, .int .u64 x0b], .int .i64 x1, .int .i64 x2] w fun e w' => e = .returned (.bool true) ∧ Below w.heap.size w w' := by
  go_enter Try.func3, Try.ntmps3
  go_wp2_with fail
  refine (f_sanity _).mono ?_
  rintro e w' ⟨rfl, n0, rfl⟩
  go_wp2_with fail
  go_quiet ((go_at_call 20; first | exact qs (r_reduce _ _) rfl | exact qs2 (r_reduce _ _) rfl))
  have e0 : (0 : F).i = 0 := rfl
  go_wp2_with (first
    | (go_at_call 23; refine (f_root_bad _ hk _).mono ?_; rintro e w' ⟨rfl, rfl⟩)
    | (go_at_call 24; refine (r_root_bad _ hk _).mono ?_; rintro e w' ⟨rfl, rfl⟩)
    | (go_at_call 21; refine (f_inv0 _).mono ?_; rintro e w' ⟨rfl, rfl⟩)
    | (go_at_call 22; refine (r_inv0 _).mono ?_; rintro e w' ⟨rfl, rfl⟩))
  try simp only [List.append_eq, List.cons_append, List.nil_append]
  refine wp_region_gr (by kernel_rfl) (lex_of_chk (by kernel_rfl) (by kernel_rfl)) ?_
  repeat (go_big_quiet_step ((first
    | (go_at_call 30; exact qa (f_add _ _ _) rfl)
    | (go_at_call 31; exact qa (r_add _ _ _) rfl)
    | (go_at_call 32; exact qa (f_sub _ _ _) rfl)
    | (go_at_call 33; exact qa (r_sub _ _ _) rfl)
    | (go_at_call 34; exact qa (f_neg _ _) rfl)
    | (go_at_call 35; exact qa (r_neg _ _) rfl)
    | (go_at_call 36; exact qa (f_mul _ _ _) rfl)
    | (go_at_call 37; exact qa (r_mul _ _ _) rfl)
    | (go_at_call 38; exact qa (f_pow _ _ h_x0b.nn h_x0b.lt _) rfl)
    | (go_at_call 39; exact qa (r_pow _ _ h_x0b.nn h_x0b.lt _) rfl)
    | (go_at_call 25; exact qa (f_valid _ _) rfl)
    | (go_at_call 26; exact qa (r_valid _ _) rfl)
    | (go_at_call 27; exact qa (f_reduce _ h_x0a.nn h_x0a.lt _) rfl)
    | (go_at_call 20; exact qa (r_reduce _ _) rfl)
    | (go_at_call 28; exact qa (f_fromInt _ l_x1 u_x1 _) rfl)
    | (go_at_call 29; exact qa (r_fromInt _ l_x1 u_x1 _) rfl))))
  refine wpQuiet_nil ?_
  intro _ hw'
  obtain ⟨g, hw''⟩ := hw'
  subst hw''
  go_wp2_with fail
  go_ret
  exact ⟨rfl, (by repeat (first | exact Below.refl _ _ | apply Below.drew | apply below_drewN | (refine below_gr ?_ (by first | (simp; done) | (simp; omega)) _) | (refine Below.alloc ?_ (by first | (simp; done) | (simp; omega)) _) | (refine Below.setCell ?_ (by first | (simp; done) | (simp; omega)) _)))⟩
set_option linter.unusedVariables false in
set_option maxRecDepth 100000 in
set_option maxHeartbeats 4000000 in
theorem w2 (x0a x0b x1 x2 : Int) (h_x0a : In64 x0a) (h_x0b : In64 x0b) (l_x1 : -9223372036854775808 ≤ x1) (u_x1 : x1 ≤ 9223372036854775807) (l_x2 : -9223372036854775808 ≤ x2) (u_x2 : x2 ≤ 9223372036854775807) (hk : x2 < 0 ∨ 32 < x2) (pa : 0 < (int x0a : F).i) (w : World) :
    Calls Try.prog 3 #[.agg #[.int .u64 x0a, .int .u64 x0b], .int .i64 x1, .int .i64 x2] w fun e w' => e = .returned (.bool true) ∧ Below w.heap.size w w' := by
  go_enter Try.func3, Try.ntmps3
  go_wp2_with fail
  refine (f_sanity _).mono ?_
  rintro e w' ⟨rfl, n0, rfl⟩
  go_wp2_with fail
  go_quiet ((go_at_call 20; first | exact qs (r_reduce _ _) rfl | exact qs2 (r_reduce _ _) rfl))
  have e0 : (0 : F).i = 0 := rfl
  go_wp2_with (first
    | (go_at_call 23; refine (f_root_bad _ hk _).mono ?_; rintro e w' ⟨rfl, rfl⟩)
    | (go_at_call 24; refine (r_root_bad _ hk _).mono ?_; rintro e w' ⟨rfl, rfl⟩)
    | (go_at_call 21; refine (f_inv _ pa _).mono ?_; rintro e w' ⟨rfl, _, rfl⟩)
    | (go_at_call 22; refine (r_inv _ pa _).mono ?_; rintro e w' ⟨rfl, rfl⟩))
  try simp only [List.append_eq, List.cons_append, List.nil_append]
  refine wp_region_gr (by kernel_rfl) (lex_of_chk (by kernel_rfl) (by kernel_rfl)) ?_
  repeat (go_big_quiet_step ((first
    | (go_at_call 30; exact qa (f_add _ _ _) rfl)
    | (go_at_call 31; exact qa (r_add _ _ _) rfl)
    | (go_at_call 32; exact qa (f_sub _ _ _) rfl)
    | (go_at_call 33; exact qa (r_sub _ _ _) rfl)
    | (go_at_call 34; exact qa (f_neg _ _) rfl)
    | (go_at_call 35; exact qa (r_neg _ _) rfl)
    | (go_at_call 36; exact qa (f_mul _ _ _) rfl)
    | (go_at_call 37; exact qa (r_mul _ _ _) rfl)
    | (go_at_call 38; exact qa (f_pow _ _ h_x0b.nn h_x0b.lt _) rfl)
    | (go_at_call 39; exact qa (r_pow _ _ h_x0b.nn h_x0b.lt _) rfl)
    | (go_at_call 25; exact qa (f_valid _ _) rfl)
    | (go_at_call 26; exact qa (r_valid _ _) rfl)
    | (go_at_call 27; exact qa (f_reduce _ h_x0a.nn h_x0a.lt _) rfl)
    | (go_at_call 20; exact qa (r_reduce _ _) rfl)
    | (go_at_call 28; exact qa (f_fromInt _ l_x1 u_x1 _) rfl)
    | (go_at_call 29; exact qa (r_fromInt _ l_x1 u_x1 _) rfl))))
  refine wpQuiet_nil ?_
  intro _ hw'
  obtain ⟨g, hw''⟩ := hw'
  subst hw''
  go_wp2_with fail
  go_ret
  exact ⟨rfl, (by repeat (first | exact Below.refl _ _ | apply Below.drew | apply below_drewN | (refine below_gr ?_ (by first | (simp; done) | (simp; omega)) _) | (refine Below.alloc ?_ (by first | (simp; done) | (simp; omega)) _) | (refine Below.setCell ?_ (by first | (simp; done) | (simp; omega)) _)))⟩
set_option linter.unusedVariables false in
set_option maxRecDepth 100000 in
set_option maxHeartbeats 4000000 in
theorem w3 (x0a x0b x1 x2 : Int) (h_x0a : In64 x0a) (h_x0b : In64 x0b) (l_x1 : -9223372036854775808 ≤ x1) (u_x1 : x1 ≤ 9223372036854775807) (l_x2 : -9223372036854775808 ≤ x2) (u_x2 : x2 ≤ 9223372036854775807) (k0 : 0 ≤ x2) (k1 : x2 ≤ 32) (ha : (int x0a : F) = 0) (w : World) :
    Calls Try.prog 3 #[.agg #[.int .u64 x0a, .int .u64 x0b], .int .i64 x1, .int .i64 x2] w fun e w' => e = .returned (.bool true) ∧ Below w.heap.size w w' := by
  go_enter Try.func3, Try.ntmps3
  go_wp2_with fail
  refine (f_sanity _).mono ?_
  rintro e w' ⟨rfl, n0, rfl⟩
  go_wp2_with fail
  go_quiet ((go_at_call 20; first | exact qs (r_reduce _ _) rfl | exact qs2 (r_reduce _ _) rfl))
  have e0 : (0 : F).i = 0 := rfl
  go_wp2_with (first
    | (go_at_call 23; refine (f_root _ k0 k1 _).mono ?_; rintro e w' ⟨rfl, rfl⟩)
    | (go_at_call 24; refine (r_root _ k0 k1 _).mono ?_; rintro e w' ⟨rfl, rfl⟩)
    | (go_at_call 21; refine (f_inv0 _).mono ?_; rintro e w' ⟨rfl, rfl⟩)
    | (go_at_call 22; refine (r_inv0 _).mono ?_; rintro e w' ⟨rfl, rfl⟩))
  try simp only [List.append_eq, List.cons_append, List.nil_append]
  refine wp_region_gr (by kernel_rfl) (lex_of_chk (by kernel_rfl) (by kernel_rfl)) ?_
  repeat (go_big_quiet_step ((first
    | (go_at_call 30; exact qa (f_add _ _ _) rfl)
    | (go_at_call 31; exact qa (r_add _ _ _) rfl)
    | (go_at_call 32; exact qa (f_sub _ _ _) rfl)
    | (go_at_call 33; exact qa (r_sub _ _ _) rfl)
    | (go_at_call 34; exact qa (f_neg _ _) rfl)
    | (go_at_call 35; exact qa (r_neg _ _) rfl)
    | (go_at_call 36; exact qa (f_mul _ _ _) rfl)
    | (go_at_call 37; exact qa (r_mul _ _ _) rfl)
    | (go_at_call 38; exact qa (f_pow _ _ h_x0b.nn h_x0b.lt _) rfl)
    | (go_at_call 39; exact qa (r_pow _ _ h_x0b.nn h_x0b.lt _) rfl)
    | (go_at_call 25; exact qa (f_valid _ _) rfl)
    | (go_at_call 26; exact qa (r_valid _ _) rfl)
    | (go_at_call 27; exact qa (f_reduce _ h_x0a.nn h_x0a.lt _) rfl)
    | (go_at_call 20; exact qa (r_reduce _ _) rfl)
    | (go_at_call 28; exact qa (f_fromInt _ l_x1 u_x1 _) rfl)
    | (go_at_call 29; exact qa (r_fromInt _ l_x1 u_x1 _) rfl))))
  refine wpQuiet_nil ?_
  intro _ hw'
  obtain ⟨g, hw''⟩ := hw'
  subst hw''
  go_wp2_with fail
  go_ret
  exact ⟨rfl, (by repeat (first | exact Below.refl _ _ | apply Below.drew | apply below_drewN | (refine below_gr ?_ (by first | (simp; done) | (simp; omega)) _) | (refine Below.alloc ?_ (by first | (simp; done) | (simp; omega)) _) | (refine Below.setCell ?_ (by first | (simp; done) | (simp; omega)) _)))⟩
set_option linter.unusedVariables false in
set_option maxRecDepth 100000 in
set_option maxHeartbeats 4000000 in
theorem w4 (x0a x0b x1 x2 : Int) (h_x0a : In64 x0a) (h_x0b : In64 x0b) (l_x1 : -9223372036854775808 ≤ x1) (u_x1 : x1 ≤ 9223372036854775807) (l_x2 : -9223372036854775808 ≤ x2) (u_x2 : x2 ≤ 9223372036854775807) (k0 : 0 ≤ x2) (k1 : x2 ≤ 32) (pa : 0 < (int x0a : F).i) (w : World) :
    Calls Try.prog 3 #[.agg #[.int .u64 x0a, .int .u64 x0b], .int .i64 x1, .int .i64 x2] w fun e w' => e = .returned (.bool true) ∧ Below w.heap.size w w' := by
  go_enter Try.func3, Try.ntmps3
  go_wp2_with fail
  refine (f_sanity _).mono ?_
  rintro e w' ⟨rfl, n0, rfl⟩
  go_wp2_with fail
  go_quiet ((go_at_call 20; first | exact qs (r_reduce _ _) rfl | exact qs2 (r_reduce _ _) rfl))
  have e0 : (0 : F).i = 0 := rfl
  go_wp2_with (first
    | (go_at_call 23; refine (f_root _ k0 k1 _).mono ?_; rintro e w' ⟨rfl, rfl⟩)
    | (go_at_call 24; refine (r_root _ k0 k1 _).mono ?_; rintro e w' ⟨rfl, rfl⟩)
    | (go_at_call 21; refine (f_inv _ pa _).mono ?_; rintro e w' ⟨rfl, _, rfl⟩)
    | (go_at_call 22; refine (r_inv _ pa _).mono ?_; rintro e w' ⟨rfl, rfl⟩))
  try simp only [List.append_eq, List.cons_append, List.nil_append]
  refine wp_region_gr (by kernel_rfl) (lex_of_chk (by kernel_rfl) (by kernel_rfl)) ?_
  repeat (go_big_quiet_step ((first
    | (go_at_call 30; exact qa (f_add _ _ _) rfl)
    | (go_at_call 31; exact qa (r_add _ _ _) rfl)
    | (go_at_call 32; exact qa (f_sub _ _ _) rfl)
    | (go_at_call 33; exact qa (r_sub _ _ _) rfl)
    | (go_at_call 34; exact qa (f_neg _ _) rfl)
    | (go_at_call 35; exact qa (r_neg _ _) rfl)
    | (go_at_call 36; exact qa (f_mul _ _ _) rfl)
    | (go_at_call 37; exact qa (r_mul _ _ _) rfl)
    | (go_at_call 38; exact qa (f_pow _ _ h_x0b.nn h_x0b.lt _) rfl)
    | (go_at_call 39; exact qa (r_pow _ _ h_x0b.nn h_x0b.lt _) rfl)
    | (go_at_call 25; exact qa (f_valid _ _) rfl)
    | (go_at_call 26; exact qa (r_valid _ _) rfl)
    | (go_at_call 27; exact qa (f_reduce _ h_x0a.nn h_x0a.lt _) rfl)
    | (go_at_call 20; exact qa (r_reduce _ _) rfl)
    | (go_at_call 28; exact qa (f_fromInt _ l_x1 u_x1 _) rfl)
    | (go_at_call 29; exact qa (r_fromInt _ l_x1 u_x1 _) rfl))))
  refine wpQuiet_nil ?_
  intro _ hw'
  obtain ⟨g, hw''⟩ := hw'
  subst hw''
  go_wp2_with fail
  go_ret
  exact ⟨rfl, (by repeat (first | exact Below.refl _ _ | apply Below.drew | apply below_drewN | (refine below_gr ?_ (by first | (simp; done) | (simp; omega)) _) | (refine Below.alloc ?_ (by first | (simp; done) | (simp; omega)) _) | (refine Below.setCell ?_ (by first | (simp; done) | (simp; omega)) _)))⟩

set_option maxRecDepth 100000 in
set_option maxHeartbeats 4000000 in
theorem walk (x0a : Int) (x0b : Int) (x1 : Int) (x2 : Int) (h_x0a : In64 x0a) (h_x0b : In64 x0b) (l_x1 : -9223372036854775808 ≤ x1) (u_x1 : x1 ≤ 9223372036854775807) (l_x2 : -9223372036854775808 ≤ x2) (u_x2 : x2 ≤ 9223372036854775807) (w : World) :
    Calls Try.prog 3 #[.agg #[.int .u64 x0a, .int .u64 x0b], .int .i64 x1, .int .i64 x2] w fun e w' => e = .returned (.bool true) ∧ Below w.heap.size w w' := by
  by_cases hk : x2 < 0 ∨ 32 < x2
  · by_cases ha : (int x0a : F) = 0
    · exact w1 x0a x0b x1 x2 h_x0a h_x0b l_x1 u_x1 l_x2 u_x2 hk ha w
    · exact w2 x0a x0b x1 x2 h_x0a h_x0b l_x1 u_x1 l_x2 u_x2 hk (i_pos ha) w
  · by_cases ha : (int x0a : F) = 0
    · exact w3 x0a x0b x1 x2 h_x0a h_x0b l_x1 u_x1 l_x2 u_x2 (by omega) (by omega) ha w
    · exact w4 x0a x0b x1 x2 h_x0a h_x0b l_x1 u_x1 l_x2 u_x2 (by omega) (by omega) (i_pos ha) w

set_option linter.unusedVariables false in
set_option maxRecDepth 100000 in
set_option maxHeartbeats 1000000 in
theorem lifted (os : Os) (started : os.Started) (H : Type) (enc : TypeId × Value → H) :
    ReturnsInHanded {} Try.checked os 3 .any (Rows.fieldMatchesReferenceSpec.pre6 enc Try.prog Try.f3 Rows.fieldMatchesReferenceRow.domain false) (Rows.fieldMatchesReferenceSpec.post enc Try.prog Try.f3 false true false false) := by
  refine returnsInHanded_of_change (C := Try.checked) own started (by kernel_rfl) Try.func3
    (ChangeSpec.witness6 (enc := enc) (C := Try.checked) false ⟨#[], #[.agg #[.int .u64 0, .int .u64 0], .int .i64 0, .int .i64 0], []⟩ 8 (by kernel_rfl) (by kernel_rfl) (by kernel_rfl) (by kernel_rfl)) ?_
  intro W base args ds gs before hval0 hW _ _
  have hval : ∀ (j : Nat) t v, Try.f3.params[j]? = some t → args[j]? = some v → Value.okWide Try.prog W .any base t v := hval0
  have hW' : DataW.Whole enc Try.prog Try.f3.params.toList Rows.fieldMatchesReferenceSpec.vars false W args.toList ds gs before := hW
  obtain ⟨p, q, hA0, hV, rfl, hfz, hnd⟩ := hW
  have hA : DataW.TrodAll enc Try.prog W 0 (fun _ => true) true Try.f3.params.toList args.toList ds p := hA0
  rw [Try.params3] at hA hval
  obtain ⟨v0, vs0, d0, ds0, p0, q0, hargs, rfl, rfl, h0, r0⟩ := trodAll_cons hA
  obtain ⟨v1, vs1, d1, ds1, p1, q1, rfl, rfl, rfl, h1, r1⟩ := trodAll_cons r0
  obtain ⟨v2, vs2, d2, ds2, p2, q2, rfl, rfl, rfl, h2, r2⟩ := trodAll_cons r1
  obtain ⟨rfl, rfl, rfl⟩ := trodAll_nil r2
  obtain rfl : args = #[v0, v1, v2] := by cases args; simp_all
  obtain ⟨rfl, rfl⟩ := trodVars_none hV
  obtain ⟨zs0, hlen0, rfl, hz0⟩ := aggs_open (k := .u64) (ts := [22, 22]) (n := 2) (by kernel_rfl) (by kernel_rfl) (by kernel_rfl) (by kernel_rfl) (hval 0 23 v0 rfl rfl)
  obtain ⟨x0a, x0b, rfl⟩ := list2 zs0 hlen0
  obtain ⟨x1, rfl, hz1⟩ := int_open Try.underlying2 (hval 1 2 v1 rfl rfl)
  obtain ⟨x2, rfl, hz2⟩ := int_open Try.underlying3 (hval 2 3 v2 rfl rfl)
  refine (walk x0a x0b x1 x2 ⟨(has_u64 (hz0 x0a (by simp))).1, (has_u64 (hz0 x0a (by simp))).2⟩ ⟨(has_u64 (hz0 x0b (by simp))).1, (has_u64 (hz0 x0b (by simp))).2⟩ (has_i64 hz1).1 (has_i64 hz1).2 (has_i64 hz2).1 (has_i64 hz2).2 W).mono fun e W' ⟨he, bel⟩ => ?_
  subst he
  exact ⟨_, rfl, law_post laidOut hW' rfl (by kernel_rfl) rfl Try.underlying4 rfl bel⟩

theorem proved : Rows.FieldMatchesReferenceSaid :=
  OpenClaim.holds_of_wide 3 Try.f3 rfl rfl rfl rfl rfl rfl rfl ⟨rfl, rfl, rfl, rfl, rfl⟩ rfl rfl rfl rfl rfl (by kernel_rfl) Try.func3 (by kernel_rfl)
    (of_decide_eq_true (by kernel_rfl)) (by unfold Func.isWrapper; first | (rw [if_pos (by decide +kernel)]; kernel_rfl) | (rw [if_neg (by decide +kernel)]; exact ⟨rfl, rfl⟩))
    (fun os started H enc _ => lifted os started H enc)
end Go.Proofs.Ytfebohbhahaopaa.lawFieldMatchesReference
