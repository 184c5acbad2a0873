/- FieldRoots: for every two bytes the law on roots of unity returns true; no conditions. -/
import Derived.Test.YtfebohbhahaopaaFrm
import Derived.Test.YtfebohbhahaopaaFs
namespace Go.Proofs.Ytfebohbhahaopaa.lawFieldRoots
open Go.ChangeShapes Go.WideShapes Go.ChangeAt Go.RowKit Att Att.CRing
theorem root_ne (j : Nat) (h : 1 ≤ j) (h2 : j ≤ 32) : root j ≠ 1 := by
  intro e
  obtain ⟨k, rfl⟩ : ∃ k, j = k + 1 := ⟨j - 1, by omega⟩
  have := root_half k (by omega)
  rw [e, one_pw] at this
  exact one_ne_neg this
theorem geom {K : Type} [CRing K] (u : K) (n : Nat) : (u - 1) * sm n (fun i => pw u i) = pw u n - 1 := by
  induction n with
  | zero => rw [sm_zero, mul_zero, pw_zero, sub_self]
  | succ n ih =>
    rw [sm_succ, mul_add, ih, pw_succ]
    exact ring_of [u, pw u n] (v1 - 1 + (v0 - 1) * v1) (v1 * v0 - 1) rfl
theorem root_sum (j : Nat) (h : 1 ≤ j) (h2 : j ≤ 32) : sm (2 ^ j) (fun i => pw (root j) i) = 0 := by
  have e := geom (root j) (2 ^ j)
  rw [root_full j h2, sub_self] at e
  rcases mul_eq_zero.1 e with e | e
  · exact absurd (eq_of_sub e) (root_ne j h h2)
  · exact e
theorem sqr (k : Int) (h : 1 ≤ k) (h2 : k ≤ 32) : root k.toNat * root k.toNat = root (k - 1).toNat := by
  obtain ⟨n, rfl⟩ := Int.eq_ofNat_of_zero_le (show 0 ≤ k by omega)
  have e := root_sq (n - 1) (by omega)
  rw [show n - 1 + 1 = n from by omega] at e
  rw [show ((n : Int) - 1).toNat = n - 1 from by omega, Int.toNat_natCast]; exact e
theorem hlf (k : Int) (h : 1 ≤ k) (h2 : k ≤ 32) (m : Int) (hm : m = ((2 ^ (k.toNat - 1) : Nat) : Int)) : (pw (root k.toNat) m.toNat).i = 18446744069414584320 := by
  have e := root_half (k.toNat - 1) (by omega)
  rw [show k.toNat - 1 + 1 = k.toNat from by omega] at e
  rw [hm, Int.toNat_natCast, e]; rfl
theorem full (k : Int) (h : 1 ≤ k) (h2 : k ≤ 32) (m : Int) (hm : m = ((2 ^ (k.toNat - 1) : Nat) : Int)) : (pw (root k.toNat) (2 * m).toNat).i = 1 := by
  have e := root_full k.toNat (by omega)
  have e2 : (2 * m).toNat = 2 ^ k.toNat := by
    have : 2 ^ k.toNat = 2 ^ (k.toNat - 1) * 2 := by rw [← Nat.pow_succ]; congr 1; omega
    omega
  rw [e2, e]; rfl
theorem pow_le31 (k : Nat) (h : k ≤ 31) : (2 : Nat) ^ k ≤ 2147483648 := Nat.pow_le_pow_right (by omega) h

set_option maxRecDepth 100000 in
set_option maxHeartbeats 4000000 in
theorem walk (x0 : Int) (x1 : Int) (l_x0 : 0 ≤ x0) (u_x0 : x0 ≤ 255) (l_x1 : 0 ≤ x1) (u_x1 : x1 ≤ 255) (w : World) :
    Calls Try.prog 9 #[.int .u8 x0, .int .u8 x1] w fun e w' => e = .returned (.bool true) ∧ Below w.heap.size w w' := by
  have k0 : 1 ≤ 1 + x0 % 32 := by omega
  have k1 : 1 + x0 % 32 ≤ 32 := by omega
  have j0 : 1 ≤ 1 + x1 % 6 := by omega
  have j1 : 1 + x1 % 6 ≤ 6 := by omega
  go_enter Try.func9, Try.ntmps9
  go_wp2_with fail
  refine (f_sanity _).mono ?_
  rintro e w' ⟨rfl, n0, rfl⟩
  go_wp2_with fail
  generalize 1 + x0 % 32 = k at *
  generalize 1 + x1 % 6 = j at *
  refine (f_root _ (by omega) (by omega) _).mono ?_
  rintro e w' ⟨rfl, rfl⟩
  go_wp2_with fail
  refine (f_root _ (by omega) (by omega) _).mono ?_
  rintro e w' ⟨rfl, rfl⟩
  go_wp2_with fail
  refine (f_root _ (by omega) (by omega) _).mono ?_
  rintro e w' ⟨rfl, rfl⟩
  go_wp2_with (go_at_call 26; refine (r_validF _ _).mono ?_; rintro e w' ⟨rfl, rfl⟩)
  go_loop [14, 15] (fun h i => ∃ m : Nat, 1 ≤ m ∧ (m : Int) ≤ k ∧ i = .int .i64 m ∧ h = .int .u64 ((2 ^ (m - 1) : Nat) : Int)) (fun _ i => (k - intOf i).toNat)
  case atStart => exact ⟨1, by omega, k0, rfl, rfl⟩
  case round =>
    obtain ⟨m, m1, m2, rfl, rfl⟩ := hrel
    have hb := pow_le31 (m - 1) (by omega)
    have hp : (2 ^ (m + 1 - 1) : Nat) = 2 ^ (m - 1) * 2 := by rw [← Nat.pow_succ]; congr 1; omega
    have HP := Lib.hid hp; clear hp
    generalize hq : (2 ^ (m - 1) : Nat) = q at *
    have HQ := Lib.hid hq; clear hq
    by_cases hlt : (m : Int) < k
    · go_wp2_with fail
      exact ⟨⟨m + 1, by omega, by omega, by go_num, by rw [HP.out]; go_num⟩, by simp [intOf]; omega⟩
    · obtain rfl : k = (m : Int) := by omega
      go_wp2_with fail
      go_loop [16, 17, 18] (fun s p i => ∃ t : Nat, (t : Int) ≤ 2 ^ j.toNat ∧ i = .int .i64 t ∧ s = .int .u64 (Zm.i (sm t (fun i => pw (root j.toNat) i))) ∧ p = .int .u64 (Zm.i (pw (root j.toNat) t))) (fun _ _ i => (2 ^ j.toNat - intOf i).toNat)
      case atStart => exact ⟨0, Int.le_of_lt (Int.pow_pos (by omega)), rfl, rfl, rfl⟩
      case round =>
        obtain ⟨t, t1, rfl, rfl, rfl⟩ := hrel
        have hJ : (2 : Int) ^ j.toNat ≤ 64 := by
          have := Nat.pow_le_pow_right (n := 2) (by omega) (show j.toNat ≤ 6 by omega)
          have h2 : ((2 ^ j.toNat : Nat) : Int) = 2 ^ j.toNat := by simp
          omega
        have hJ2 : (2 : Int) ^ j.toNat = ((2 ^ j.toNat : Nat) : Int) := by simp
        generalize hN : (2 ^ j.toNat : Nat) = N at *
        have HN := Lib.hid hN; clear hN
        by_cases hlt : (t : Int) < (N : Int)
        · go_wp2_with fail
          refine (f_add _ _ _).mono ?_
          rintro e w' ⟨rfl, rfl⟩
          go_wp2_with fail
          refine (f_mul _ _ _).mono ?_
          rintro e w' ⟨rfl, rfl⟩
          go_wp2_with fail
          exact ⟨⟨t + 1, by omega, by go_num, rfl, rfl⟩, by simp [intOf]; omega⟩
        · obtain rfl : t = N := by omega
          have q1 := Lib.hid (root_sum j.toNat (by omega) (by omega))
          have q2 := Lib.hid (root_full j.toNat (by omega))
          have hs : sm t (fun i => pw (root j.toNat) i) = 0 := by rw [← HN.out]; exact q1.out
          have hp : pw (root j.toNat) t = 1 := by rw [← HN.out]; exact q2.out
          have e0 : (0 : F).i = 0 := rfl
          have e1 : (1 : F).i = 1 := rfl
          have hh1 : (q : Int) = ((2 ^ ((m : Int).toNat - 1) : Nat) : Int) := by rw [Int.toNat_natCast, HQ.out]
          have q3 := hlf m k0 k1 q hh1
          have q4 := full m k0 k1 q hh1
          have q5 := sqr m k0 k1
          simp only [Int.toNat_natCast] at q3 q4
          rw [Int.toNat_natCast, show ((m : Int) - 1).toNat = m - 1 from by omega] at q5
          rw [show (2 * (q : Int)).toNat = 2 * q from by omega] at q4
          have Q3 := Lib.hid q3; clear q3
          have Q4 := Lib.hid q4; clear q4
          clear hh1
          go_wp2_with fail
          refine (f_mul _ _ _).mono ?_
          rintro e w' ⟨rfl, rfl⟩
          go_wp2_with fail
          refine (f_pow _ _ (by omega) (by omega) _).mono ?_
          rintro e w' ⟨rfl, rfl⟩
          rw [int_i, Int.toNat_natCast, Q3.out]
          go_wp2_with fail
          refine (f_pow _ _ (by omega) (by omega) _).mono ?_
          rintro e w' ⟨rfl, rfl⟩
          rw [int_i, show (2 * (q : Int)).toNat = 2 * q from by omega, Q4.out]
          go_wp2_with fail
          go_ret
          exact ⟨rfl, below_drewN (Below.refl _ _) _⟩

set_option linter.unusedVariables false in
set_option maxRecDepth 100000 in
set_option maxHeartbeats 1000000 in
theorem lifted (os : Os) (started : os.Started) (H : Type) (enc : TypeId × Value → H) :
    ReturnsInHanded {} Try.checked os 9 .any (Rows.fieldRootsSpec.pre6 enc Try.prog Try.f9 Rows.fieldRootsRow.domain false) (Rows.fieldRootsSpec.post enc Try.prog Try.f9 false true false false) := by
  refine returnsInHanded_of_change (C := Try.checked) own started (by kernel_rfl) Try.func9
    (ChangeSpec.witness6 (enc := enc) (C := Try.checked) false ⟨#[], #[.int .u8 0, .int .u8 0], []⟩ 8 (by kernel_rfl) (by kernel_rfl) (by kernel_rfl) (by kernel_rfl)) ?_
  intro W base args ds gs before hval0 hW _ _
  have hval : ∀ (j : Nat) t v, Try.f9.params[j]? = some t → args[j]? = some v → Value.okWide Try.prog W .any base t v := hval0
  have hW' : DataW.Whole enc Try.prog Try.f9.params.toList Rows.fieldRootsSpec.vars false W args.toList ds gs before := hW
  obtain ⟨p, q, hA0, hV, rfl, hfz, hnd⟩ := hW
  have hA : DataW.TrodAll enc Try.prog W 0 (fun _ => true) true Try.f9.params.toList args.toList ds p := hA0
  rw [Try.params9] at hA hval
  obtain ⟨v0, vs0, d0, ds0, p0, q0, hargs, rfl, rfl, h0, r0⟩ := trodAll_cons hA
  obtain ⟨v1, vs1, d1, ds1, p1, q1, rfl, rfl, rfl, h1, r1⟩ := trodAll_cons r0
  obtain ⟨rfl, rfl, rfl⟩ := trodAll_nil r1
  obtain rfl : args = #[v0, v1] := by cases args; simp_all
  obtain ⟨rfl, rfl⟩ := trodVars_none hV
  obtain ⟨x0, rfl, hz0⟩ := int_open Try.underlying5 (hval 0 5 v0 rfl rfl)
  obtain ⟨x1, rfl, hz1⟩ := int_open Try.underlying5 (hval 1 5 v1 rfl rfl)
  refine (walk x0 x1 (by have := has_u8 hz0; omega) (by have := has_u8 hz0; omega) (by have := has_u8 hz1; omega) (by have := has_u8 hz1; omega) W).mono fun e W' ⟨he, bel⟩ => ?_
  subst he
  exact ⟨_, rfl, law_post laidOut hW' rfl (by kernel_rfl) rfl Try.underlying4 rfl bel⟩

theorem proved : Rows.FieldRootsSaid :=
  OpenClaim.holds_of_wide 9 Try.f9 rfl rfl rfl rfl rfl rfl rfl ⟨rfl, rfl, rfl, rfl, rfl⟩ rfl rfl rfl rfl rfl (by kernel_rfl) Try.func9 (by kernel_rfl)
    (of_decide_eq_true (by kernel_rfl)) (by unfold Func.isWrapper; first | (rw [if_pos (by decide +kernel)]; kernel_rfl) | (rw [if_neg (by decide +kernel)]; exact ⟨rfl, rfl⟩))
    (fun os started H enc _ => lifted os started H enc)
end Go.Proofs.Ytfebohbhahaopaa.lawFieldRoots
