/- The walks of package field: Mul, Pow, FromInt, Root, Inv. -/
import Derived.Test.YtjgdbfhpjjmjkaaDoorFw1
import Derived.Lib.Hide
import Derived.BigQuiet
import Derived.Deep.QuietTactic
namespace Go.Proofs.YtjgdbfhpjjmjkaaDoor
open Go.RowKit Att Att.CRing

theorem f_mul64 (x y : Int) [hx : In64 x] [hy : In64 y] (w : World) :
    Calls Tryd.prog 47 #[.int .u64 x, .int .u64 y] w fun e w' => ∃ hi lo : Int, (e = .returned (.tuple #[.int .u64 hi, .int .u64 lo]) ∧ w = w') ∧
      0 ≤ hi ∧ hi < 18446744073709551616 ∧ 0 ≤ lo ∧ lo < 18446744073709551616 ∧ Hid (x * y = hi * 18446744073709551616 + lo) := by
  obtain ⟨x0, x1⟩ := hx
  obtain ⟨y0, y1⟩ := hy
  obtain ⟨m, rfl⟩ := Int.eq_ofNat_of_zero_le x0
  obtain ⟨n, rfl⟩ := Int.eq_ofNat_of_zero_le y0
  refine (f_mul64N m n (by omega) (by omega) w).mono ?_
  rintro e w' ⟨he, hw⟩
  have hb : m * n < 18446744073709551616 * 18446744073709551616 := Nat.mul_lt_mul'' (by omega) (by omega)
  refine ⟨_, _, ⟨he, hw.symm⟩, by omega, by omega, by omega, by omega, Lib.hid ?_⟩
  rw [← Int.natCast_mul]
  generalize m * n = k
  omega

theorem maskI (x : Int) (h0 : 0 ≤ x) (h : x < 18446744073709551616) : bits .and .u64 x 4294967295 = x % 4294967296 := by
  obtain ⟨m, rfl⟩ := Int.eq_ofNat_of_zero_le h0
  rw [maskN m (by omega)]; omega
theorem mul_red (x y hi lo : Int) (h : x * y = hi * 18446744073709551616 + lo) :
    (int lo - int (hi / 4294967296) + int (hi % 4294967296 * 4294967295) : F) = int x * int y := by
  rw [← int_sub, ← int_add, ← int_mul, h]
  apply i_inj; rw [i_int, i_int]; omega

set_option maxHeartbeats 400000 in
theorem f_mul (x y : Int) [hx : In64 x] [hy : In64 y] (w : World) :
    Calls Tryd.prog 37 #[.int .u64 x, .int .u64 y] w fun e w' => e = .returned (.int .u64 (Zm.i ((int x * int y : F)))) ∧ w = w' := by
  go_enter Tryd.func37, Tryd.ntmps37
  go_wp2_with fail
  refine (f_mul64 _ _ _).mono ?_
  rintro e w' ⟨hi, lo, ⟨rfl, rfl⟩, h0, h1, h2, h3, he⟩
  have hm := maskI hi h0 h1
  have h4 : 0 ≤ hi % 4294967296 := by omega
  have h5 : hi % 4294967296 < 4294967296 := by omega
  have h6 : In (hi / 4294967296) := ⟨by omega, by omega⟩
  go_wp2_with fail
  refine (f_reduce _ h2 h3 _).mono ?_
  rintro e w' ⟨rfl, rfl⟩
  go_wp2_with fail
  refine (f_sub _ _ _).mono ?_
  rintro e w' ⟨rfl, rfl⟩
  go_wp2_with fail
  refine (f_reduce _ (by omega) (by omega) _).mono ?_
  rintro e w' ⟨rfl, rfl⟩
  go_wp2_with fail
  refine (f_add _ _ _).mono ?_
  rintro e w' ⟨rfl, rfl⟩
  go_wp2_with fail
  go_ret
  refine ⟨ret_int ?_, rfl⟩
  rw [mul_red x y hi lo he.out]

/- FromInt -/
theorem conv_neg (n : Int) (h0 : -9223372036854775808 ≤ n) (h : n < 0) : IntKind.u64.wrap (-(IntKind.u64.wrap n)) = -n := by
  rw [IntKind.wrap_u64, IntKind.wrap_u64]; omega
/- Pow -/
theorem f_pow1 (x y : Int) [hx : In x] [hy : In y] (w : World) :
    Calls Tryd.prog 63 #[.int .u64 x, .int .u64 y] w fun e w' => e = .returned (.int .u64 (Zm.i ((int x * int y : F)))) ∧ w = w' := by
  go_enter Tryd.func63, Tryd.ntmps63
  go_wp2_with fail
  refine (f_mul _ _ _).mono ?_
  rintro e w' ⟨rfl, rfl⟩
  go_wp2_with fail
  go_ret
  exact ⟨rfl, rfl⟩

theorem andOne (k : Int) (h0 : 0 ≤ k) (h : k < 18446744073709551616) : bits .and .u64 k 1 = k % 2 := by
  obtain ⟨m, rfl⟩ := Int.eq_ofNat_of_zero_le h0
  have e := bits_and_u64_nat m 1 (by omega) (by omega)
  rw [Nat.and_one_is_mod] at e
  exact e.trans (by omega)
theorem pw_even {K : Type} [CRing K] (a : K) (k : Int) (h : k % 2 = 0) (h0 : 0 ≤ k) : pw (a * a) (k / 2).toNat = pw a k.toNat := by
  rw [← pw_two, ← pw_mul]; congr 1; omega
theorem pw_odd {K : Type} [CRing K] (a : K) (k : Int) (h : k % 2 = 1) (h0 : 0 ≤ k) : a * pw (a * a) (k / 2).toNat = pw a k.toNat := by
  rw [← pw_two, ← pw_mul, mul_comm, ← pw_succ]; congr 1; omega
theorem val_int {k : IntKind} {a b : Int} (h : a = b) : Value.int k a = Value.int k b := by rw [h]

set_option maxHeartbeats 400000 in
theorem f_power (x n : Int) [hx : In x] (h0 : 0 ≤ n) (h1 : n < 18446744073709551616) (w : World) :
    Calls Tryd.prog 62 #[.int .u64 x, .int .u64 1, .int .u64 n, Value.func (Fn.func 63) #[] #[]] w
      fun e w' => e = .returned (.int .u64 (Zm.i ((pw (int x) n.toNat : F)))) ∧ w = w' := by
  go_enter Tryd.func62, Tryd.ntmps62
  go_wp2_with fail
  go_loop [0, 2, 9] (fun a m o => ∃ (a' o' : F) (k : Int), a = .int .u64 (Zm.i (a')) ∧ m = .int .u64 k ∧ o = .int .u64 (Zm.i (o')) ∧ 0 ≤ k ∧ k < 18446744073709551616 ∧ o' * pw a' k.toNat = pw (int x) n.toNat) (fun _ m _ => (intOf m).toNat)
  case atStart => exact ⟨int x, 1, n, val_int (i_in x).symm, rfl, rfl, h0, h1, one_mul _⟩
  case round =>
    obtain ⟨a', o', k, rfl, rfl, rfl, k0, k1, he⟩ := hrel
    have H := Lib.hid he; clear he
    have hb := andOne k k0 k1
    by_cases hk : 0 < k
    · by_cases hodd : k % 2 = 1
      · have ht : (bits .and .u64 k 1 == 1) = true := by rw [hb, hodd]; rfl
        clear hb
        have H2 := Lib.hid hodd; clear hodd
        go_wp2_with fail
        refine (f_pow1 _ _ _).mono ?_
        rintro e w' ⟨rfl, rfl⟩
        go_wp2_with fail
        refine (f_pow1 _ _ _).mono ?_
        rintro e w' ⟨rfl, rfl⟩
        go_wp2_with fail
        go_round
        case rel => exact ⟨_, _, _, rfl, rfl, rfl, by omega, by omega, by rw [mul_assoc, pw_odd a' k H2.out k0]; exact H.out⟩
        case measure => simp [intOf]; omega
      · have ht : (bits .and .u64 k 1 == 1) = false := by rw [hb]; simp; omega
        clear hb
        have H2 := Lib.hid hodd; clear hodd
        go_wp2_with fail
        refine (f_pow1 _ _ _).mono ?_
        rintro e w' ⟨rfl, rfl⟩
        go_wp2_with fail
        go_round
        case rel => exact ⟨_, _, _, rfl, rfl, rfl, by omega, by omega, by rw [pw_even a' k (by have := H2.out; omega) k0]; exact H.out⟩
        case measure => simp [intOf]; omega
    · have hk' : k = 0 := by omega
      subst hk'
      clear hb
      go_wp2_with fail
      go_ret
      refine ⟨ret_int ?_, rfl⟩
      rw [← H.out, Int.toNat_zero, pw_zero, mul_one]

theorem f_pow (x n : Int) [hx : In x] (h0 : 0 ≤ n) (h1 : n < 18446744073709551616) (w : World) :
    Calls Tryd.prog 59 #[.int .u64 x, .int .u64 n] w fun e w' => e = .returned (.int .u64 (Zm.i ((pw (int x) n.toNat : F)))) ∧ w = w' := by
  go_enter Tryd.func59, Tryd.ntmps59
  go_wp2_with fail
  refine (f_power _ _ h0 h1 _).mono ?_
  rintro e w' ⟨rfl, rfl⟩
  go_wp2_with fail
  go_ret
  exact ⟨rfl, rfl⟩

/- Root -/
theorem root_int (k : Int) : (pw (int 7) (18446744069414584320 / 2 ^ k.toNat : Int).toNat : F) = root k.toNat := by
  unfold root P
  congr 1
set_option maxHeartbeats 400000 in
theorem f_root (k : Int) (h0 : 0 ≤ k) (h1 : k ≤ 32) (w : World) :
    Calls Tryd.prog 54 #[.int .i64 k] w fun e w' => e = .returned (.tuple #[.int .u64 (Zm.i (root k.toNat)), .int .i64 0]) ∧ w = w' := by
  have g1 : ¬ k < 0 := by omega
  have g2 : ¬ 32 < k := by omega
  go_enter Tryd.func54, Tryd.ntmps54
  go_wp2_with fail
  have hp : (0 : Int) < 2 ^ k.toNat := Int.pow_pos (by omega)
  refine (f_pow 7 _ (Int.ediv_nonneg (by omega) (by omega)) (Int.lt_of_le_of_lt (Int.ediv_le_self _ (by omega)) (by omega)) _).mono ?_
  rintro e w' ⟨rfl, rfl⟩
  rw [root_int]
  clear hp
  go_wp2_with fail
  go_ret2
  exact ⟨rfl, rfl⟩
theorem f_root_bad (k : Int) (h : k < 0 ∨ 32 < k) (w : World) :
    Calls Tryd.prog 54 #[.int .i64 k] w fun e w' => e = .returned (.tuple #[.int .u64 0, .int .i64 1]) ∧ w = w' := by
  rcases h with h | h
  · go_enter Tryd.func54, Tryd.ntmps54
    go_wp2_with fail
    go_ret2
    exact ⟨rfl, rfl⟩
  · have g1 : ¬ k < 0 := by omega
    go_enter Tryd.func54, Tryd.ntmps54
    go_wp2_with fail
    go_ret2
    exact ⟨rfl, rfl⟩

/- Inv -/
theorem gcd_step (r m : Int) (h0 : 0 ≤ r) (h1 : 0 ≤ m) (h : Nat.gcd r.toNat m.toNat = 1) : Nat.gcd m.toNat (r % m).toNat = 1 := by
  rw [Int.toNat_emod h0 h1, Nat.gcd_comm, ← Nat.gcd_rec, Nat.gcd_comm]; exact h
theorem inv_step (r m : Int) (s t A : F) (hs : s * A = int r) (ht : t * A = int m) : (s - int (r / m) * t) * A = int (r % m) := by
  have e : (s - int (r / m) * t) * A = s * A - int (r / m) * (t * A) := ring_of [s, int (r / m), t, A] ((v0 - v1 * v2) * v3) (v0 * v3 - v1 * (v2 * v3)) rfl
  rw [e, hs, ht, ← int_mul, ← int_sub]
  congr 1
  have := Int.mul_ediv_add_emod r m
  rw [Int.mul_comm]; omega
theorem gcd_start (x : Int) [h : In x] (hx : 0 < x) : Nat.gcd (18446744069414584321 : Int).toNat x.toNat = 1 := by
  apply P_coprime
  intro hd
  have := Nat.le_of_dvd (by omega) hd
  have := h.lt
  unfold P at *
  omega
theorem gcd_end (m : Int) (h0 : 0 ≤ m) (h : Nat.gcd m.toNat (0 : Int).toNat = 1) : m = 1 := by
  simp at h; omega

set_option maxHeartbeats 400000 in
theorem f_inv0 (w : World) :
    Calls Tryd.prog 36 #[.int .u64 0] w fun e w' => e = .returned (.tuple #[.int .u64 0, .int .i64 3]) ∧ w = w' := by
  go_enter Tryd.func36, Tryd.ntmps36
  go_wp2_with fail
  go_step3
  go_wp2_with fail
  try rw [Exit.noGoto_ret]
  go_ret2
  exact ⟨rfl, rfl⟩

set_option maxHeartbeats 1000000 in
theorem f_inv (x : Int) [hx : In x] (h0 : 0 < x) (w : World) :
    Calls Tryd.prog 36 #[.int .u64 x] w fun e w' => e = .returned (.tuple #[.int .u64 (Zm.i ((Fld.inv (int x) : F))), .int .i64 0]) ∧ ∃ n, w' = w.drewN n := by
  have hz : (x == 0) = false := by simp; omega
  have hst := Lib.hid (gcd_start x h0)
  have hP := Lib.hid int_P
  have hxl := hx.lt
  go_enter Tryd.func36, Tryd.ntmps36
  go_wp2_with fail
  go_step3
  go_wp2_with fail
  go_step3
  go_wp2_with fail
  go_loopw [4, 5, 6, 7] (fun r m s t wr => ∃ (r' m' : Int) (s' t' : F), r = .int .u64 r' ∧ m = .int .u64 m' ∧ s = .int .u64 (Zm.i (s')) ∧ t = .int .u64 (Zm.i (t')) ∧ 0 < r' ∧ 0 < m' ∧ r' ≤ 18446744069414584321 ∧ m' ≤ 18446744069414584321 ∧
      Nat.gcd r'.toNat m'.toNat = 1 ∧ s' * int x = int r' ∧ t' * int x = int m' ∧ ∃ n, wr = w.drewN n) (fun _ m _ _ _ => (intOf m).toNat)
  case atStart => exact ⟨_, _, 0, 1, rfl, rfl, rfl, rfl, by omega, h0, by omega, by omega, hst.out, by rw [zero_mul]; exact hP.out.symm, one_mul _, 0, rfl⟩
  case round =>
    obtain ⟨r, m, s, t, rfl, rfl, rfl, rfl, r0, m0, r1, m1, hg, hs, ht, nd, rfl⟩ := hrel
    have Hg := Lib.hid hg; clear hg
    have Hs := Lib.hid hs; clear hs
    have Ht := Lib.hid ht; clear ht
    go_wp2_with fail
    go_quiet (fail)
    go_wp2_with fail
    have hq : In64 (r / m) := ⟨Int.ediv_nonneg (by omega) (by omega), Int.lt_of_le_of_lt (Int.ediv_le_self _ (by omega)) (by omega)⟩
    refine (f_mul _ _ _).mono ?_
    rintro e w' ⟨rfl, rfl⟩
    go_wp2_with fail
    refine (f_sub _ _ _).mono ?_
    rintro e w' ⟨rfl, rfl⟩
    have hm0 := Int.emod_nonneg r (show m ≠ 0 by omega)
    have hm1 := Int.emod_lt_of_pos r m0
    have Hn := Lib.hid (inv_step r m s t _ Hs.out Ht.out)
    have Hg2 := Lib.hid (gcd_step r m (by omega) (by omega) Hg.out)
    by_cases hz : r % m = 0
    · have hzb : (r % m == 0) = true := by rw [hz]; rfl
      have Hz := Lib.hid hz; clear hz
      go_wp2_with fail
      rw [Exit.noGoto_ret]
      go_ret2
      refine ⟨?_, _, rfl⟩
      have e1 := Hg2.out
      rw [Hz.out] at e1
      have e2 := gcd_end m (by omega) e1
      have e3 := Ht.out
      rw [e2, int_one, mul_comm] at e3
      rw [← inv_unique e3]
      rfl
    · have hzb : (r % m == 0) = false := by simp; exact hz
      have Hz := Lib.hid hz; clear hz
      go_wp2_with fail
      have hz2 := Hz.out
      exact ⟨⟨_, _, _, _, rfl, rfl, rfl, rfl, m0, by omega, m1, by omega, Hg2.out, Ht.out, Hn.out, _, rfl⟩, by simp [intOf]; omega⟩
end Go.Proofs.YtjgdbfhpjjmjkaaDoor
