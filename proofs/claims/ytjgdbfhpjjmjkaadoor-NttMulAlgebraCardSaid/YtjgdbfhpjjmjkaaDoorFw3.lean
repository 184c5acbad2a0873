/- The walks of the reference of package field. -/
import Derived.Test.YtjgdbfhpjjmjkaaDoorFw2
namespace Go.Proofs.YtjgdbfhpjjmjkaaDoor
open Go.RowKit Att Att.CRing

theorem r_valid (x : Int) (w : World) :
    Calls Tryd.prog 31 #[.int .u64 x] w fun e w' => e = .returned (.bool (decide (x < 18446744069414584321))) ∧ w = w' := by
  go_enter Tryd.func31, Tryd.ntmps31
  go_wp2
  go_ret
  exact ⟨rfl, rfl⟩

theorem r_validF (a : F) (w : World) :
    Calls Tryd.prog 31 #[.int .u64 (Zm.i (a))] w fun e w' => e = .returned (.bool true) ∧ w = w' :=
  (r_valid a.i w).mono fun e w' ⟨h1, h2⟩ => ⟨by rw [h1, decide_eq_true (i_lt a)], h2⟩

theorem r_reduce (x : Int) [hx : In64 x] (w : World) :
    Calls Tryd.prog 24 #[.int .u64 x] w fun e w' => e = .returned (.int .u64 (Zm.i ((int x : F)))) ∧ w = w' := by
  have h0 := hx.nn
  have h1 := hx.lt
  go_enter Tryd.func24, Tryd.ntmps24
  go_wp2
  go_ret
  exact ⟨ret_int (i_int x).symm, rfl⟩

set_option maxHeartbeats 400000 in
theorem r_add (x y : Int) [hx : In x] [hy : In y] (w : World) :
    Calls Tryd.prog 25 #[.int .u64 x, .int .u64 y] w fun e w' => e = .returned (.int .u64 (Zm.i ((int x + int y : F)))) ∧ w = w' := by
  obtain ⟨x0, x1⟩ := hx
  obtain ⟨y0, y1⟩ := hy
  rw [i_add_int]
  by_cases h : 18446744069414584321 - y ≤ x
  · go_enter Tryd.func25, Tryd.ntmps25
    go_wp2
    go_ret
    exact ⟨ret_int (by omega), rfl⟩
  · have h' : x < 18446744069414584321 - y := by omega
    go_enter Tryd.func25, Tryd.ntmps25
    go_wp2
    go_ret
    exact ⟨ret_int (by omega), rfl⟩

theorem shift_math (x : Int) : (int (x % 4294967296 * 4294967296) + int (x / 4294967296 * 4294967295) : F) = int x * int 4294967296 := by
  rw [← int_add, ← int_mul]
  apply i_inj; rw [i_int, i_int]; omega
set_option maxHeartbeats 400000 in
theorem r_shift (x : Int) [hx : In64 x] (w : World) :
    Calls Tryd.prog 42 #[.int .u64 x] w fun e w' => e = .returned (.int .u64 (Zm.i ((int x * int 4294967296 : F)))) ∧ w = w' := by
  obtain ⟨x0, x1⟩ := hx
  have hm := shift_math x
  go_enter Tryd.func42, Tryd.ntmps42
  go_wp2_with fail
  have i1 : In64 (x % 4294967296 * 4294967296) := ⟨by omega, by omega⟩
  have i2 : In64 (x / 4294967296 * 4294967295) := ⟨by omega, by omega⟩
  refine (r_reduce _ _).mono ?_
  rintro e w' ⟨rfl, rfl⟩
  go_wp2_with fail
  refine (r_reduce _ _).mono ?_
  rintro e w' ⟨rfl, rfl⟩
  go_wp2_with fail
  refine (r_add _ _ _).mono ?_
  rintro e w' ⟨rfl, rfl⟩
  go_wp2_with fail
  go_ret
  exact ⟨rfl, rfl⟩

theorem half_math (x y : Int) : (int (x % 4294967296 * y) + int (x / 4294967296 * y) * int 4294967296 : F) = int x * int y := by
  rw [← int_mul, ← int_add, ← int_mul]
  congr 1
  rw [Int.mul_assoc, Int.mul_comm y, ← Int.mul_assoc, ← Int.add_mul]
  congr 1; omega
theorem half_le (a b : Int) (a0 : 0 ≤ a) (a1 : a ≤ 4294967295) (b0 : 0 ≤ b) (b1 : b ≤ 4294967295) : 0 ≤ a * b ∧ a * b < 18446744073709551616 := by
  refine ⟨Int.mul_nonneg a0 b0, ?_⟩
  have := Int.mul_le_mul a1 b1 b0 (by omega)
  omega
set_option maxHeartbeats 400000 in
theorem r_half (x y : Int) [hx : In64 x] (y0 : 0 ≤ y) (y1 : y < 4294967296) (w : World) :
    Calls Tryd.prog 41 #[.int .u64 x, .int .u64 y] w fun e w' => e = .returned (.int .u64 (Zm.i ((int x * int y : F)))) ∧ w = w' := by
  obtain ⟨x0, x1⟩ := hx
  have hm := half_math x y
  obtain ⟨p0, p1⟩ := half_le (x % 4294967296) y (by omega) (by omega) y0 (by omega)
  obtain ⟨q0, q1⟩ := half_le (x / 4294967296) y (by omega) (by omega) y0 (by omega)
  go_enter Tryd.func41, Tryd.ntmps41
  go_wp2_with fail
  have i1 : In64 (x % 4294967296 * y) := ⟨by omega, by omega⟩
  have i2 : In64 (x / 4294967296 * y) := ⟨by omega, by omega⟩
  refine (r_reduce _ _).mono ?_
  rintro e w' ⟨rfl, rfl⟩
  go_wp2_with fail
  refine (r_reduce _ _).mono ?_
  rintro e w' ⟨rfl, rfl⟩
  go_wp2_with fail
  refine (r_shift _ _).mono ?_
  rintro e w' ⟨rfl, rfl⟩
  go_wp2_with fail
  refine (r_add _ _ _).mono ?_
  rintro e w' ⟨rfl, rfl⟩
  go_wp2_with fail
  go_ret
  exact ⟨rfl, rfl⟩

theorem mul_math (x y : Int) : (int x * int (y % 4294967296) + int x * int (y / 4294967296) * int 4294967296 : F) = int x * int y := by
  rw [mul_assoc, ← mul_add, ← int_mul, ← int_add]
  congr 2; omega
set_option maxHeartbeats 400000 in
theorem r_mul (x y : Int) [hx : In64 x] [hy : In64 y] (w : World) :
    Calls Tryd.prog 26 #[.int .u64 x, .int .u64 y] w fun e w' => e = .returned (.int .u64 (Zm.i ((int x * int y : F)))) ∧ w = w' := by
  have x0 := hx.nn
  have x1 := hx.lt
  obtain ⟨y0, y1⟩ := hy
  have hm := mul_math x y
  go_enter Tryd.func26, Tryd.ntmps26
  go_wp2_with fail
  refine (r_half _ _ (by omega) (by omega) _).mono ?_
  rintro e w' ⟨rfl, rfl⟩
  go_wp2_with fail
  refine (r_half _ _ (by omega) (by omega) _).mono ?_
  rintro e w' ⟨rfl, rfl⟩
  go_wp2_with fail
  refine (r_shift _ _).mono ?_
  rintro e w' ⟨rfl, rfl⟩
  go_wp2_with fail
  refine (r_add _ _ _).mono ?_
  rintro e w' ⟨rfl, rfl⟩
  go_wp2_with fail
  go_ret
  exact ⟨rfl, rfl⟩

set_option maxHeartbeats 400000 in
theorem r_pow (x n : Int) [hx : In x] (h0 : 0 ≤ n) (h1 : n < 18446744073709551616) (w : World) :
    Calls Tryd.prog 30 #[.int .u64 x, .int .u64 n] w
      fun e w' => e = .returned (.int .u64 (Zm.i ((pw (int x) n.toNat : F)))) ∧ w = w' := by
  go_enter Tryd.func30, Tryd.ntmps30
  go_wp2_with fail
  go_loop [0, 1, 5] (fun a m o => ∃ (a' o' : F) (k : Int), a = .int .u64 (Zm.i (a')) ∧ m = .int .u64 k ∧ o = .int .u64 (Zm.i (o')) ∧ 0 ≤ k ∧ k < 18446744073709551616 ∧ o' * pw a' k.toNat = pw (int x) n.toNat) (fun _ m _ => (intOf m).toNat)
  case atStart => exact ⟨int x, 1, n, val_int (i_in x).symm, rfl, rfl, h0, h1, one_mul _⟩
  case round =>
    obtain ⟨a', o', k, rfl, rfl, rfl, k0, k1, he⟩ := hrel
    have H := Lib.hid he; clear he
    by_cases hk : 0 < k
    · by_cases hodd : k % 2 = 1
      · have ht : (k % 2 == 1) = true := by rw [hodd]; rfl
        have H2 := Lib.hid hodd; clear hodd
        go_wp2_with fail
        refine (r_mul _ _ _).mono ?_
        rintro e w' ⟨rfl, rfl⟩
        go_wp2_with fail
        refine (r_mul _ _ _).mono ?_
        rintro e w' ⟨rfl, rfl⟩
        go_wp2_with fail
        go_round
        case rel => exact ⟨_, _, _, rfl, rfl, rfl, by omega, by omega, by rw [mul_assoc, pw_odd a' k H2.out k0]; exact H.out⟩
        case measure => simp [intOf]; omega
      · have ht : (k % 2 == 1) = false := by simp; omega
        have H2 := Lib.hid hodd; clear hodd
        go_wp2_with fail
        refine (r_mul _ _ _).mono ?_
        rintro e w' ⟨rfl, rfl⟩
        go_wp2_with fail
        go_round
        case rel => exact ⟨_, _, _, rfl, rfl, rfl, by omega, by omega, by rw [pw_even a' k (by have := H2.out; omega) k0]; exact H.out⟩
        case measure => simp [intOf]; omega
    · have hk' : k = 0 := by omega
      subst hk'
      go_wp2_with fail
      go_ret
      refine ⟨ret_int ?_, rfl⟩
      rw [← H.out, Int.toNat_zero, pw_zero, mul_one]

/- FromInt -/
theorem fromInt_neg (n : Int) (h : n < 0) (h0 : -9223372036854775808 ≤ n) : 18446744069414584321 - (-(n + 1) + 1) = (int n : F).i := by
  rw [i_int]; omega
theorem r_inv0 (w : World) :
    Calls Tryd.prog 38 #[.int .u64 0] w fun e w' => e = .returned (.tuple #[.int .u64 0, .int .i64 3]) ∧ w = w' := by
  go_enter Tryd.func38, Tryd.ntmps38
  go_wp2_with fail
  go_ret2
  exact ⟨rfl, rfl⟩
theorem inv_pow (a : F) : pw a (18446744069414584319 : Int).toNat = Fld.inv a := rfl
theorem r_inv (x : Int) [hx : In x] (h0 : 0 < x) (w : World) :
    Calls Tryd.prog 38 #[.int .u64 x] w fun e w' => e = .returned (.tuple #[.int .u64 (Zm.i ((Fld.inv (int x) : F))), .int .i64 0]) ∧ w = w' := by
  have hz : (x == 0) = false := by simp; omega
  go_enter Tryd.func38, Tryd.ntmps38
  go_wp2_with fail
  refine (r_pow x _ (by omega) (by omega) _).mono ?_
  rintro e w' ⟨rfl, rfl⟩
  rw [inv_pow]
  go_wp2_with fail
  go_ret2
  exact ⟨rfl, rfl⟩

/- Root -/
theorem half_pow (k : Nat) : (18446744069414584320 : Int) / 2 ^ k / 2 = 18446744069414584320 / 2 ^ (k + 1) := by
  rw [Int.ediv_ediv_of_nonneg (Int.le_of_lt (Int.pow_pos (by omega))), Int.pow_succ]
theorem half_bd (k : Nat) : 0 ≤ (18446744069414584320 : Int) / 2 ^ k ∧ (18446744069414584320 : Int) / 2 ^ k < 18446744069414584321 :=
  have hp : (0 : Int) < 2 ^ k := Int.pow_pos (by omega)
  ⟨Int.ediv_nonneg (by omega) (by omega), Int.lt_of_le_of_lt (Int.ediv_le_self _ (by omega)) (by omega)⟩
set_option maxHeartbeats 400000 in
theorem r_root (k : Int) (h0 : 0 ≤ k) (h1 : k ≤ 32) (w : World) :
    Calls Tryd.prog 27 #[.int .i64 k] w fun e w' => e = .returned (.tuple #[.int .u64 (Zm.i (root k.toNat)), .int .i64 0]) ∧ w = w' := by
  have g1 : ¬ k < 0 := by omega
  have g2 : ¬ 32 < k := by omega
  go_enter Tryd.func27, Tryd.ntmps27
  go_wp2_with fail
  go_loop [4, 5] (fun n i => ∃ j : Nat, (j : Int) ≤ k ∧ i = .int .i64 j ∧ n = .int .u64 (18446744069414584320 / 2 ^ j)) (fun _ i => (k - intOf i).toNat)
  case atStart => exact ⟨0, h0, rfl, val_int (by simp)⟩
  case round =>
    obtain ⟨j, hj, rfl, rfl⟩ := hrel
    obtain ⟨b0, b1⟩ := half_bd j
    by_cases hlt : (j : Int) < k
    · have hh := Lib.hid (half_pow j)
      generalize (18446744069414584320 : Int) / 2 ^ j = m at *
      go_wp2_with fail
      exact ⟨⟨j + 1, by omega, by go_num, val_int hh.out⟩, by simp [intOf]; omega⟩
    · obtain rfl : (j : Int) = k := by omega
      generalize hm : (18446744069414584320 : Int) / 2 ^ j = m at *
      have Hm := Lib.hid hm; clear hm
      go_wp2_with fail
      refine (r_pow 7 m b0 (by omega) _).mono ?_
      rintro e w' ⟨rfl, rfl⟩
      go_wp2_with fail
      go_ret2
      refine ⟨?_, rfl⟩
      rw [← root_int, Int.toNat_natCast, Hm.out]
      rfl
theorem r_root_bad (k : Int) (h : k < 0 ∨ 32 < k) (w : World) :
    Calls Tryd.prog 27 #[.int .i64 k] w fun e w' => e = .returned (.tuple #[.int .u64 0, .int .i64 1]) ∧ w = w' := by
  rcases h with h | h
  · go_enter Tryd.func27, Tryd.ntmps27
    go_wp2_with fail
    go_ret2
    exact ⟨rfl, rfl⟩
  · have g1 : ¬ k < 0 := by omega
    go_enter Tryd.func27, Tryd.ntmps27
    go_wp2_with fail
    go_ret2
    exact ⟨rfl, rfl⟩
end Go.Proofs.YtjgdbfhpjjmjkaaDoor
