/- The walks of package field and its reference: Valid, Reduce, Add, Sub, Neg, Mul. -/
import Derived.Test.YtjgdbfhpjjmjkaaDoorPrm
import Derived.Test.YtjgdbfhpjjmjkaaDoorRows
import Derived.WalkKit
import Derived.WalkSpells
import Derived.WalkLawsBesides
import Derived.Lib.Mul64
import Derived.Laws.Bits64b
import Derived.Laws.Externs
namespace Go.Proofs.YtjgdbfhpjjmjkaaDoor
open Go.RowKit Att Att.CRing

theorem ret_int {k : IntKind} {a b : Int} (h : a = b) : Ending.returned (.int k a) = .returned (.int k b) := by rw [h]

theorem red_lo (x : Int) (h0 : 0 ≤ x) (h : x < 18446744069414584321) : x = (int x : F).i := by rw [i_int]; omega
theorem red_hi (x : Int) (h : 18446744069414584321 ≤ x) (h2 : x < 18446744073709551616) : x - 18446744069414584321 = (int x : F).i := by
  rw [i_int]; omega

set_option maxHeartbeats 400000 in
theorem f_reduce (x : Int) (h0 : 0 ≤ x) (hx : x < 18446744073709551616) (w : World) :
    Calls Tryd.prog 48 #[.int .u64 x] w fun e w' => e = .returned (.int .u64 (Zm.i ((int x : F)))) ∧ w = w' := by
  by_cases h : x < 18446744069414584321
  · go_enter Tryd.func48, Tryd.ntmps48
    go_wp2
    go_ret
    exact ⟨ret_int (red_lo x h0 h), rfl⟩
  · have h' : 18446744069414584321 ≤ x := by omega
    go_enter Tryd.func48, Tryd.ntmps48
    go_wp2
    go_ret
    exact ⟨ret_int (red_hi x h' hx), rfl⟩

/- Add -/
theorem c_add64 (x y : Int) (hx : 0 ≤ x) (hy : 0 ≤ y) (w : World) :
    (callFunc 55 #[.int .u64 x, .int .u64 y, .int .u64 0]).run Tryd.prog w =
      .ok (.value (.tuple #[.int .u64 ((x + y) % 18446744073709551616), .int .u64 ((x + y) / 18446744073709551616)])) w := by
  rw [run_callFunc_extern Tryd.func55 (by kernel_rfl) (by kernel_rfl) (by kernel_rfl) (e := add64Entry) (by kernel_rfl), run_add64 x y 0 hx hy (by omega) (by omega), Int.add_zero]
  rfl
theorem c_add64_lo (x y : Int) (hx : 0 ≤ x) (hy : 0 ≤ y) (h : x + y < 18446744073709551616) (w : World) :
    (callFunc 55 #[.int .u64 x, .int .u64 y, .int .u64 0]).run Tryd.prog w = .ok (.value (.tuple #[.int .u64 (x + y), .int .u64 0])) w := by
  rw [c_add64 x y hx hy, show (x + y) % 18446744073709551616 = x + y from by omega, show (x + y) / 18446744073709551616 = 0 from by omega]
theorem c_add64_hi (x y : Int) (hx : 0 ≤ x) (hy : 0 ≤ y) (h : 18446744073709551616 ≤ x + y) (h2 : x + y < 36893488138829168642) (w : World) :
    (callFunc 55 #[.int .u64 x, .int .u64 y, .int .u64 0]).run Tryd.prog w = .ok (.value (.tuple #[.int .u64 (x + y - 18446744073709551616), .int .u64 1])) w := by
  rw [c_add64 x y hx hy, show (x + y) % 18446744073709551616 = x + y - 18446744073709551616 from by omega, show (x + y) / 18446744073709551616 = 1 from by omega]

set_option maxHeartbeats 400000 in
theorem f_add (x y : Int) [hx : In x] [hy : In y] (w : World) :
    Calls Tryd.prog 45 #[.int .u64 x, .int .u64 y] w fun e w' => e = .returned (.int .u64 (Zm.i ((int x + int y : F)))) ∧ w = w' := by
  obtain ⟨x0, x1⟩ := hx
  obtain ⟨y0, y1⟩ := hy
  rw [i_add_int]
  by_cases h : x + y < 18446744069414584321
  · have hr := c_add64_lo x y x0 y0 (by omega)
    go_enter Tryd.func45, Tryd.ntmps45
    go_wp2
    go_ret
    exact ⟨ret_int (by omega), rfl⟩
  · by_cases h2 : x + y < 18446744073709551616
    · have hr := c_add64_lo x y x0 y0 h2
      have h' : 18446744069414584321 ≤ x + y := by omega
      go_enter Tryd.func45, Tryd.ntmps45
      go_wp2
      go_ret
      exact ⟨ret_int (by omega), rfl⟩
    · have hr := c_add64_hi x y x0 y0 (by omega) (by omega)
      have h' : 18446744073709551616 ≤ x + y := by omega
      go_enter Tryd.func45, Tryd.ntmps45
      go_wp2
      go_ret
      exact ⟨ret_int (by rw [IntKind.wrap_u64]; omega), rfl⟩

/- Sub -/
def sub64Entry : Array Value → Sem Value := fun args => do
  let (x, y, b) ← Extern.MathBitsCarry.three "Sub64" args
  pure (Extern.MathBitsCarry.pair ((x + Extern.MathBitsCarry.m64 - y - b) % Extern.MathBitsCarry.m64) (if x < y + b then 1 else 0))
theorem run_sub64 {P : Program} (x y : Nat) (w : World) :
    (sub64Entry #[.int .u64 x, .int .u64 y, .int .u64 0]).run P w =
      .ok (.tuple #[.int .u64 (((x + 18446744073709551616 - y) % 18446744073709551616 : Nat) : Int), .int .u64 ((if x < y then 1 else 0 : Nat) : Int)]) w := rfl
theorem c_sub64 (x y : Int) (hx : 0 ≤ x) (hy : 0 ≤ y) (w : World) :
    (callFunc 56 #[.int .u64 x, .int .u64 y, .int .u64 0]).run Tryd.prog w =
      .ok (.value (.tuple #[.int .u64 (((x.toNat + 18446744073709551616 - y.toNat) % 18446744073709551616 : Nat) : Int), .int .u64 ((if x.toNat < y.toNat then 1 else 0 : Nat) : Int)])) w := by
  obtain ⟨m, rfl⟩ := Int.eq_ofNat_of_zero_le hx
  obtain ⟨n, rfl⟩ := Int.eq_ofNat_of_zero_le hy
  rw [run_callFunc_extern Tryd.func56 (by kernel_rfl) (by kernel_rfl) (by kernel_rfl) (e := sub64Entry) (by kernel_rfl), run_sub64 m n]
  rfl
theorem c_sub64_lo (x y : Int) (hx : 0 ≤ x) (hy : 0 ≤ y) (h : y ≤ x) (h2 : x < 18446744073709551616) (w : World) :
    (callFunc 56 #[.int .u64 x, .int .u64 y, .int .u64 0]).run Tryd.prog w = .ok (.value (.tuple #[.int .u64 (x - y), .int .u64 0])) w := by
  rw [c_sub64 x y hx hy, if_neg (by omega), show (((x.toNat + 18446744073709551616 - y.toNat) % 18446744073709551616 : Nat) : Int) = x - y from by omega]
  rfl
theorem c_sub64_hi (x y : Int) (hx : 0 ≤ x) (hy : 0 ≤ y) (h : x < y) (h2 : y < 18446744073709551616) (w : World) :
    (callFunc 56 #[.int .u64 x, .int .u64 y, .int .u64 0]).run Tryd.prog w = .ok (.value (.tuple #[.int .u64 (x - y + 18446744073709551616), .int .u64 1])) w := by
  rw [c_sub64 x y hx hy, if_pos (by omega), show (((x.toNat + 18446744073709551616 - y.toNat) % 18446744073709551616 : Nat) : Int) = x - y + 18446744073709551616 from by omega]
  rfl

set_option maxHeartbeats 400000 in
theorem f_sub (x y : Int) [hx : In x] [hy : In y] (w : World) :
    Calls Tryd.prog 46 #[.int .u64 x, .int .u64 y] w fun e w' => e = .returned (.int .u64 (Zm.i ((int x - int y : F)))) ∧ w = w' := by
  obtain ⟨x0, x1⟩ := hx
  obtain ⟨y0, y1⟩ := hy
  rw [i_sub_int]
  by_cases h : y ≤ x
  · have hr := c_sub64_lo x y x0 y0 h (by omega)
    go_enter Tryd.func46, Tryd.ntmps46
    go_wp2
    go_ret
    exact ⟨ret_int (by omega), rfl⟩
  · have hr := c_sub64_hi x y x0 y0 (by omega) (by omega)
    go_enter Tryd.func46, Tryd.ntmps46
    go_wp2
    go_ret
    exact ⟨ret_int (by rw [IntKind.wrap_u64]; omega), rfl⟩

/- Mul64 -/
theorem maskN (a : Nat) (ha : a < 18446744073709551616) : bits .and .u64 (a : Int) 4294967295 = ((a % 4294967296 : Nat) : Int) := by
  have h := bits_and_u64_nat a 4294967295 ha (by omega)
  have e : a &&& 4294967295 = a % 4294967296 := Nat.and_two_pow_sub_one_eq_mod a 32
  rw [e] at h
  exact h
theorem divN (a : Nat) : (a : Int) / 4294967296 = ((a / 4294967296 : Nat) : Int) := by omega
theorem mulN (a b : Nat) : (a : Int) * (b : Int) = ((a * b : Nat) : Int) := (Int.natCast_mul a b).symm
theorem addN (a b : Nat) : (a : Int) + (b : Int) = ((a + b : Nat) : Int) := (Int.natCast_add a b).symm
theorem wrapN (a : Nat) (ha : a < 18446744073709551616) : IntKind.u64.wrap (a : Int) = (a : Int) := by rw [IntKind.wrap_u64]; omega
theorem wrapM (a : Nat) : IntKind.u64.wrap (a : Int) = ((a % 18446744073709551616 : Nat) : Int) := by rw [IntKind.wrap_u64]; omega

set_option maxHeartbeats 1000000 in
theorem f_mul64N (x y : Nat) (hx : x < 18446744073709551616) (hy : y < 18446744073709551616) (w : World) :
    Calls Tryd.prog 47 #[.int .u64 x, .int .u64 y] w fun e w' => e = .returned (.tuple #[.int .u64 ((x * y / 18446744073709551616 : Nat) : Int), .int .u64 ((x * y % 18446744073709551616 : Nat) : Int)]) ∧ w' = w := by
  obtain ⟨bd, bt, bw, hhi⟩ := Lib.mul64_hi x y hx hy
  have ba := Lib.half_mul_le (a := x / 4294967296) (b := y / 4294967296) (by omega) (by omega)
  have bb := Lib.half_mul_le (a := x / 4294967296) (b := y % 4294967296) (by omega) (by omega)
  have bc := Lib.half_mul_le (a := x % 4294967296) (b := y / 4294967296) (by omega) (by omega)
  have ba' : x / 4294967296 * (y / 4294967296) < 18446744073709551616 := by omega
  have bb' : x / 4294967296 * (y % 4294967296) < 18446744073709551616 := by omega
  have bc' : x % 4294967296 * (y / 4294967296) < 18446744073709551616 := by omega
  have bh1 : x / 4294967296 * (y / 4294967296) + (x / 4294967296 * (y % 4294967296) + x % 4294967296 * (y % 4294967296) / 4294967296) / 4294967296 < 18446744073709551616 := by omega
  have bh : x / 4294967296 * (y / 4294967296) + (x / 4294967296 * (y % 4294967296) + x % 4294967296 * (y % 4294967296) / 4294967296) / 4294967296 + ((x / 4294967296 * (y % 4294967296) + x % 4294967296 * (y % 4294967296) / 4294967296) % 4294967296 + x % 4294967296 * (y / 4294967296)) / 4294967296 < 18446744073709551616 := by omega
  go_enter Tryd.func47, Tryd.ntmps47
  go_wp2
  simp only [maskN x hx, maskN y hy, divN, mulN, addN, wrapN _ bd, wrapN _ bb', wrapN _ bt, maskN _ bt, wrapN _ bc', wrapN _ bw, wrapN _ ba', wrapN _ bh1, wrapN _ bh, wrapM (x * y)]
  rw [hhi]
  go_ret2
  exact ⟨rfl, rfl⟩
end Go.Proofs.YtjgdbfhpjjmjkaaDoor
