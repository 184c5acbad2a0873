/- The walks of package field and its reference: Valid, Reduce, Add, Sub, Neg, Mul. -/
import Derived.Test.YtgambglgkilgkaaGreatDoorGa
import Derived.Test.YtgambglgkilgkaaGreatDoorRows
import Derived.WalkKit
import Derived.WalkSpells
import Derived.WalkLawsBesides
import Derived.Lib.Mul64
import Derived.Laws.Bits64b
import Derived.Laws.Externs
import Derived.Lib.Hide
import Derived.BigQuiet
import Derived.Deep.QuietTactic
import Derived.Test.YtgambglgkilgkaaGreatDoorGf
import Derived.LoopTactic
import Derived.OwnWalk
import Derived.Maps.AppendAt
import Derived.Deep.AppendLies
import Derived.Great.BuildSlice
namespace Go.Proofs.YtgambglgkilgkaaGreatDoor
open Go.RowKit Att Att.CRing

theorem ret_int {k : IntKind} {a b : Int} (h : a = b) : Ending.returned (.int k a) = .returned (.int k b) := by rw [h]

theorem red_lo (x : Int) (h0 : 0 ≤ x) (h : x < 18446744069414584321) : x = (int x : F).i := by rw [i_int]; omega
theorem red_hi (x : Int) (h : 18446744069414584321 ≤ x) (h2 : x < 18446744073709551616) : x - 18446744069414584321 = (int x : F).i := by
  rw [i_int]; omega

set_option maxHeartbeats 400000 in
theorem f_reduce (x : Int) (h0 : 0 ≤ x) (hx : x < 18446744073709551616) (w : World) :
    Calls Tryz.prog 109 #[.int .u64 x] w fun e w' => e = .returned (.int .u64 (Zm.i ((int x : F)))) ∧ w = w' := by
  by_cases h : x < 18446744069414584321
  · go_enter Tryz.func109, Tryz.ntmps109
    go_wp2
    go_ret
    exact ⟨ret_int (red_lo x h0 h), rfl⟩
  · have h' : 18446744069414584321 ≤ x := by omega
    go_enter Tryz.func109, Tryz.ntmps109
    go_wp2
    go_ret
    exact ⟨ret_int (red_hi x h' hx), rfl⟩

/- Add -/
theorem c_add64 (x y : Int) (hx : 0 ≤ x) (hy : 0 ≤ y) (w : World) :
    (callFunc 110 #[.int .u64 x, .int .u64 y, .int .u64 0]).run Tryz.prog w =
      .ok (.value (.tuple #[.int .u64 ((x + y) % 18446744073709551616), .int .u64 ((x + y) / 18446744073709551616)])) w := by
  rw [run_callFunc_extern Tryz.func110 (by kernel_rfl) (by kernel_rfl) (by kernel_rfl) (e := add64Entry) (by kernel_rfl), run_add64 x y 0 hx hy (by omega) (by omega), Int.add_zero]
  rfl
theorem c_add64_lo (x y : Int) (hx : 0 ≤ x) (hy : 0 ≤ y) (h : x + y < 18446744073709551616) (w : World) :
    (callFunc 110 #[.int .u64 x, .int .u64 y, .int .u64 0]).run Tryz.prog w = .ok (.value (.tuple #[.int .u64 (x + y), .int .u64 0])) w := by
  rw [c_add64 x y hx hy, show (x + y) % 18446744073709551616 = x + y from by omega, show (x + y) / 18446744073709551616 = 0 from by omega]
theorem c_add64_hi (x y : Int) (hx : 0 ≤ x) (hy : 0 ≤ y) (h : 18446744073709551616 ≤ x + y) (h2 : x + y < 36893488138829168642) (w : World) :
    (callFunc 110 #[.int .u64 x, .int .u64 y, .int .u64 0]).run Tryz.prog w = .ok (.value (.tuple #[.int .u64 (x + y - 18446744073709551616), .int .u64 1])) w := by
  rw [c_add64 x y hx hy, show (x + y) % 18446744073709551616 = x + y - 18446744073709551616 from by omega, show (x + y) / 18446744073709551616 = 1 from by omega]

set_option maxHeartbeats 400000 in
theorem f_add (x y : Int) [hx : In x] [hy : In y] (w : World) :
    Calls Tryz.prog 95 #[.int .u64 x, .int .u64 y] w fun e w' => e = .returned (.int .u64 (Zm.i ((int x + int y : F)))) ∧ w = w' := by
  obtain ⟨x0, x1⟩ := hx
  obtain ⟨y0, y1⟩ := hy
  rw [i_add_int]
  by_cases h : x + y < 18446744069414584321
  · have hr := c_add64_lo x y x0 y0 (by omega)
    go_enter Tryz.func95, Tryz.ntmps95
    go_wp2
    go_ret
    exact ⟨ret_int (by omega), rfl⟩
  · by_cases h2 : x + y < 18446744073709551616
    · have hr := c_add64_lo x y x0 y0 h2
      have h' : 18446744069414584321 ≤ x + y := by omega
      go_enter Tryz.func95, Tryz.ntmps95
      go_wp2
      go_ret
      exact ⟨ret_int (by omega), rfl⟩
    · have hr := c_add64_hi x y x0 y0 (by omega) (by omega)
      have h' : 18446744073709551616 ≤ x + y := by omega
      go_enter Tryz.func95, Tryz.ntmps95
      go_wp2
      go_ret
      exact ⟨ret_int (by rw [IntKind.wrap_u64]; omega), rfl⟩

/- Sub -/
def sub64Entry : Array Value → Sem Value := fun args => do
  let (x, y, b) ← Extern.MathBitsCarry.three "Sub64" args
  pure (Extern.MathBitsCarry.pair ((x + Extern.MathBitsCarry.m64 - y - b) % Extern.MathBitsCarry.m64) (if x < y + b then 1 else 0))
theorem run_sub64 {P : Program} (x y : Nat) (w : World) :
    (sub64Entry #[.int .u64 x, .int .u64 y, .int .u64 0]).run P w =
      .ok (.tuple #[.int .u64 (((x + 18446744073709551616 - y) % 18446744073709551616 : Nat) : Int), .int .u64 ((if x < y then 1 else 0 : Nat) : Int)]) w := rfl
theorem c_sub64 (x y : Int) (hx : 0 ≤ x) (hy : 0 ≤ y) (w : World) :
    (callFunc 74 #[.int .u64 x, .int .u64 y, .int .u64 0]).run Tryz.prog w =
      .ok (.value (.tuple #[.int .u64 (((x.toNat + 18446744073709551616 - y.toNat) % 18446744073709551616 : Nat) : Int), .int .u64 ((if x.toNat < y.toNat then 1 else 0 : Nat) : Int)])) w := by
  obtain ⟨m, rfl⟩ := Int.eq_ofNat_of_zero_le hx
  obtain ⟨n, rfl⟩ := Int.eq_ofNat_of_zero_le hy
  rw [run_callFunc_extern Tryz.func74 (by kernel_rfl) (by kernel_rfl) (by kernel_rfl) (e := sub64Entry) (by kernel_rfl), run_sub64 m n]
  rfl
theorem c_sub64_lo (x y : Int) (hx : 0 ≤ x) (hy : 0 ≤ y) (h : y ≤ x) (h2 : x < 18446744073709551616) (w : World) :
    (callFunc 74 #[.int .u64 x, .int .u64 y, .int .u64 0]).run Tryz.prog w = .ok (.value (.tuple #[.int .u64 (x - y), .int .u64 0])) w := by
  rw [c_sub64 x y hx hy, if_neg (by omega), show (((x.toNat + 18446744073709551616 - y.toNat) % 18446744073709551616 : Nat) : Int) = x - y from by omega]
  rfl
theorem c_sub64_hi (x y : Int) (hx : 0 ≤ x) (hy : 0 ≤ y) (h : x < y) (h2 : y < 18446744073709551616) (w : World) :
    (callFunc 74 #[.int .u64 x, .int .u64 y, .int .u64 0]).run Tryz.prog w = .ok (.value (.tuple #[.int .u64 (x - y + 18446744073709551616), .int .u64 1])) w := by
  rw [c_sub64 x y hx hy, if_pos (by omega), show (((x.toNat + 18446744073709551616 - y.toNat) % 18446744073709551616 : Nat) : Int) = x - y + 18446744073709551616 from by omega]
  rfl

set_option maxHeartbeats 400000 in
theorem f_sub (x y : Int) [hx : In x] [hy : In y] (w : World) :
    Calls Tryz.prog 35 #[.int .u64 x, .int .u64 y] w fun e w' => e = .returned (.int .u64 (Zm.i ((int x - int y : F)))) ∧ w = w' := by
  obtain ⟨x0, x1⟩ := hx
  obtain ⟨y0, y1⟩ := hy
  rw [i_sub_int]
  by_cases h : y ≤ x
  · have hr := c_sub64_lo x y x0 y0 h (by omega)
    go_enter Tryz.func35, Tryz.ntmps35
    go_wp2
    go_ret
    exact ⟨ret_int (by omega), rfl⟩
  · have hr := c_sub64_hi x y x0 y0 (by omega) (by omega)
    go_enter Tryz.func35, Tryz.ntmps35
    go_wp2
    go_ret
    exact ⟨ret_int (by rw [IntKind.wrap_u64]; omega), rfl⟩

/- Mul64 -/
theorem maskN (a : Nat) (ha : a < 18446744073709551616) : bits .and .u64 (a : Int) 4294967295 = ((a % 4294967296 : Nat) : Int) := by
  have h := bits_and_u64_nat a 4294967295 ha (by omega)
  have e : a &&& 4294967295 = a % 4294967296 := Nat.and_two_pow_sub_one_eq_mod a 32
  rw [e] at h
  exact h
theorem divN (a : Nat) : (a : Int) / 4294967296 = ((a / 4294967296 : Nat) : Int) := by omega
theorem mulN (a b : Nat) : (a : Int) * (b : Int) = ((a * b : Nat) : Int) := (Int.natCast_mul a b).symm
theorem addN (a b : Nat) : (a : Int) + (b : Int) = ((a + b : Nat) : Int) := (Int.natCast_add a b).symm
theorem wrapN (a : Nat) (ha : a < 18446744073709551616) : IntKind.u64.wrap (a : Int) = (a : Int) := by rw [IntKind.wrap_u64]; omega
theorem wrapM (a : Nat) : IntKind.u64.wrap (a : Int) = ((a % 18446744073709551616 : Nat) : Int) := by rw [IntKind.wrap_u64]; omega

set_option maxHeartbeats 1000000 in
theorem f_mul64N (x y : Nat) (hx : x < 18446744073709551616) (hy : y < 18446744073709551616) (w : World) :
    Calls Tryz.prog 108 #[.int .u64 x, .int .u64 y] w fun e w' => e = .returned (.tuple #[.int .u64 ((x * y / 18446744073709551616 : Nat) : Int), .int .u64 ((x * y % 18446744073709551616 : Nat) : Int)]) ∧ w' = w := by
  obtain ⟨bd, bt, bw, hhi⟩ := Lib.mul64_hi x y hx hy
  have ba := Lib.half_mul_le (a := x / 4294967296) (b := y / 4294967296) (by omega) (by omega)
  have bb := Lib.half_mul_le (a := x / 4294967296) (b := y % 4294967296) (by omega) (by omega)
  have bc := Lib.half_mul_le (a := x % 4294967296) (b := y / 4294967296) (by omega) (by omega)
  have ba' : x / 4294967296 * (y / 4294967296) < 18446744073709551616 := by omega
  have bb' : x / 4294967296 * (y % 4294967296) < 18446744073709551616 := by omega
  have bc' : x % 4294967296 * (y / 4294967296) < 18446744073709551616 := by omega
  have bh1 : x / 4294967296 * (y / 4294967296) + (x / 4294967296 * (y % 4294967296) + x % 4294967296 * (y % 4294967296) / 4294967296) / 4294967296 < 18446744073709551616 := by omega
  have bh : x / 4294967296 * (y / 4294967296) + (x / 4294967296 * (y % 4294967296) + x % 4294967296 * (y % 4294967296) / 4294967296) / 4294967296 + ((x / 4294967296 * (y % 4294967296) + x % 4294967296 * (y % 4294967296) / 4294967296) % 4294967296 + x % 4294967296 * (y / 4294967296)) / 4294967296 < 18446744073709551616 := by omega
  go_enter Tryz.func108, Tryz.ntmps108
  go_wp2
  simp only [maskN x hx, maskN y hy, divN, mulN, addN, wrapN _ bd, wrapN _ bb', wrapN _ bt, maskN _ bt, wrapN _ bc', wrapN _ bw, wrapN _ ba', wrapN _ bh1, wrapN _ bh, wrapM (x * y)]
  rw [hhi]
  go_ret2
  exact ⟨rfl, rfl⟩
end Go.Proofs.YtgambglgkilgkaaGreatDoor

/- The walks of package field: Mul, Pow, FromInt, Root, Inv. -/
namespace Go.Proofs.YtgambglgkilgkaaGreatDoor
open Go.RowKit Att Att.CRing

theorem f_mul64 (x y : Int) [hx : In64 x] [hy : In64 y] (w : World) :
    Calls Tryz.prog 108 #[.int .u64 x, .int .u64 y] w fun e w' => ∃ hi lo : Int, (e = .returned (.tuple #[.int .u64 hi, .int .u64 lo]) ∧ w = w') ∧
      0 ≤ hi ∧ hi < 18446744073709551616 ∧ 0 ≤ lo ∧ lo < 18446744073709551616 ∧ Hid (x * y = hi * 18446744073709551616 + lo) := by
  obtain ⟨x0, x1⟩ := hx
  obtain ⟨y0, y1⟩ := hy
  obtain ⟨m, rfl⟩ := Int.eq_ofNat_of_zero_le x0
  obtain ⟨n, rfl⟩ := Int.eq_ofNat_of_zero_le y0
  refine (f_mul64N m n (by omega) (by omega) w).mono ?_
  rintro e w' ⟨he, hw⟩
  have hb : m * n < 18446744073709551616 * 18446744073709551616 := Nat.mul_lt_mul'' (by omega) (by omega)
  refine ⟨_, _, ⟨he, hw.symm⟩, by omega, by omega, by omega, by omega, Lib.hid ?_⟩
  rw [← Int.natCast_mul]
  generalize m * n = k
  omega

theorem maskI (x : Int) (h0 : 0 ≤ x) (h : x < 18446744073709551616) : bits .and .u64 x 4294967295 = x % 4294967296 := by
  obtain ⟨m, rfl⟩ := Int.eq_ofNat_of_zero_le h0
  rw [maskN m (by omega)]; omega
theorem mul_red (x y hi lo : Int) (h : x * y = hi * 18446744073709551616 + lo) :
    (int lo - int (hi / 4294967296) + int (hi % 4294967296 * 4294967295) : F) = int x * int y := by
  rw [← int_sub, ← int_add, ← int_mul, h]
  apply i_inj; rw [i_int, i_int]; omega

set_option maxHeartbeats 400000 in
theorem f_mul (x y : Int) [hx : In64 x] [hy : In64 y] (w : World) :
    Calls Tryz.prog 94 #[.int .u64 x, .int .u64 y] w fun e w' => e = .returned (.int .u64 (Zm.i ((int x * int y : F)))) ∧ w = w' := by
  go_enter Tryz.func94, Tryz.ntmps94
  go_wp2_with fail
  refine (f_mul64 _ _ _).mono ?_
  rintro e w' ⟨hi, lo, ⟨rfl, rfl⟩, h0, h1, h2, h3, he⟩
  have hm := maskI hi h0 h1
  have h4 : 0 ≤ hi % 4294967296 := by omega
  have h5 : hi % 4294967296 < 4294967296 := by omega
  have h6 : In (hi / 4294967296) := ⟨by omega, by omega⟩
  go_wp2_with fail
  refine (f_reduce _ h2 h3 _).mono ?_
  rintro e w' ⟨rfl, rfl⟩
  go_wp2_with fail
  refine (f_sub _ _ _).mono ?_
  rintro e w' ⟨rfl, rfl⟩
  go_wp2_with fail
  refine (f_reduce _ (by omega) (by omega) _).mono ?_
  rintro e w' ⟨rfl, rfl⟩
  go_wp2_with fail
  refine (f_add _ _ _).mono ?_
  rintro e w' ⟨rfl, rfl⟩
  go_wp2_with fail
  go_ret
  refine ⟨ret_int ?_, rfl⟩
  rw [mul_red x y hi lo he.out]

/- FromInt -/
theorem conv_neg (n : Int) (h0 : -9223372036854775808 ≤ n) (h : n < 0) : IntKind.u64.wrap (-(IntKind.u64.wrap n)) = -n := by
  rw [IntKind.wrap_u64, IntKind.wrap_u64]; omega
/- Pow -/
theorem f_pow1 (x y : Int) [hx : In x] [hy : In y] (w : World) :
    Calls Tryz.prog 128 #[.int .u64 x, .int .u64 y] w fun e w' => e = .returned (.int .u64 (Zm.i ((int x * int y : F)))) ∧ w = w' := by
  go_enter Tryz.func128, Tryz.ntmps128
  go_wp2_with fail
  refine (f_mul _ _ _).mono ?_
  rintro e w' ⟨rfl, rfl⟩
  go_wp2_with fail
  go_ret
  exact ⟨rfl, rfl⟩

theorem andOne (k : Int) (h0 : 0 ≤ k) (h : k < 18446744073709551616) : bits .and .u64 k 1 = k % 2 := by
  obtain ⟨m, rfl⟩ := Int.eq_ofNat_of_zero_le h0
  have e := bits_and_u64_nat m 1 (by omega) (by omega)
  rw [Nat.and_one_is_mod] at e
  exact e.trans (by omega)
theorem pw_even {K : Type} [CRing K] (a : K) (k : Int) (h : k % 2 = 0) (h0 : 0 ≤ k) : pw (a * a) (k / 2).toNat = pw a k.toNat := by
  rw [← pw_two, ← pw_mul]; congr 1; omega
theorem pw_odd {K : Type} [CRing K] (a : K) (k : Int) (h : k % 2 = 1) (h0 : 0 ≤ k) : a * pw (a * a) (k / 2).toNat = pw a k.toNat := by
  rw [← pw_two, ← pw_mul, mul_comm, ← pw_succ]; congr 1; omega
theorem val_int {k : IntKind} {a b : Int} (h : a = b) : Value.int k a = Value.int k b := by rw [h]

set_option maxHeartbeats 400000 in
theorem f_power (x n : Int) [hx : In x] (h0 : 0 ≤ n) (h1 : n < 18446744073709551616) (w : World) :
    Calls Tryz.prog 127 #[.int .u64 x, .int .u64 1, .int .u64 n, Value.func (Fn.func 128) #[] #[]] w
      fun e w' => e = .returned (.int .u64 (Zm.i ((pw (int x) n.toNat : F)))) ∧ w = w' := by
  go_enter Tryz.func127, Tryz.ntmps127
  go_wp2_with fail
  go_loop [0, 2, 9] (fun a m o => ∃ (a' o' : F) (k : Int), a = .int .u64 (Zm.i (a')) ∧ m = .int .u64 k ∧ o = .int .u64 (Zm.i (o')) ∧ 0 ≤ k ∧ k < 18446744073709551616 ∧ o' * pw a' k.toNat = pw (int x) n.toNat) (fun _ m _ => (intOf m).toNat)
  case atStart => exact ⟨int x, 1, n, val_int (i_in x).symm, rfl, rfl, h0, h1, one_mul _⟩
  case round =>
    obtain ⟨a', o', k, rfl, rfl, rfl, k0, k1, he⟩ := hrel
    have H := Lib.hid he; clear he
    have hb := andOne k k0 k1
    by_cases hk : 0 < k
    · by_cases hodd : k % 2 = 1
      · have ht : (bits .and .u64 k 1 == 1) = true := by rw [hb, hodd]; rfl
        clear hb
        have H2 := Lib.hid hodd; clear hodd
        go_wp2_with fail
        refine (f_pow1 _ _ _).mono ?_
        rintro e w' ⟨rfl, rfl⟩
        go_wp2_with fail
        refine (f_pow1 _ _ _).mono ?_
        rintro e w' ⟨rfl, rfl⟩
        go_wp2_with fail
        go_round
        case rel => exact ⟨_, _, _, rfl, rfl, rfl, by omega, by omega, by rw [mul_assoc, pw_odd a' k H2.out k0]; exact H.out⟩
        case measure => simp [intOf]; omega
      · have ht : (bits .and .u64 k 1 == 1) = false := by rw [hb]; simp; omega
        clear hb
        have H2 := Lib.hid hodd; clear hodd
        go_wp2_with fail
        refine (f_pow1 _ _ _).mono ?_
        rintro e w' ⟨rfl, rfl⟩
        go_wp2_with fail
        go_round
        case rel => exact ⟨_, _, _, rfl, rfl, rfl, by omega, by omega, by rw [pw_even a' k (by have := H2.out; omega) k0]; exact H.out⟩
        case measure => simp [intOf]; omega
    · have hk' : k = 0 := by omega
      subst hk'
      clear hb
      go_wp2_with fail
      go_ret
      refine ⟨ret_int ?_, rfl⟩
      rw [← H.out, Int.toNat_zero, pw_zero, mul_one]

theorem f_pow (x n : Int) [hx : In x] (h0 : 0 ≤ n) (h1 : n < 18446744073709551616) (w : World) :
    Calls Tryz.prog 120 #[.int .u64 x, .int .u64 n] w fun e w' => e = .returned (.int .u64 (Zm.i ((pw (int x) n.toNat : F)))) ∧ w = w' := by
  go_enter Tryz.func120, Tryz.ntmps120
  go_wp2_with fail
  refine (f_power _ _ h0 h1 _).mono ?_
  rintro e w' ⟨rfl, rfl⟩
  go_wp2_with fail
  go_ret
  exact ⟨rfl, rfl⟩

/- Root -/
theorem root_int (k : Int) : (pw (int 7) (18446744069414584320 / 2 ^ k.toNat : Int).toNat : F) = root k.toNat := by
  unfold root P
  congr 1
set_option maxHeartbeats 400000 in
theorem f_root (k : Int) (h0 : 0 ≤ k) (h1 : k ≤ 32) (w : World) :
    Calls Tryz.prog 106 #[.int .i64 k] w fun e w' => e = .returned (.tuple #[.int .u64 (Zm.i (root k.toNat)), .int .i64 0]) ∧ w = w' := by
  have g1 : ¬ k < 0 := by omega
  have g2 : ¬ 32 < k := by omega
  go_enter Tryz.func106, Tryz.ntmps106
  go_wp2_with fail
  have hp : (0 : Int) < 2 ^ k.toNat := Int.pow_pos (by omega)
  refine (f_pow 7 _ (Int.ediv_nonneg (by omega) (by omega)) (Int.lt_of_le_of_lt (Int.ediv_le_self _ (by omega)) (by omega)) _).mono ?_
  rintro e w' ⟨rfl, rfl⟩
  rw [root_int]
  clear hp
  go_wp2_with fail
  go_ret2
  exact ⟨rfl, rfl⟩
theorem f_root_bad (k : Int) (h : k < 0 ∨ 32 < k) (w : World) :
    Calls Tryz.prog 106 #[.int .i64 k] w fun e w' => e = .returned (.tuple #[.int .u64 0, .int .i64 1]) ∧ w = w' := by
  rcases h with h | h
  · go_enter Tryz.func106, Tryz.ntmps106
    go_wp2_with fail
    go_ret2
    exact ⟨rfl, rfl⟩
  · have g1 : ¬ k < 0 := by omega
    go_enter Tryz.func106, Tryz.ntmps106
    go_wp2_with fail
    go_ret2
    exact ⟨rfl, rfl⟩

/- Inv -/
theorem gcd_step (r m : Int) (h0 : 0 ≤ r) (h1 : 0 ≤ m) (h : Nat.gcd r.toNat m.toNat = 1) : Nat.gcd m.toNat (r % m).toNat = 1 := by
  rw [Int.toNat_emod h0 h1, Nat.gcd_comm, ← Nat.gcd_rec, Nat.gcd_comm]; exact h
theorem inv_step (r m : Int) (s t A : F) (hs : s * A = int r) (ht : t * A = int m) : (s - int (r / m) * t) * A = int (r % m) := by
  have e : (s - int (r / m) * t) * A = s * A - int (r / m) * (t * A) := ring_of [s, int (r / m), t, A] ((v0 - v1 * v2) * v3) (v0 * v3 - v1 * (v2 * v3)) rfl
  rw [e, hs, ht, ← int_mul, ← int_sub]
  congr 1
  have := Int.mul_ediv_add_emod r m
  rw [Int.mul_comm]; omega
theorem gcd_start (x : Int) [h : In x] (hx : 0 < x) : Nat.gcd (18446744069414584321 : Int).toNat x.toNat = 1 := by
  apply P_coprime
  intro hd
  have := Nat.le_of_dvd (by omega) hd
  have := h.lt
  unfold P at *
  omega
theorem gcd_end (m : Int) (h0 : 0 ≤ m) (h : Nat.gcd m.toNat (0 : Int).toNat = 1) : m = 1 := by
  simp at h; omega

set_option maxHeartbeats 400000 in
theorem f_inv0 (w : World) :
    Calls Tryz.prog 107 #[.int .u64 0] w fun e w' => e = .returned (.tuple #[.int .u64 0, .int .i64 3]) ∧ w = w' := by
  go_enter Tryz.func107, Tryz.ntmps107
  go_wp2_with fail
  go_step3
  go_wp2_with fail
  try rw [Exit.noGoto_ret]
  go_ret2
  exact ⟨rfl, rfl⟩

set_option maxHeartbeats 1000000 in
theorem f_inv (x : Int) [hx : In x] (h0 : 0 < x) (w : World) :
    Calls Tryz.prog 107 #[.int .u64 x] w fun e w' => e = .returned (.tuple #[.int .u64 (Zm.i ((Fld.inv (int x) : F))), .int .i64 0]) ∧ ∃ n, w' = w.drewN n := by
  have hz : (x == 0) = false := by simp; omega
  have hst := Lib.hid (gcd_start x h0)
  have hP := Lib.hid int_P
  have hxl := hx.lt
  go_enter Tryz.func107, Tryz.ntmps107
  go_wp2_with fail
  go_step3
  go_wp2_with fail
  go_step3
  go_wp2_with fail
  go_loopw [4, 5, 6, 7] (fun r m s t wr => ∃ (r' m' : Int) (s' t' : F), r = .int .u64 r' ∧ m = .int .u64 m' ∧ s = .int .u64 (Zm.i (s')) ∧ t = .int .u64 (Zm.i (t')) ∧ 0 < r' ∧ 0 < m' ∧ r' ≤ 18446744069414584321 ∧ m' ≤ 18446744069414584321 ∧
      Nat.gcd r'.toNat m'.toNat = 1 ∧ s' * int x = int r' ∧ t' * int x = int m' ∧ ∃ n, wr = w.drewN n) (fun _ m _ _ _ => (intOf m).toNat)
  case atStart => exact ⟨_, _, 0, 1, rfl, rfl, rfl, rfl, by omega, h0, by omega, by omega, hst.out, by rw [zero_mul]; exact hP.out.symm, one_mul _, 0, rfl⟩
  case round =>
    obtain ⟨r, m, s, t, rfl, rfl, rfl, rfl, r0, m0, r1, m1, hg, hs, ht, nd, rfl⟩ := hrel
    have Hg := Lib.hid hg; clear hg
    have Hs := Lib.hid hs; clear hs
    have Ht := Lib.hid ht; clear ht
    go_wp2_with fail
    go_quiet (fail)
    go_wp2_with fail
    have hq : In64 (r / m) := ⟨Int.ediv_nonneg (by omega) (by omega), Int.lt_of_le_of_lt (Int.ediv_le_self _ (by omega)) (by omega)⟩
    refine (f_mul _ _ _).mono ?_
    rintro e w' ⟨rfl, rfl⟩
    go_wp2_with fail
    refine (f_sub _ _ _).mono ?_
    rintro e w' ⟨rfl, rfl⟩
    have hm0 := Int.emod_nonneg r (show m ≠ 0 by omega)
    have hm1 := Int.emod_lt_of_pos r m0
    have Hn := Lib.hid (inv_step r m s t _ Hs.out Ht.out)
    have Hg2 := Lib.hid (gcd_step r m (by omega) (by omega) Hg.out)
    by_cases hz : r % m = 0
    · have hzb : (r % m == 0) = true := by rw [hz]; rfl
      have Hz := Lib.hid hz; clear hz
      go_wp2_with fail
      rw [Exit.noGoto_ret]
      go_ret2
      refine ⟨?_, _, rfl⟩
      have e1 := Hg2.out
      rw [Hz.out] at e1
      have e2 := gcd_end m (by omega) e1
      have e3 := Ht.out
      rw [e2, int_one, mul_comm] at e3
      rw [← inv_unique e3]
      rfl
    · have hzb : (r % m == 0) = false := by simp; exact hz
      have Hz := Lib.hid hz; clear hz
      go_wp2_with fail
      have hz2 := Hz.out
      exact ⟨⟨_, _, _, _, rfl, rfl, rfl, rfl, m0, by omega, m1, by omega, Hg2.out, Ht.out, Hn.out, _, rfl⟩, by simp [intOf]; omega⟩
end Go.Proofs.YtgambglgkilgkaaGreatDoor

/- The walks of the reference of package field. -/
namespace Go.Proofs.YtgambglgkilgkaaGreatDoor
open Go.RowKit Att Att.CRing

theorem r_reduce (x : Int) [hx : In64 x] (w : World) :
    Calls Tryz.prog 65 #[.int .u64 x] w fun e w' => e = .returned (.int .u64 (Zm.i ((int x : F)))) ∧ w = w' := by
  have h0 := hx.nn
  have h1 := hx.lt
  go_enter Tryz.func65, Tryz.ntmps65
  go_wp2
  go_ret
  exact ⟨ret_int (i_int x).symm, rfl⟩

theorem shift_math (x : Int) : (int (x % 4294967296 * 4294967296) + int (x / 4294967296 * 4294967295) : F) = int x * int 4294967296 := by
  rw [← int_add, ← int_mul]
  apply i_inj; rw [i_int, i_int]; omega
theorem half_math (x y : Int) : (int (x % 4294967296 * y) + int (x / 4294967296 * y) * int 4294967296 : F) = int x * int y := by
  rw [← int_mul, ← int_add, ← int_mul]
  congr 1
  rw [Int.mul_assoc, Int.mul_comm y, ← Int.mul_assoc, ← Int.add_mul]
  congr 1; omega
theorem half_le (a b : Int) (a0 : 0 ≤ a) (a1 : a ≤ 4294967295) (b0 : 0 ≤ b) (b1 : b ≤ 4294967295) : 0 ≤ a * b ∧ a * b < 18446744073709551616 := by
  refine ⟨Int.mul_nonneg a0 b0, ?_⟩
  have := Int.mul_le_mul a1 b1 b0 (by omega)
  omega
theorem mul_math (x y : Int) : (int x * int (y % 4294967296) + int x * int (y / 4294967296) * int 4294967296 : F) = int x * int y := by
  rw [mul_assoc, ← mul_add, ← int_mul, ← int_add]
  congr 2; omega
/- FromInt -/
theorem fromInt_neg (n : Int) (h : n < 0) (h0 : -9223372036854775808 ≤ n) : 18446744069414584321 - (-(n + 1) + 1) = (int n : F).i := by
  rw [i_int]; omega
theorem inv_pow (a : F) : pw a (18446744069414584319 : Int).toNat = Fld.inv a := rfl
/- Root -/
theorem half_pow (k : Nat) : (18446744069414584320 : Int) / 2 ^ k / 2 = 18446744069414584320 / 2 ^ (k + 1) := by
  rw [Int.ediv_ediv_of_nonneg (Int.le_of_lt (Int.pow_pos (by omega))), Int.pow_succ]
theorem half_bd (k : Nat) : 0 ≤ (18446744069414584320 : Int) / 2 ^ k ∧ (18446744069414584320 : Int) / 2 ^ k < 18446744069414584321 :=
  have hp : (0 : Int) < 2 ^ k := Int.pow_pos (by omega)
  ⟨Int.ediv_nonneg (by omega) (by omega), Int.lt_of_le_of_lt (Int.ediv_le_self _ (by omega)) (by omega)⟩
end Go.Proofs.YtgambglgkilgkaaGreatDoor

/- Growth of the world, blocks and cells. -/
namespace Go.Proofs.YtgambglgkilgkaaGreatDoor
open Go.RowKit Att Att.CRing
theorem hnew (w : World) (o : Obj) : (w.alloc o).heap[w.heap.size]? = some o := by unfold World.alloc; simp
/-- w2 has grown out of w1 -/
def Gn (w1 w2 : World) : Prop := ∃ g, w2 = gr w1 g
theorem Gn.below {w1 w2 : World} (h : Gn w1 w2) : Below w1.heap.size w1 w2 := by obtain ⟨g, rfl⟩ := h; exact gr_below _ g
theorem Gn.of {w1 w2 : World} (h : Below w1.heap.size w1 w2) : Gn w1 w2 := to_gr h
theorem Gn.refl (w : World) : Gn w w := ⟨Grow.refl w, rfl⟩
theorem Gn.trans {a b c : World} (h : Gn a b) (k : Gn b c) : Gn a c := Gn.of (Up.trans h.below k.below)
theorem Gn.al {w : World} (o : Obj) : Gn w (w.alloc o) := Gn.of ((Below.refl _ _).alloc (Nat.le_refl _) _)
theorem Gn.size {a b : World} (h : Gn a b) : a.heap.size ≤ b.heap.size := h.below.size
theorem Gn.block {a b : World} (h : Gn a b) {k : Nat} {o : Obj} (ho : a.heap[k]? = some o) : b.heap[k]? = some o :=
  (h.below.block k (Array.getElem?_eq_some_iff.1 ho).1).trans ho

theorem box_a {w : World} {b : Nat} {p q : Value} {T : TypeId} (h : w.heap[b]? = some (.cells #[p, q] T)) : w.cell? ⟨b, 0, none⟩ = some p := by
  simp [World.cell?, h]
theorem box_b {w : World} {b : Nat} {p q : Value} {T : TypeId} (h : w.heap[b]? = some (.cells #[p, q] T)) : w.cell? ⟨b, 1, none⟩ = some q := by
  simp [World.cell?, h]
theorem blk_lt {w : World} {b : Nat} {o : Obj} (h : w.heap[b]? = some o) : b < w.heap.size := (Array.getElem?_eq_some_iff.1 h).1
theorem obj_cell {w : World} {b : Nat} {cs : Array Value} {T : TypeId} (h : w.heap[b]? = some (.cells cs T)) (i : Nat) {v : Value} (hv : cs[i]? = some v) : w.cell? ⟨b, i, none⟩ = some v := by
  simp [World.cell?, h, hv]
theorem box_fz {w : World} {b i : Nat} {cs : Array Value} {T : TypeId} (h : w.heap[b]? = some (.cells cs T)) : w.frozen? ⟨b, i, none⟩ = false := by
  simp [World.frozen?, h]
theorem up_comp {W : World} (g : Grow W) (h : Grow (gr W g)) : Up (gr W g) (gr W (g.comp h)) := gr_below _ _
theorem freeB_spec {ops : Array Oper} {o : Oper} {Γ : List Ent} (h : (Γ.all fun e => !(o.looksAt ops).contains e.slot) = true) : ∀ e ∈ Γ, e.slot ∉ o.looksAt ops := by
  intro e he hc
  have := List.all_eq_true.1 h e he
  simp at this
  exact this hc
theorem wpList_act {P : Program} {ops : Array Oper} {Q : Exit → Act → World → Prop} {l : List Oper} {a a' : Act} {w : World} (h : a = a') (k : wpList P ops Q l a' w) : wpList P ops Q l a w := h ▸ k
end Go.Proofs.YtgambglgkilgkaaGreatDoor

/- Slices of field elements ([]uint64): what they read as; told anew of each world that grows. -/
namespace Go.Proofs.YtgambglgkilgkaaGreatDoor
open Go.RowKit Att Att.CRing
def ff (l : List F) : List Value := l.map fun x => .int .u64 (Zm.i (x))
theorem ff_get {l : List F} {i : Nat} {x : F} (h : l[i]? = some x) : (ff l)[i]? = some (.int .u64 (Zm.i (x))) := by simp [ff, h]
theorem ff_length (l : List F) : (ff l).length = l.length := by simp [ff]
theorem ff_append (l k : List F) : ff (l ++ k) = ff l ++ ff k := by simp [ff]
theorem ff_one (l : List F) : ∀ u ∈ ff l, u.oneCell' = true := by
  intro u hu
  simp only [ff, List.mem_map] at hu
  obtain ⟨x, _, rfl⟩ := hu
  rfl
/-- the slice value '.slice A n c' reads as the list l -/
structure SF (w : World) (A : Option Addr) (n c : Nat) (l : List F) : Prop where
  len : l.length = n
  le : n ≤ c
  small : c ≤ 9223372036854775807
  cells : 0 < n → ∃ b o, A = some ⟨b, o, none⟩ ∧ b < w.heap.size ∧ ∀ i x, l[i]? = some x → w.cell? ⟨b, o + i, none⟩ = some (.int .u64 (Zm.i (x)))
theorem SF.up {a b : World} {A : Option Addr} {n c : Nat} {l : List F} (h : SF a A n c l) (g : Gn a b) : SF b A n c l :=
  ⟨h.len, h.le, h.small, fun hn => by
    obtain ⟨k, o, e, hk, hc⟩ := h.cells hn
    exact ⟨k, o, e, Nat.lt_of_lt_of_le hk g.size, fun i x hx => (g.below.cell (p := ⟨k, _, none⟩) hk).trans (hc i x hx)⟩⟩
theorem SF.nil (w : World) : SF w none 0 0 [] := ⟨rfl, Nat.le_refl _, by omega, fun h => absurd h (by omega)⟩
theorem SF.at_ {w : World} {A : Option Addr} {n c : Nat} {l : List F} (h : SF w A n c l) {j : Nat} (hj : j < n) :
    ∃ b o x, A = some ⟨b, o, none⟩ ∧ l[j]? = some x ∧ b < w.heap.size ∧ w.cell? ⟨b, o + j, none⟩ = some (.int .u64 (Zm.i (x))) := by
  obtain ⟨b, o, e, hb, hc⟩ := h.cells (by omega)
  have hl : j < l.length := by rw [h.len]; exact hj
  exact ⟨b, o, l[j], e, List.getElem?_eq_getElem hl, hb, hc j _ (List.getElem?_eq_getElem hl)⟩
theorem SF.take {w : World} {A : Option Addr} {n c : Nat} {l : List F} (h : SF w A n c l) {k : Nat} (hk : k ≤ n) : SF w A k c (l.take k) :=
  ⟨by rw [List.length_take, h.len]; omega, Nat.le_trans hk h.le, h.small, fun hn => by
    obtain ⟨b, o, e, hb, hc⟩ := h.cells (by omega)
    exact ⟨b, o, e, hb, fun i x hx => hc i x (by
      have hi : i < (l.take k).length := (List.getElem?_eq_some_iff.1 hx).1
      rw [List.length_take] at hi
      rw [List.getElem?_take_of_lt (by omega)] at hx; exact hx)⟩⟩
/-- a block that holds just the elements l -/
def BF (w : World) (g : Nat) (l : List F) : Prop := w.heap[g]? = some (.cells (ff l).toArray 28)
theorem BF.up {a b : World} {g : Nat} {l : List F} (h : BF a g l) (k : Gn a b) : BF b g l := k.block h
theorem BF.cell {w : World} {g : Nat} {l : List F} (h : BF w g l) {i : Nat} {x : F} (hx : l[i]? = some x) : w.cell? ⟨g, i, none⟩ = some (.int .u64 (Zm.i (x))) :=
  obj_cell h _ (by simpa using ff_get hx)
theorem BF.sf {w : World} {g : Nat} {l : List F} (h : BF w g l) (hs : l.length ≤ 9223372036854775807) : SF w (some ⟨g, 0, none⟩) l.length l.length l :=
  ⟨rfl, Nat.le_refl _, hs, fun _ => ⟨g, 0, rfl, blk_lt h, fun i x hx => by rw [Nat.zero_add]; exact h.cell hx⟩⟩
/-- the world behind a store into a row -/
def setF (w : World) (g i : Nat) (x : F) : World := w.setCell ⟨g, i, none⟩ (.int .u64 (Zm.i (x)))
theorem BF.set {w : World} {g i : Nat} {l : List F} (h : BF w g l) (x : F) : BF (setF w g i x) g (l.set i x) := by
  unfold BF at h ⊢
  have e : (ff l).set i (.int .u64 (Zm.i (x))) = ff (l.set i x) := by simp [ff, List.map_set]
  rw [← e]
  simp [setF, World.setCell, Array.getElem?_modify, h]
theorem setF_below {W w : World} {g i : Nat} (h : Gn W w) (hb : W.heap.size ≤ g) (x : F) : Gn W (setF w g i x) := Gn.of (h.below.setCell hb _)
theorem setF_other {w : World} {g i c : Nat} (hc : c ≠ g) (x : F) : (setF w g i x).heap[c]? = w.heap[c]? := Below.heap_setCell _ _ _ c hc
theorem u64Info : (Tryz.prog.info? 28).map (fun i => (i.zero, i.size, i.bytes)) = some (some (.int .u64 0), 1, 8) := by kernel_rfl
theorem ff_zero (n : Nat) : ff (List.replicate n 0) = List.replicate n (.int .u64 0) := by
  unfold ff; rw [List.map_replicate]; rfl
theorem madeF (n : Nat) : madeCells #[.int .u64 0] n = (ff (List.replicate n 0)).toArray := by
  rw [ff_zero]
  apply Array.ext
  · simp [madeCells]
  · intro i h1 h2; simp [madeCells, Nat.mod_one]
/-- a block that begins with the elements l -/
def RF (w : World) (g : Nat) (l : List F) (rest : List Value) : Prop := w.heap[g]? = some (.cells (ff l ++ rest).toArray 28)
theorem RF.up {a b : World} {g : Nat} {l : List F} {rest : List Value} (h : RF a g l rest) (k : Gn a b) : RF b g l rest := k.block h
theorem RF.cell {w : World} {g : Nat} {l : List F} {rest : List Value} (h : RF w g l rest) {i : Nat} {x : F} (hx : l[i]? = some x) : w.cell? ⟨g, i, none⟩ = some (.int .u64 (Zm.i (x))) := by
  have hi : i < (ff l).length := by rw [ff_length]; exact (List.getElem?_eq_some_iff.1 hx).1
  exact obj_cell h _ (by simpa [List.getElem?_append_left hi] using ff_get hx)
theorem RF.set {w : World} {g i : Nat} {l : List F} {rest : List Value} (h : RF w g l rest) (hi : i < l.length) (x : F) : RF (setF w g i x) g (l.set i x) rest := by
  unfold RF at h ⊢
  have e : (ff l ++ rest).set i (.int .u64 (Zm.i (x))) = ff (l.set i x) ++ rest := by
    rw [List.set_append_left _ _ (by rw [ff_length]; exact hi)]
    simp [ff, List.map_set]
  rw [← e]
  simp [setF, World.setCell, Array.getElem?_modify, h]
theorem RF.sf {w : World} {g c : Nat} {l : List F} {rest : List Value} (h : RF w g l rest) (hc : l.length ≤ c) (hs : c ≤ 9223372036854775807) : SF w (some ⟨g, 0, none⟩) l.length c l :=
  ⟨rfl, hc, hs, fun _ => ⟨g, 0, rfl, blk_lt h, fun i x hx => by rw [Nat.zero_add]; exact h.cell hx⟩⟩
theorem BF.rf {w : World} {g : Nat} {l : List F} (h : BF w g l) : RF w g l [] := by unfold RF; rw [List.append_nil]; exact h
theorem RF.bf {w : World} {g : Nat} {l : List F} (h : RF w g l []) : BF w g l := by unfold RF at h; rwa [List.append_nil] at h
/-- make of n zeros -/
theorem wpList_mkF {ops : Array Oper} {rest : List Oper} {a : Act} {w : World} {Q : Exit → Act → World → Prop} {d : Option Nat} {ty : TypeId} {pos : String} {aft : Array Edge} (l c : Operand) (n : Nat)
    (hl : a.eval l = .int .i64 n) (hc : a.eval c = .int .i64 n) (hn : n ≤ 1099511627776)
    (hK : wpList Tryz.prog ops Q rest (a.put d (.slice (some ⟨w.heap.size, 0, none⟩) n n)) (w.alloc (.cells (ff (List.replicate n 0)).toArray 28))) :
    wpList Tryz.prog ops Q (⟨d, .makeSlice 51 l c, ty, pos, aft, none⟩ :: rest) a w := by
  obtain ⟨i0, hi, hz0, hz1, hz2⟩ := info_parts u64Info
  have hrun := run_make (P := Tryz.prog) w 51 28 i0 _ Tryz.underlying51 hi hz0 .i64 .i64 n n (by omega) (by omega) (by rw [hz2]; omega) (by omega)
  refine wpList_plain rfl fun K hK' => ?_
  unfold Oper.wp
  simp only [execOp, hl, hc, Sem.run_bind, hrun]
  simp only [Result.andThen, Oper.upon, Sem.run_pure]
  refine hK' _ _ ?_
  have e : madeCells (Value.cells (.int .u64 0)) ((n : Int).toNat * i0.size) = (ff (List.replicate n 0)).toArray := by
    rw [hz1, Int.toNat_natCast, Nat.mul_one]; exact madeF n
  rw [e, Int.toNat_natCast]
  exact hK

/- ───── a row that grows by append ───── -/
def OF (w : World) (base : Nat) (v : Value) (l : List F) : Prop := w.ownsRow base 28 1 v l.length (ff l)
theorem OF.nil (w : World) (base : Nat) : OF w base (.slice none 0 0) [] := ⟨rfl, .inl ⟨rfl, rfl⟩⟩
theorem OF.empty (w : World) {base : Nat} (hb : base ≤ w.heap.size) : OF (w.alloc (.cells #[] 28)) base (.slice (some ⟨w.heap.size, 0, none⟩) 0 0) [] :=
  ⟨rfl, .inr ⟨_, 0, #[], rfl, hb, hnew w _, Nat.le_refl _, by unfold maxLen; omega, rfl, rfl⟩⟩
theorem OF.up {a b : World} {base : Nat} {v : Value} {l : List F} (h : OF a base v l) (k : Gn a b) : OF b base v l := by
  rcases h with ⟨h1, h2 | ⟨g, cap, cur, hv, hb, hg, hn, hc, hsz, htake⟩⟩
  · exact ⟨h1, .inl h2⟩
  · exact ⟨h1, .inr ⟨g, cap, cur, hv, hb, k.block hg, hn, hc, hsz, htake⟩⟩
theorem OF.sf {w : World} {base : Nat} {v : Value} {l : List F} (h : OF w base v l) : ∃ A c, v = .slice A l.length c ∧ SF w A l.length c l := by
  rcases h.2 with ⟨rfl, h0⟩ | ⟨g, cap, cur, rfl, hb, hg, hn, hc, hsz, htake⟩
  · have hl : l = [] := List.eq_nil_of_length_eq_zero h0
    subst hl
    exact ⟨none, 0, rfl, SF.nil w⟩
  · refine ⟨_, cap, rfl, rfl, hn, by unfold maxLen at hc; omega, fun _ => ⟨g, 0, rfl, blk_lt hg, fun i x hx => ?_⟩⟩
    have hil : i < l.length := (List.getElem?_eq_some_iff.1 hx).1
    have hf := ff_get hx
    rw [← htake, List.getElem?_take_of_lt (by omega)] at hf
    rw [Nat.zero_add]
    exact obj_cell hg _ (by simpa using hf)
/-- a row of one's own that is not empty lies in a block -/
theorem OF.rf {w : World} {base : Nat} {v : Value} {l : List F} (h : OF w base v l) (h0 : 0 < l.length) : ∃ g c rest, v = .slice (some ⟨g, 0, none⟩) l.length c ∧ RF w g l rest ∧ base ≤ g ∧ l.length ≤ c ∧ c ≤ 9223372036854775807 := by
  rcases h.2 with ⟨rfl, h1⟩ | ⟨g, cap, cur, rfl, hb, hg, hn, hc, hsz, htake⟩
  · omega
  · refine ⟨g, cap, cur.toList.drop l.length, rfl, ?_, hb, hn, by unfold maxLen at hc; omega⟩
    unfold RF
    rw [Nat.mul_one] at htake
    rw [← htake, List.take_append_drop]
    exact hg
theorem grown_gnF {W a b : World} {v : Value} {base : Nat} {l : List F} (h : Gn W a) (ho : OF a base v l) (hb : W.heap.size ≤ base) (hg : a.grownBy b v.ownBlock) : Gn W b := by
  refine Gn.of (h.below.grown hg h.size ?_)
  intro k hk
  rcases ho.2 with ⟨rfl, _⟩ | ⟨g, cap, cur, rfl, hbb, _⟩
  · simp [Value.ownBlock] at hk
  · simp [Value.ownBlock] at hk; omega
theorem OF.base {w : World} {base base' : Nat} {v : Value} {l : List F} (h : OF w base v l) (hb : base' ≤ base) : OF w base' v l := by
  rcases h with ⟨h1, h2 | ⟨g, cap, cur, hv, hbb, hg, hn, hc, hsz, htake⟩⟩
  · exact ⟨h1, .inl h2⟩
  · exact ⟨h1, .inr ⟨g, cap, cur, hv, Nat.le_trans hb hbb, hg, hn, hc, hsz, htake⟩⟩
theorem run_appF {w : World} {ty : TypeId} {base : Nat} {v : Value} {l : List F} (ho : OF w base v l) (hbase : base ≤ w.heap.size) {A : Option Addr} {m c : Nat} {k : List F} (hs : SF w A m c k) (hn : l.length + m ≤ 1099511627776) :
    ∃ v' w', (Builtin.append_ #[51, 51] ty #[v, .slice A m c]).run Tryz.prog w = .ok v' w' ∧ OF w' base v' (l ++ k) ∧ w.grownBy w' v.ownBlock := by
  obtain ⟨i0, hi, hz0, hz1, hz2⟩ := info_parts u64Info
  have hfix : ∀ {v' w'}, w'.ownsRow base 28 1 v' (l.length + m) (ff l ++ ff k) → OF w' base v' (l ++ k) := by
    intro v' w' h
    unfold OF
    rw [List.length_append, hs.len, ff_append]; exact h
  rcases Nat.eq_zero_or_pos m with h0 | h0
  · subst h0
    have hk : k = [] := List.eq_nil_of_length_eq_zero hs.len
    subst hk
    cases A with
    | none =>
      refine ⟨v, w, ?_, by simpa using ho, World.grownBy.refl w _⟩
      rcases ho.2 with ⟨rfl, _⟩ | ⟨g, cap, cur, rfl, _, _, hnc, _⟩
      · simp [Builtin.append_, run_underlying Tryz.underlying51, sizeOf, typeInfo, hi, Builtin.lenOf, Builtin.firstCells]
      · simp [Builtin.append_, run_underlying Tryz.underlying51, sizeOf, typeInfo, hi, Builtin.lenOf, Builtin.firstCells, hnc, storeCells]
    | some ad =>
      obtain ⟨v', w', hrun, h2, h3, _, _⟩ := run_append_own_at (P := Tryz.prog) w base 51 ty 28 i0 _ 1 8 Tryz.underlying51 hi hz0 hz1 hz2 rfl (by omega) v l.length (ff l) ho ad 0 c [] rfl (by simp) (by simp)
        (by unfold maxLen; omega) (by omega) hbase
      exact ⟨v', w', hrun, by simpa [OF] using h2, h3⟩
  · obtain ⟨b, o, rfl, hb, hc⟩ := hs.cells h0
    obtain ⟨v', w', hrun, h2, h3, _, _⟩ := run_append_own_at (P := Tryz.prog) w base 51 ty 28 i0 _ 1 8 Tryz.underlying51 hi hz0 hz1 hz2 rfl (by omega) v l.length (ff l) ho ⟨b, o, none⟩ m c (ff k)
      (by rw [ff_length, hs.len, Nat.mul_one]) (by
        intro j u hu
        have hj : j < k.length := by rw [← ff_length]; exact (List.getElem?_eq_some_iff.1 hu).1
        have hx : k[j]? = some k[j] := List.getElem?_eq_getElem hj
        rw [ff_get hx] at hu
        cases hu
        have hadd : (⟨b, o, none⟩ : Addr).add j = ⟨b, o + j, none⟩ := by unfold Addr.add; split <;> simp_all
        rw [hadd]
        exact hc _ _ hx) (ff_one k) (by unfold maxLen; omega) (by omega) hbase
    exact ⟨v', w', hrun, hfix h2, h3⟩
theorem wpList_appF {ops : Array Oper} {rest : List Oper} {a : Act} {w : World} {Q : Exit → Act → World → Prop} {d : Option Nat} {ty : TypeId} {pos : String} {aft : Array Edge} (s x : Operand)
    {base : Nat} {v : Value} {l : List F} (hs : a.eval s = v) (ho : OF w base v l) (hbase : base ≤ w.heap.size) {A : Option Addr} {m c : Nat} {k : List F} (hx : a.eval x = .slice A m c) (hk : SF w A m c k) (hn : l.length + m ≤ 1099511627776)
    (hK : ∀ v' w', OF w' base v' (l ++ k) → w.grownBy w' v.ownBlock → wpList Tryz.prog ops Q rest (a.put d v') w') :
    wpList Tryz.prog ops Q (⟨d, .call { callee := .builtin .append, args := #[s, x], argTypes := #[51, 51] }, ty, pos, aft, none⟩ :: rest) a w := by
  obtain ⟨v', w', hrun, h2, h3⟩ := run_appF (ty := ty) ho hbase hk hn
  refine wpList_plain rfl fun K hK' => ?_
  unfold Oper.wp execOp
  simp only [resolve, invoke, builtin, Sem.run_bind, Sem.run_pure, Result.andThen_ok, List.map_toArray, List.map_cons, List.map_nil, hs, hx, hrun]
  exact hK' _ _ (hK v' w' h2 h3)
theorem BF.one {w : World} (x : F) : BF (w.alloc (.cells #[.int .u64 (Zm.i (x))] 28)) w.heap.size [x] := hnew w _

/- ───── slices of raw numbers ───── -/
structure SW (w : World) (A : Option Addr) (n c : Nat) (l : List Int) : Prop where
  len : l.length = n
  le : n ≤ c
  small : c ≤ 9223372036854775807
  rng : ∀ z ∈ l, In64 z
  cells : 0 < n → ∃ b o, A = some ⟨b, o, none⟩ ∧ b < w.heap.size ∧ ∀ i (z : Int), l[i]? = some z → w.cell? ⟨b, o + i, none⟩ = some (.int .u64 z)
theorem SW.up {a b : World} {A : Option Addr} {n c : Nat} {l : List Int} (h : SW a A n c l) (g : Gn a b) : SW b A n c l :=
  ⟨h.len, h.le, h.small, h.rng, fun hn => by
    obtain ⟨k, o, e, hk, hc⟩ := h.cells hn
    exact ⟨k, o, e, Nat.lt_of_lt_of_le hk g.size, fun i x hx => (g.below.cell (p := ⟨k, _, none⟩) hk).trans (hc i x hx)⟩⟩
theorem SW.at_ {w : World} {A : Option Addr} {n c : Nat} {l : List Int} (h : SW w A n c l) {j : Nat} (hj : j < n) :
    ∃ b o z, A = some ⟨b, o, none⟩ ∧ l[j]? = some z ∧ b < w.heap.size ∧ w.cell? ⟨b, o + j, none⟩ = some (.int .u64 z) ∧ In64 z := by
  obtain ⟨b, o, e, hb, hc⟩ := h.cells (by omega)
  have hl : j < l.length := by rw [h.len]; exact hj
  have hg : l[j]? = some l[j] := List.getElem?_eq_getElem hl
  exact ⟨b, o, l[j], e, hg, hb, hc j _ hg, h.rng _ (List.getElem_mem hl)⟩
theorem SW.take {w : World} {A : Option Addr} {n c : Nat} {l : List Int} (h : SW w A n c l) {k : Nat} (hk : k ≤ n) : SW w A k c (l.take k) :=
  ⟨by rw [List.length_take, h.len]; omega, Nat.le_trans hk h.le, h.small, fun z hz => h.rng z (List.mem_of_mem_take hz), fun hn => by
    obtain ⟨b, o, e, hb, hc⟩ := h.cells (by omega)
    exact ⟨b, o, e, hb, fun i x hx => hc i x (by
      have hi : i < (l.take k).length := (List.getElem?_eq_some_iff.1 hx).1
      rw [List.length_take] at hi
      rw [List.getElem?_take_of_lt (by omega)] at hx; exact hx)⟩⟩
end Go.Proofs.YtgambglgkilgkaaGreatDoor

/- Steps of a flow: what an operand holds; calls whose arguments are told by properties. (Of whatever package.) -/
namespace Go.Proofs.YtgambglgkilgkaaGreatDoor
open Go.RowKit Att Att.CRing

theorem fill_size (V : Nat → Value) (a : Act) : ∀ Γ : List Ent, (fill Γ V a).tmps.size = a.tmps.size
  | [] => rfl
  | e :: Γ => by unfold fill; simp only [Act.put, Array.size_setIfInBounds]; exact fill_size V a Γ
theorem fill_mem {V : Nat → Value} {a : Act} {s : Nat} (hs : s < a.tmps.size) : ∀ {Γ : List Ent}, (∃ e ∈ Γ, e.slot = s) → (fill Γ V a).eval (.tmp s) = V s
  | [], h => by obtain ⟨e, he, _⟩ := h; cases he
  | e :: Γ, h => by
    show ((fill Γ V a).tmps.setIfInBounds e.slot (V e.slot)).getD s undef = V s
    by_cases hse : e.slot = s
    · rw [hse, Array.getD_eq_getD_getElem?, Array.getElem?_setIfInBounds_self]
      simp [fill_size, hs]
    · rw [Array.getD_eq_getD_getElem?, Array.getElem?_setIfInBounds_ne hse, ← Array.getD_eq_getD_getElem?]
      obtain ⟨e', he, hs'⟩ := h
      rcases List.mem_cons.1 he with rfl | he
      · exact absurd hs' hse
      · exact fill_mem hs ⟨e', he, hs'⟩
theorem fill_else {V : Nat → Value} {a : Act} {s : Nat} : ∀ {Γ : List Ent}, (Γ.all fun e => e.slot != s) = true → (fill Γ V a).eval (.tmp s) = a.eval (.tmp s)
  | [], _ => rfl
  | e :: Γ, h => by
    simp only [List.all_cons, Bool.and_eq_true, bne_iff_ne] at h
    show ((fill Γ V a).tmps.setIfInBounds e.slot (V e.slot)).getD s undef = _
    rw [Array.getD_eq_getD_getElem?, Array.getElem?_setIfInBounds_ne h.1, ← Array.getD_eq_getD_getElem?]
    exact fill_else h.2

/-- whether the guard's slot is not told by a property -/
def guardOut (ops : Array Oper) (o : Oper) (Γ : List Ent) : Bool :=
  match o.guard with
  | some (g, _) => match (ops[g]?).bind (·.dst) with
    | some t => Γ.all fun e => e.slot != t
    | none => true
  | none => true
theorem want_fill {ops : Array Oper} {o : Oper} {Γ : List Ent} {a : Act} (h : guardOut ops o Γ = true) (hw : Region.wanted o (yielded ops a.tmps) = true) : ∀ V, Region.wanted o (yielded ops (fill Γ V a).tmps) = true := by
  intro V
  rw [← hw]
  unfold guardOut at h
  unfold Region.wanted
  cases hg : o.guard with
  | none => rfl
  | some gw =>
    obtain ⟨g, want⟩ := gw
    rw [hg] at h
    simp only at h ⊢
    have hy : yielded ops (fill Γ V a).tmps g = yielded ops a.tmps g := by
      unfold yielded
      cases ht : (ops[g]?).bind (·.dst) with
      | none => rfl
      | some t =>
        rw [ht] at h
        simp only at h
        have e : (fill Γ V a).tmps.getD t undef = a.tmps.getD t undef := fill_else h
        have sz : ∀ (b c : Array Value), b.size = c.size → b.getD t undef = c.getD t undef → b[t]? = c[t]? := by
          intro b c h1 h2
          rw [Array.getD_eq_getD_getElem?, Array.getD_eq_getD_getElem?] at h2
          by_cases hb : t < b.size
          · have hc : t < c.size := h1 ▸ hb
            rw [Array.getElem?_eq_getElem hb, Array.getElem?_eq_getElem hc] at h2 ⊢
            simp only [Option.getD_some] at h2
            rw [h2]
          · rw [Array.getElem?_eq_none (Nat.le_of_not_lt hb), Array.getElem?_eq_none (h1 ▸ Nat.le_of_not_lt hb)]
        simp only [Option.bind_some, sz _ _ (fill_size V a Γ) e]
    simp only [hy]
/- ───── arguments ───── -/
/-- what an operand holds whenever the operation runs -/
def Arg (ops : Array Oper) (W : World) (o : Oper) (Γ : List Ent) (a : Act) (x : Operand) (R : Value → World → Prop) : Prop :=
  ∀ (V : Nat → Value) (N : Nat → Nat) (X : Nat → World), (∀ e ∈ Γ, e.rel (V e.slot) (N e.slot) (X e.slot) ∧ Up W (X e.slot)) → ∀ w, Up W w → (∀ e ∈ Γ, e.slot ∈ o.looksAt ops → Up (X e.slot) w) → R ((fill Γ V a).eval x) w
def isV (c v : Value) (_ : World) : Prop := v = c
section
variable {ops : Array Oper} {W : World} {o : Oper} {Γ : List Ent} {a : Act}
/-- a value that the frame holds -/
theorem arg_v {c : Value} {s : Nat} (h : (Γ.all fun e => e.slot != s) = true) (hc : a.eval (.tmp s) = c) : Arg ops W o Γ a (.tmp s) (isV c) := by
  intro V N X _ w _ _
  exact (fill_else h).trans hc
theorem arg_c {c : Value} : Arg ops W o Γ a (.const c) (isV c) := fun _ _ _ _ _ _ _ => rfl
end

/- ───── calls ───── -/
/-- a step whose value is told by a property, as a fact that does not unfold -/
structure ExS (P : Program) (ops : Array Oper) (W : World) (o : Oper) (Γ : List Ent) (a : Act) (φ : Rel) : Prop where
  out : ExStep P ops W o Γ a φ
theorem flow_exS {P : Program} {ops : Array Oper} {W : World} {End : List Oper → List Ent → Act → Prop} {n : Nat} {o : Oper} {l : List Oper} {Γ : List Ent} {a : Act} {d : Nat} (φ : Rel) (hd : o.dst = some d) (hs : ExS P ops W o Γ a φ)
    (h : Fk.Flow P ops W End n l (⟨d, φ⟩ :: Γ) a) : Fk.Flow P ops W End (n + 1) (o :: l) Γ a := Fk.flow_ex φ hd hs.out h
theorem flow_knS {P : Program} {ops : Array Oper} {W : World} {End : List Oper → List Ent → Act → Prop} {n : Nat} {o : Oper} {l : List Oper} {Γ : List Ent} {a : Act} {d : Nat} (c : Value) (hd : o.dst = some d) (hs : ExS P ops W o Γ a (fun v _ _ => v = c))
    (h : Fk.Flow P ops W End n l Γ (a.put (some d) c)) : Fk.Flow P ops W End (n + 1) (o :: l) Γ a := Fk.flow_kn c hd hs.out h
theorem run_fn {o : Oper} {a : Act} {w : World} {f : FuncId} {args : Array Operand} {ats : Array TypeId} (hop : o.op = .call { callee := .value (.func f), args, argTypes := ats })
    (hf : (Tryz.prog.funcs[f]?).map (fun fn => (fn.name == "runtime.NumGoroutine", fn.body.isNone)) = some (false, false)) : (execOp a.eval o).run Tryz.prog w = .ok (.enter f (args.map a.eval)) w := by
  cases hg : Tryz.prog.funcs[f]? with
  | none => rw [hg] at hf; cases hf
  | some fn =>
    rw [hg] at hf
    simp only [Option.map_some, Option.some.injEq, Prod.mk.injEq] at hf
    have h1 : ¬ fn.name = "runtime.NumGoroutine" := by simpa using hf.1
    have h2 : ¬ fn.body = none := by cases hx : fn.body <;> simp_all
    unfold execOp
    simp [hop, resolve, Deferred.ofValue, invoke, callFunc, hg, h1, h2, Act.eval]
/-- how a function answers: its value by a property, the world grown -/
def Ans (φ : Rel) (w : World) (e : Ending) (w' : World) : Prop := ∃ v, e = .returned v ∧ Up w w' ∧ φ v w.heap.size w'
section
variable {ops : Array Oper} {W : World} {o : Oper} {Γ : List Ent} {a : Act} {φ : Rel}
theorem ex_call {f : FuncId} {args : Array Operand} {ats : Array TypeId} (hop : o.op = .call { callee := .value (.func f), args, argTypes := ats })
    (hf : (Tryz.prog.funcs[f]?).map (fun fn => (fn.name == "runtime.NumGoroutine", fn.body.isNone)) = some (false, false))
    (hw : ∀ V, Region.wanted o (yielded ops (fill Γ V a).tmps) = true)
    (hc : ∀ (V : Nat → Value) (N : Nat → Nat) (X : Nat → World), (∀ e ∈ Γ, e.rel (V e.slot) (N e.slot) (X e.slot) ∧ Up W (X e.slot)) → ∀ w, Up W w → (∀ e ∈ Γ, e.slot ∈ o.looksAt ops → Up (X e.slot) w) →
      Calls Tryz.prog f (args.map (fill Γ V a).eval) w (Ans φ w)) : ExStep Tryz.prog ops W o Γ a φ := by
  intro V N X hΓ g hX K hK
  simp only [wpList]
  rw [if_pos (hw V)]
  left
  unfold Oper.wp
  rw [run_fn hop hf, Oper.upon_enter]
  refine (hc V N X hΓ _ (Up.gr W g) hX).mono ?_
  rintro e w' ⟨v, rfl, hu, hv⟩
  exact hK v w' hu hv
theorem ex_call1 {f : FuncId} {x : Operand} {ats : Array TypeId} {R : Value → World → Prop} (hC : ∀ u w, R u w → Calls Tryz.prog f #[u] w (Ans φ w)) (hop : o.op = .call { callee := .value (.func f), args := #[x], argTypes := ats })
    (hf : (Tryz.prog.funcs[f]?).map (fun fn => (fn.name == "runtime.NumGoroutine", fn.body.isNone)) = some (false, false))
    (hw : ∀ V, Region.wanted o (yielded ops (fill Γ V a).tmps) = true) (hx : Arg ops W o Γ a x R) : ExS Tryz.prog ops W o Γ a φ :=
  ⟨ex_call hop hf hw fun V N' X hΓ w hw hX => by
    have h := hC _ w (hx V N' X hΓ w hw hX)
    rwa [show #[(fill Γ V a).eval x] = #[x].map (fill Γ V a).eval from by simp] at h⟩
theorem ex_call2 {f : FuncId} {x y : Operand} {ats : Array TypeId} {R S : Value → World → Prop} (hC : ∀ u v w, R u w → S v w → Calls Tryz.prog f #[u, v] w (Ans φ w)) (hop : o.op = .call { callee := .value (.func f), args := #[x, y], argTypes := ats })
    (hf : (Tryz.prog.funcs[f]?).map (fun fn => (fn.name == "runtime.NumGoroutine", fn.body.isNone)) = some (false, false))
    (hw : ∀ V, Region.wanted o (yielded ops (fill Γ V a).tmps) = true) (hx : Arg ops W o Γ a x R) (hy : Arg ops W o Γ a y S) : ExS Tryz.prog ops W o Γ a φ :=
  ⟨ex_call hop hf hw fun V N' X hΓ w hw hX => by
    have h := hC _ _ w (hx V N' X hΓ w hw hX) (hy V N' X hΓ w hw hX)
    rwa [show #[(fill Γ V a).eval x, (fill Γ V a).eval y] = #[x, y].map (fill Γ V a).eval from by simp] at h⟩
end
end Go.Proofs.YtgambglgkilgkaaGreatDoor

/- Steps of a flow over slices of field elements and of raw numbers: made rows, stores, arguments. -/
namespace Go.Proofs.YtgambglgkilgkaaGreatDoor
open Go.RowKit Att Att.CRing
/-- a made row of zeros -/
def mkF (m : Nat) : Rel := fun v n y => ∃ b, v = .slice (some ⟨b, 0, none⟩) m m ∧ n ≤ b ∧ BF y b (List.replicate m 0)
theorem ex_mkF {ops : Array Oper} {W : World} {Γ : List Ent} {a : Act} (d : Nat) (l c : Operand) (ty : TypeId) (pos : String) (aft : Array Edge) (m : Nat) (hl : ∀ V, (fill Γ V a).eval l = .int .i64 m) (hc : ∀ V, (fill Γ V a).eval c = .int .i64 m) (hm : m ≤ 1099511627776) :
    ExStep Tryz.prog ops W ⟨some d, .makeSlice 51 l c, ty, pos, aft, none⟩ Γ a (mkF m) := by
  intro V N X hΓ g hX K hK
  refine wpList_mkF l c m (hl V) (hc V) hm ?_
  refine wpList_nil ?_
  exact hK _ _ (Gn.al _).below ⟨_, rfl, Nat.le_refl _, hnew _ _⟩
theorem end_mkF2 {W : World} {Γ : List Ent} {V : Nat → Value} {N : Nat → Nat} {X : Nat → World} (h : ∀ e ∈ Γ, e.rel (V e.slot) (N e.slot) (X e.slot) ∧ Up W (X e.slot) ∧ W.heap.size ≤ N e.slot)
    (hd : ∀ e ∈ Γ, ∀ e' ∈ Γ, e.slot ≠ e'.slot → (X e.slot).heap.size ≤ N e'.slot ∨ (X e'.slot).heap.size ≤ N e.slot)
    {w : World} (hX : ∀ e ∈ Γ, Up (X e.slot) w) (s t m k : Nat) (hs : ⟨s, mkF m⟩ ∈ Γ) (ht : ⟨t, mkF k⟩ ∈ Γ) (hne : s ≠ t) :
    ∃ b c, V s = .slice (some ⟨b, 0, none⟩) m m ∧ V t = .slice (some ⟨c, 0, none⟩) k k ∧ b ≠ c ∧ W.heap.size ≤ b ∧ W.heap.size ≤ c ∧ BF w b (List.replicate m 0) ∧ BF w c (List.replicate k 0) := by
  have h0 := h _ hs
  have h1 := h _ ht
  dsimp only at h0 h1
  obtain ⟨⟨b, b1, b2, b3⟩, _, b4⟩ := h0
  obtain ⟨c, c1, c2, c3⟩ := h1.1
  have c4 := h1.2.2
  have b5 := blk_lt b3
  have c5 := blk_lt c3
  refine ⟨b, c, b1, c1, ?_, Nat.le_trans b4 b2, Nat.le_trans c4 c2, b3.up (Gn.of (hX _ hs)), c3.up (Gn.of (hX _ ht))⟩
  have := hd _ hs _ ht hne
  dsimp only at this
  omega
theorem run_storeF {w : World} {b i : Nat} {l : List F} {rest : List Value} {x : F} (h : RF w b l rest) (hi : i < l.length) : (Instr.storeAt 28 (.pointer (some ⟨b, i, none⟩)) (.int .u64 (Zm.i (x)))).run Tryz.prog w = .ok () (setF w b i x) := by
  have c0 := h.cell (List.getElem?_eq_getElem hi)
  have f0 := box_fz (i := i) h
  simp [go_sem, c0, f0]
  rfl
theorem tail_storeF {ops : Array Oper} {Q : Exit → Act → World → Prop} {l : List Oper} {a : Act} {w : World} {s t : Operand} {ty : TypeId} {pos : String} {aft : Array Edge} {b i : Nat} {x : F} {k : List F} {rest : List Value}
    (hs : a.eval s = .pointer (some ⟨b, i, none⟩)) (ht : a.eval t = .int .u64 (Zm.i (x))) (h : RF w b k rest) (hi : i < k.length) (kk : wpList Tryz.prog ops Q l a (setF w b i x)) :
    wpList Tryz.prog ops Q (⟨none, .store 28 s t, ty, pos, aft, none⟩ :: l) a w := by
  simp only [wpList, Region.wanted, if_true]
  left
  unfold Oper.wp
  have e : (execOp a.eval ⟨none, .store 28 s t, ty, pos, aft, none⟩).run Tryz.prog w = .ok .skip (setF w b i x) := by
    simp only [execOp, hs, ht]
    simp only [Sem.run_bind, run_storeF h hi]
    rfl
  rw [e]
  exact kk
/-- a slice of field elements, wherever it lies; raw numbers -/
def isF (l : List F) (v : Value) (w : World) : Prop := ∃ A n c, v = .slice A n c ∧ SF w A n c l
def isW (l : List Int) (v : Value) (w : World) : Prop := ∃ A n c, v = .slice A n c ∧ SW w A n c l
def fv (l : List F) : Rel := fun v _ y => isF l v y
theorem isF.up {l : List F} {v : Value} {x w : World} (h : isF l v x) (g : Up x w) : isF l v w := by
  obtain ⟨A, n, c, e, hs⟩ := h; exact ⟨A, n, c, e, hs.up (Gn.of g)⟩
theorem isW.up {l : List Int} {v : Value} {x w : World} (h : isW l v x) (g : Up x w) : isW l v w := by
  obtain ⟨A, n, c, e, hs⟩ := h; exact ⟨A, n, c, e, hs.up (Gn.of g)⟩
theorem isF.gn {l : List F} {v : Value} {x w : World} (h : isF l v x) (g : Gn x w) : isF l v w := h.up g.below
section
variable {ops : Array Oper} {W : World} {o : Oper} {Γ : List Ent} {a : Act}
theorem arg_fv {l : List F} (i : Nat) {s : Nat} (h : Γ[i]? = some ⟨s, fv l⟩) (hs : Nat.ble (s + 1) a.tmps.size = true) (hl : (o.looksAt ops).contains s = true) : Arg ops W o Γ a (.tmp s) (isF l) := by
  have hm := List.mem_of_getElem? h
  intro V N X hΓ w _ hX
  rw [fill_mem (Nat.le_of_ble_eq_true hs) ⟨_, hm, rfl⟩]
  have h1 : fv l (V s) (N s) (X s) := (hΓ _ hm).1
  exact isF.up h1 (hX _ hm (by simpa using hl))
theorem arg_f0 {l : List F} {s : Nat} {v : Value} (h : (Γ.all fun e => e.slot != s) = true) (hc : a.eval (.tmp s) = v) (hl : isF l v W) : Arg ops W o Γ a (.tmp s) (isF l) := by
  intro V N X _ w hw _
  rw [fill_else h, hc]
  exact hl.up hw
theorem arg_w0 {l : List Int} {s : Nat} {v : Value} (h : (Γ.all fun e => e.slot != s) = true) (hc : a.eval (.tmp s) = v) (hl : isW l v W) : Arg ops W o Γ a (.tmp s) (isW l) := by
  intro V N X _ w hw _
  rw [fill_else h, hc]
  exact hl.up hw
/-- an argument of which nothing is asked -/
theorem arg_any {x : Operand} : Arg ops W o Γ a x (fun _ _ => True) := fun _ _ _ _ _ _ _ => trivial
variable {φ : Rel}
theorem ex_call3 {f : FuncId} {x y z : Operand} {ats : Array TypeId} {R S T : Value → World → Prop} (hC : ∀ u v t w, R u w → S v w → T t w → Calls Tryz.prog f #[u, v, t] w (Ans φ w)) (hop : o.op = .call { callee := .value (.func f), args := #[x, y, z], argTypes := ats })
    (hf : (Tryz.prog.funcs[f]?).map (fun fn => (fn.name == "runtime.NumGoroutine", fn.body.isNone)) = some (false, false))
    (hw : ∀ V, Region.wanted o (yielded ops (fill Γ V a).tmps) = true) (hx : Arg ops W o Γ a x R) (hy : Arg ops W o Γ a y S) (hz : Arg ops W o Γ a z T) : ExS Tryz.prog ops W o Γ a φ :=
  ⟨ex_call hop hf hw fun V N' X hΓ w hw hX => by
    have h := hC _ _ _ w (hx V N' X hΓ w hw hX) (hy V N' X hΓ w hw hX) (hz V N' X hΓ w hw hX)
    rwa [show #[(fill Γ V a).eval x, (fill Γ V a).eval y, (fill Γ V a).eval z] = #[x, y, z].map (fill Γ V a).eval from by simp] at h⟩
end
theorem OF.is {w : World} {base : Nat} {v : Value} {l : List F} (h : OF w base v l) : isF l v w := by
  obtain ⟨A, c, rfl, hs⟩ := h.sf
  exact ⟨A, _, c, rfl, hs⟩
/-- x[:h] -/
theorem u64Size (w : World) : (sizeOf 28).run Tryz.prog w = .ok 1 w := by
  obtain ⟨i0, hi0, hz0, hz1, hz2⟩ := info_parts u64Info
  simp [sizeOf, typeInfo, hi0, hz1]
theorem addr0 (A : Option Addr) (k : Nat) : (if k = 0 then A else A.map (·.add (0 * 1))) = A := by
  cases A with
  | none => simp
  | some p => obtain ⟨b, o, s⟩ := p; simp [Addr.add]
theorem slice_h {A : Option Addr} {n c h : Nat} (hh : h ≤ c) (w : World) : (Instr.slice 51 (.slice A n c) none (some (.int .i64 h)) none).run Tryz.prog w = .ok (.slice A h c) w := by
  have hu : Tryz.prog.underlying 51 = some (.slice (Tryz.prog.elem 51)) := by kernel_rfl
  have he : Tryz.prog.elem 51 = 28 := by kernel_rfl
  rw [run_slice_h w 51 A n c hu .i64 _ (by omega) (by omega), he, u64Size]
  simp only [Result.andThen, sliced, Int.toNat_natCast, Nat.sub_zero, addr0]
theorem slice_hm {A : Option Addr} {n c h : Nat} (hh : h ≤ c) (w : World) : (Instr.slice 51 (.slice A n c) none (some (.int .i64 h)) (some (.int .i64 h))).run Tryz.prog w = .ok (.slice A h h) w := by
  have hu : Tryz.prog.underlying 51 = some (.slice (Tryz.prog.elem 51)) := by kernel_rfl
  have he : Tryz.prog.elem 51 = 28 := by kernel_rfl
  rw [run_slice_hm w 51 A n c hu .i64 .i64 _ _ (by omega) (by omega) (by omega), he, u64Size]
  simp only [Result.andThen, sliced, Int.toNat_natCast, Nat.sub_zero, addr0]
theorem SF.takeM {w : World} {A : Option Addr} {n c : Nat} {l : List F} (h : SF w A n c l) {k : Nat} (hk : k ≤ n) : SF w A k k (l.take k) := by
  have h1 := h.take hk
  exact ⟨h1.len, Nat.le_refl _, Nat.le_trans h1.le h1.small, h1.cells⟩
end Go.Proofs.YtgambglgkilgkaaGreatDoor
