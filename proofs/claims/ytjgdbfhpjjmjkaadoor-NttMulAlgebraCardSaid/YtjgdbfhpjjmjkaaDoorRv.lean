/- Bit reversal by masks. No program in sight. -/
import Derived.Test.YtjgdbfhpjjmjkaaDoorDft
import Derived.Test.YtjgdbfhpjjmjkaaDoorGr
namespace Go.Proofs.YtjgdbfhpjjmjkaaDoor
open Att
def sw (s m x : Nat) : Nat := Nat.lor (Nat.land (x / s) m) ((Nat.land x m * s) % 18446744073709551616)
def sw32 (y : Nat) : Nat := Nat.lor (y / 4294967296) ((y * 4294967296) % 18446744073709551616)
def revN (x : Nat) : Nat := sw32 (sw 65536 281470681808895 (sw 256 71777214294589695 (sw 16 1085102592571150095 (sw 4 3689348814741910323 (sw 2 6148914691236517205 x)))))
def chk (f : Nat → Bool) : Nat → Nat → Bool
  | 0, b => f b
  | n + 1, b => chk f n b && chk f n (b + 2 ^ n)
theorem chk_spec (f : Nat → Bool) : ∀ n b, chk f n b = true → ∀ x, b ≤ x → x < b + 2 ^ n → f x = true
  | 0, b, h, x, h1, h2 => by
    obtain rfl : x = b := by simp at h2; omega
    exact h
  | n + 1, b, h, x, h1, h2 => by
    simp only [chk, Bool.and_eq_true] at h
    rw [Nat.pow_succ] at h2
    rcases Nat.lt_or_ge x (b + 2 ^ n) with h' | h'
    · exact chk_spec f n b h.1 x h1 h'
    · exact chk_spec f n (b + 2 ^ n) h.2 x h' (by omega)
theorem revN_one {k : Nat} (h : k < 16) : revN (2 ^ k) = 2 ^ (63 - k) :=
  Nat.eq_of_beq_eq_true (chk_spec (fun k => Nat.beq (revN (2 ^ k)) (2 ^ (63 - k))) 4 0 (by kernel_rfl) k (Nat.zero_le _) (by simpa using h))
theorem or4 (p q r s : Nat) : (p ||| q) ||| (r ||| s) = (p ||| r) ||| (q ||| s) := by ac_rfl
theorem sw_or (e m x y : Nat) : sw (2 ^ e) m (x ||| y) = sw (2 ^ e) m x ||| sw (2 ^ e) m y := by
  unfold sw
  show ((x ||| y) / 2 ^ e &&& m) ||| ((((x ||| y) &&& m) * 2 ^ e) % 2 ^ 64) = ((x / 2 ^ e &&& m) ||| (((x &&& m) * 2 ^ e) % 2 ^ 64)) ||| ((y / 2 ^ e &&& m) ||| (((y &&& m) * 2 ^ e) % 2 ^ 64))
  rw [← Nat.shiftRight_eq_div_pow, ← Nat.shiftRight_eq_div_pow, ← Nat.shiftRight_eq_div_pow, Nat.shiftRight_or_distrib, Nat.and_or_distrib_right, Nat.and_or_distrib_right,
    ← Nat.shiftLeft_eq, ← Nat.shiftLeft_eq, ← Nat.shiftLeft_eq, Nat.shiftLeft_or_distrib, Nat.or_mod_two_pow]
  exact or4 _ _ _ _
theorem sw32_or (a b : Nat) : sw32 (a ||| b) = sw32 a ||| sw32 b := by
  show ((a ||| b) / 2 ^ 32) ||| (((a ||| b) * 2 ^ 32) % 2 ^ 64) = (a / 2 ^ 32 ||| (a * 2 ^ 32) % 2 ^ 64) ||| (b / 2 ^ 32 ||| (b * 2 ^ 32) % 2 ^ 64)
  rw [← Nat.shiftRight_eq_div_pow, ← Nat.shiftRight_eq_div_pow, ← Nat.shiftRight_eq_div_pow, Nat.shiftRight_or_distrib, ← Nat.shiftLeft_eq, ← Nat.shiftLeft_eq, ← Nat.shiftLeft_eq, Nat.shiftLeft_or_distrib, Nat.or_mod_two_pow]
  exact or4 _ _ _ _
theorem revN_or (x y : Nat) : revN (x ||| y) = revN x ||| revN y := by
  have h1 : ∀ x y, sw 2 6148914691236517205 (x ||| y) = _ := sw_or 1 6148914691236517205
  have h2 : ∀ x y, sw 4 3689348814741910323 (x ||| y) = _ := sw_or 2 3689348814741910323
  have h4 : ∀ x y, sw 16 1085102592571150095 (x ||| y) = _ := sw_or 4 1085102592571150095
  have h8 : ∀ x y, sw 256 71777214294589695 (x ||| y) = _ := sw_or 8 71777214294589695
  have h16 : ∀ x y, sw 65536 281470681808895 (x ||| y) = _ := sw_or 16 281470681808895
  have e1 : (2 : Nat) ^ 1 = 2 := rfl
  have e2 : (2 : Nat) ^ 2 = 4 := rfl
  have e4 : (2 : Nat) ^ 4 = 16 := rfl
  have e8 : (2 : Nat) ^ 8 = 256 := rfl
  have e16 : (2 : Nat) ^ 16 = 65536 := rfl
  unfold revN
  rw [h1, e1, h2, e2, h4, e4, h8, e8, h16, e16, sw32_or]
theorem revN_rev : ∀ (k x : Nat), k ≤ 16 → x < 2 ^ k → revN x = rev k x * 2 ^ (64 - k)
  | 0, x, _, h => by
    obtain rfl : x = 0 := by simp at h; omega
    rfl
  | k + 1, x, hk, h => by
    have e64 : 64 - k = (63 - k) + 1 := by omega
    have e63 : 64 - (k + 1) = 63 - k := by omega
    rw [e63]
    rcases Nat.lt_or_ge x (2 ^ k) with h' | h'
    · rw [revN_rev k x (by omega) h', (rev_top k x h').2, e64, Nat.pow_succ, Nat.mul_comm 2, Nat.mul_assoc, Nat.mul_comm 2]
    · obtain ⟨y, rfl⟩ : ∃ y, x = 2 ^ k + y := ⟨x - 2 ^ k, by omega⟩
      have hy : y < 2 ^ k := by rw [Nat.pow_succ] at h; omega
      have e1 : 2 ^ k + y = 2 ^ k ||| y := by have := Nat.two_pow_add_eq_or_of_lt hy 1; rwa [Nat.mul_one] at this
      rw [(rev_top k y hy).1, e1, revN_or, revN_one (by omega), revN_rev k y (by omega) hy]
      have hb : 2 ^ (63 - k) < 2 ^ (64 - k) := Nat.pow_lt_pow_right (by omega) (by omega)
      have e2 := Nat.two_pow_add_eq_or_of_lt hb (rev k y)
      rw [Nat.or_comm, Nat.mul_comm (rev k y), ← e2, e64, Nat.pow_succ, Nat.add_mul, Nat.one_mul]
      congr 1
      rw [Nat.mul_comm 2, Nat.mul_assoc, Nat.mul_comm, Nat.mul_comm 2]
theorem rev_shift {k i : Nat} (hk : k ≤ 16) (hi : i < 2 ^ k) : revN i / 2 ^ (64 - k) = rev k i := by
  rw [revN_rev k i hk hi]
  exact Nat.mul_div_cancel _ (Nat.two_pow_pos _)
end Go.Proofs.YtjgdbfhpjjmjkaaDoor
