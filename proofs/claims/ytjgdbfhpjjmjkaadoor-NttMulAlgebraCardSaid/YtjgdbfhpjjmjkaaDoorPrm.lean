/- Residues modulo m as a ring; the number P = 2^64 - 2^32 + 1 is a prime; the field F of P elements: Fermat, inverses, roots of unity. No program in sight. -/
import Derived.Test.YtjgdbfhpjjmjkaaDoorAlg
namespace Att
open CRing

structure Zm (m : Nat) where
  n : Nat
  lt : n < m

namespace Zm
variable {m : Nat}
theorem ext {a b : Zm m} (h : a.n = b.n) : a = b := by cases a; cases b; cases h; rfl
instance : DecidableEq (Zm m) := fun a b => if h : a.n = b.n then isTrue (ext h) else isFalse fun e => h (e ▸ rfl)
variable [NeZero m]
theorem pos : 0 < m := Nat.pos_of_ne_zero (NeZero.ne m)
def of (x : Nat) : Zm m := ⟨x % m, Nat.mod_lt _ pos⟩
theorem of_n (a : Zm m) : of a.n = a := ext (Nat.mod_eq_of_lt a.lt)
theorem n_of (x : Nat) : (of x : Zm m).n = x % m := rfl
instance : Zero (Zm m) := ⟨of 0⟩
instance : One (Zm m) := ⟨of 1⟩
instance : Add (Zm m) := ⟨fun a b => of (a.n + b.n)⟩
instance : Mul (Zm m) := ⟨fun a b => of (a.n * b.n)⟩
instance : Neg (Zm m) := ⟨fun a => of (m - a.n)⟩
instance : Sub (Zm m) := ⟨fun a b => of (a.n + (m - b.n))⟩
theorem n_add (a b : Zm m) : (a + b).n = (a.n + b.n) % m := rfl
theorem n_mul (a b : Zm m) : (a * b).n = (a.n * b.n) % m := rfl
theorem n_neg (a : Zm m) : (-a).n = (m - a.n) % m := rfl
theorem n_sub (a b : Zm m) : (a - b).n = (a.n + (m - b.n)) % m := rfl
theorem n_zero : (0 : Zm m).n = 0 := Nat.zero_mod m
theorem n_one : (1 : Zm m).n = 1 % m := rfl
theorem of_add (x y : Nat) : (of (x + y) : Zm m) = of x + of y := ext (by simp [n_of, n_add])
theorem of_mul (x y : Nat) : (of (x * y) : Zm m) = of x * of y := ext (by simp [n_of, n_mul])
theorem of_mod (x : Nat) : (of (x % m) : Zm m) = of x := ext (by simp [n_of])
theorem of_m : (of m : Zm m) = 0 := ext (by simp [n_of, n_zero])
theorem mul_comm' (a b : Zm m) : a * b = b * a := ext (by simp [n_mul, Nat.mul_comm])
instance : CRing (Zm m) where
  add_assoc a b c := ext (by simp [n_add, Nat.add_assoc])
  add_comm a b := ext (by simp [n_add, Nat.add_comm])
  add_zero a := ext (by simp [n_add, n_zero, Nat.mod_eq_of_lt a.lt])
  add_neg a := ext (by
    rw [n_add, n_neg, n_zero, Nat.add_mod_mod, Nat.add_sub_cancel' (Nat.le_of_lt a.lt), Nat.mod_self])
  sub_eq a b := ext (by rw [n_sub, n_add, n_neg, Nat.add_mod_mod])
  mul_assoc a b c := ext (by simp [n_mul, Nat.mul_assoc])
  mul_comm := mul_comm'
  mul_one a := ext (by
    rw [n_mul, n_one, Nat.mul_mod_mod, Nat.mul_one, Nat.mod_eq_of_lt a.lt])
  mul_add a b c := ext (by simp [n_add, n_mul, Nat.mul_add])
theorem nat_eq (x : Nat) : (nat x : Zm m) = of x := by
  induction x with
  | zero => rfl
  | succ x ih => rw [nat, ih, of_add]; rfl
theorem of_pow (x k : Nat) : (of (x ^ k) : Zm m) = pw (of x) k := by
  induction k with
  | zero => rfl
  | succ k ih => rw [Nat.pow_succ, of_mul, ih, pw_succ]
/-- the numbers below m that the element can be told from 0 by -/
theorem of_eq_zero (x : Nat) : (of x : Zm m) = 0 ↔ m ∣ x := by
  constructor
  · intro h
    have := congrArg Zm.n h
    rw [n_of, n_zero] at this
    exact Nat.dvd_of_mod_eq_zero this
  · intro h
    exact ext (by rw [n_of, n_zero]; exact Nat.mod_eq_zero_of_dvd h)
end Zm

/- ───── squaring again and again ───── -/
def sqs (m : Nat) : Nat → Nat → Nat
  | 0, b => b % m
  | k + 1, b => (sqs m k b * sqs m k b) % m
def sqsF (m : Nat) : Nat → Nat → Nat
  | 0, b => b
  | k + 1, b => sqsF m k (b * b % m)
theorem sqsF_eq {m : Nat} [NeZero m] : ∀ (k b : Nat), (Zm.of (sqsF m k b) : Zm m) = pw (Zm.of b) (2 ^ k)
  | 0, b => (pw_one _).symm
  | k + 1, b => by
    rw [sqsF, sqsF_eq k, Zm.of_mod, Zm.of_mul, ← pw_two, ← pw_mul, Nat.pow_succ, Nat.mul_comm]

theorem two_pow_split : ∀ (d : Nat), 0 < d → ∃ s t, d = 2 ^ s * (2 * t + 1) := by
  intro d
  induction d using Nat.strongRecOn with
  | _ d ih =>
    intro hd
    by_cases h : d % 2 = 0
    · obtain ⟨s, t, e⟩ := ih (d / 2) (by omega) (by omega)
      refine ⟨s + 1, t, ?_⟩
      rw [Nat.pow_succ, Nat.mul_comm (2 ^ s), Nat.mul_assoc, ← e]; omega
    · exact ⟨0, d / 2, by omega⟩

/-- in a ring where 2 is not 0, an element whose power 2^k is -1 has 2^(k+1) different powers -/
theorem pow_order {K : Type} [CRing K] (b : K) (k : Nat) (hb : pw b (2 ^ k) = -1) (h2 : (1 : K) ≠ -1) (d : Nat) (h0 : 0 < d) (hd : d < 2 ^ (k + 1)) :
    pw b d ≠ 1 := by
  intro h
  obtain ⟨s, t, rfl⟩ := two_pow_split d h0
  have hs : s ≤ k := by
    have h1 : 2 ^ s ≤ 2 ^ s * (2 * t + 1) := Nat.le_mul_of_pos_right _ (by omega)
    have h3 : 2 ^ s < 2 ^ (k + 1) := by omega
    have := (Nat.pow_lt_pow_iff_right (a := 2) (by omega)).1 h3
    omega
  have e : pw (pw b (2 ^ s * (2 * t + 1))) (2 ^ (k - s)) = -1 := by
    rw [← pw_mul]
    have : 2 ^ s * (2 * t + 1) * 2 ^ (k - s) = 2 ^ k * (2 * t + 1) := by
      rw [Nat.mul_assoc, Nat.mul_comm (2 * t + 1), ← Nat.mul_assoc, ← Nat.pow_add, show s + (k - s) = k from by omega]
    rw [this, pw_mul, hb, neg_one_odd]
  rw [h, one_pw] at e
  exact h2 e

theorem pow_inj {K : Type} [CRing K] (b : K) (k : Nat) (hb : pw b (2 ^ k) = -1) (h2 : (1 : K) ≠ -1) (i j : Nat) (hi : i < 2 ^ (k + 1)) (hj : j < 2 ^ (k + 1))
    (h : pw b i = pw b j) : i = j := by
  have hall : pw b (2 ^ (k + 1)) = 1 := by rw [Nat.pow_succ, pw_mul, hb, pw_two, neg_one_sq]
  have key : ∀ i j : Nat, i < j → j < 2 ^ (k + 1) → pw b i ≠ pw b j := by
    intro i j hij hj h
    apply pow_order b k hb h2 (j - i) (by omega) (by omega)
    have h3 : pw b i * pw b (2 ^ (k + 1) - i) = pw b j * pw b (2 ^ (k + 1) - i) := by rw [h]
    rw [← pw_add, ← pw_add, show i + (2 ^ (k + 1) - i) = 2 ^ (k + 1) from by omega, hall,
      show j + (2 ^ (k + 1) - i) = 2 ^ (k + 1) + (j - i) from by omega, pw_add, hall, one_mul] at h3
    exact h3.symm
  rcases Nat.lt_trichotomy i j with h' | h' | h'
  · exact absurd h (key i j h' hj)
  · exact h'
  · exact absurd h.symm (key j i h' hi)

theorem nodup_map {α : Type} {f : Nat → α} : ∀ (N : Nat), (∀ i j, i < N → j < N → f i = f j → i = j) → ((List.range N).map f).Nodup := by
  intro N h
  rw [List.Nodup, List.pairwise_map]
  have hr : (List.range N).Nodup := List.nodup_range
  refine List.Pairwise.imp_of_mem ?_ hr
  intro a b ha hb hne he
  exact hne (h a b (List.mem_range.1 ha) (List.mem_range.1 hb) he)

theorem pigeon (N q : Nat) (f : Nat → Nat) (hlt : ∀ i, i < N → f i < q) (hinj : ∀ i j, i < N → j < N → f i = f j → i = j) : N ≤ q := by
  have h := List.Nodup.length_le_of_subset (nodup_map N hinj) (l₂ := List.range q) (by
    intro x hx
    obtain ⟨i, hi, rfl⟩ := List.mem_map.1 hx
    exact List.mem_range.2 (hlt i (List.mem_range.1 hi)))
  simpa using h

def P : Nat := 18446744069414584321
theorem P_eq : P = 18446744069414584321 := rfl
instance : NeZero P := ⟨by decide⟩
theorem P_pos : 0 < P := by decide

theorem neg_one_below (b N q : Nat) [NeZero q] (h : (Zm.of (P - 1) : Zm P) = pw (Zm.of b) N) (hq : q ∣ P) : pw (Zm.of b : Zm q) N = -1 := by
  have e3 := congrArg Zm.n h
  rw [← Zm.of_pow, Zm.n_of, Zm.n_of] at e3
  rw [← Zm.of_pow]
  apply eq_neg_of
  have e4 : (1 : Zm q) = Zm.of 1 := rfl
  rw [e4, ← Zm.of_add, Zm.of_eq_zero]
  refine Nat.dvd_trans hq ?_
  have e5 : (b ^ N % P + 1) % P = 0 := by rw [← e3]; decide
  rw [Nat.mod_add_mod, Nat.add_comm] at e5
  exact Nat.dvd_of_mod_eq_zero e5
theorem base_root : (Zm.of (P - 1) : Zm P) = pw (Zm.of 1753635133440165772) (2 ^ 31) := by
  have e : (Zm.of (sqsF P 31 1753635133440165772) : Zm P) = pw (Zm.of 1753635133440165772) (2 ^ 31) := sqsF_eq 31 _
  have e2 : sqsF P 31 1753635133440165772 = P - 1 := by decide
  rwa [e2] at e

/-- a divisor of P other than 1 is at least 2^32 -/
theorem div_big (q : Nat) (hq : q ∣ P) (h1 : q ≠ 1) : 2 ^ 32 ≤ q := by
  have hq0 : 0 < q := Nat.pos_of_dvd_of_pos hq P_pos
  have : NeZero q := ⟨by omega⟩
  let b : Zm q := Zm.of 1753635133440165772
  have hb : pw b (2 ^ 31) = -1 := neg_one_below _ _ q base_root hq
  have h2 : (1 : Zm q) ≠ -1 := by
    intro h
    have e : (1 : Zm q) + 1 = 0 := by conv => lhs; rhs; rw [h]
                                      exact add_neg 1
    have e4 : (1 : Zm q) = Zm.of 1 := rfl
    rw [e4, ← Zm.of_add, Zm.of_eq_zero] at e
    have h3 : q ≤ 2 := Nat.le_of_dvd (by omega) e
    have h4 : q = 2 := by omega
    subst h4
    revert hq; decide
  refine pigeon (2 ^ 32) q (fun i => (pw b i).n) (fun i _ => (pw b i).lt) ?_
  intro i j hi hj h
  exact pow_inj b 31 hb h2 i j hi hj (Zm.ext h)

theorem P_prime (d : Nat) (h : d ∣ P) : d = 1 ∨ d = P := by
  by_cases h1 : d = 1
  · exact .inl h1
  · right
    obtain ⟨r, hr⟩ := h
    have hd : 2 ^ 32 ≤ d := div_big d ⟨r, hr⟩ h1
    by_cases h2 : r = 1
    · rw [hr, h2, Nat.mul_one]
    · have h3 : 2 ^ 32 ≤ r := div_big r ⟨d, by rw [hr, Nat.mul_comm]⟩ h2
      have h4 : 2 ^ 32 * 2 ^ 32 ≤ d * r := Nat.mul_le_mul hd h3
      rw [← hr] at h4
      exact absurd h4 (by decide)

theorem P_coprime (a : Nat) (h : ¬ P ∣ a) : Nat.gcd P a = 1 := by
  rcases P_prime _ (Nat.gcd_dvd_left P a) with e | e
  · exact e
  · exact absurd (e ▸ Nat.gcd_dvd_right P a) h

theorem P_dvd_mul (x y : Nat) (h : P ∣ x * y) : P ∣ x ∨ P ∣ y := by
  by_cases hx : P ∣ x
  · exact .inl hx
  · exact .inr (Nat.Coprime.dvd_of_dvd_mul_left (P_coprime x hx) h)

abbrev F : Type := Zm P

/-- a field: a ring without zero divisors, in which 0 is not 1, each element but 0 having an inverse -/
class Fld (K : Type) extends CRing K where
  inv : K → K
  zero_ne_one : (0 : K) ≠ 1
  mul_inv : ∀ a : K, a ≠ 0 → a * inv a = 1
  inv_zero : inv 0 = 0
  deq : DecidableEq K

instance (K : Type) [Fld K] : DecidableEq K := Fld.deq

section
variable {K : Type} [Fld K]
open Fld
theorem mul_eq_zero {a b : K} : a * b = 0 ↔ a = 0 ∨ b = 0 := by
  constructor
  · intro h
    by_cases ha : a = 0
    · exact .inl ha
    · right
      have : inv a * (a * b) = 0 := by rw [h, mul_zero]
      rwa [← mul_assoc, mul_comm (inv a), mul_inv a ha, one_mul] at this
  · rintro (h | h)
    · rw [h, zero_mul]
    · rw [h, mul_zero]
theorem mul_ne_zero {a b : K} (ha : a ≠ 0) (hb : b ≠ 0) : a * b ≠ 0 := fun h => (mul_eq_zero.1 h).elim ha hb
theorem inv_ne_zero {a : K} (ha : a ≠ 0) : inv a ≠ 0 := fun h => by
  have := mul_inv a ha; rw [h, mul_zero] at this; exact zero_ne_one this
theorem mul_left_cancel {a b c : K} (ha : a ≠ 0) (h : a * b = a * c) : b = c := by
  have : inv a * (a * b) = inv a * (a * c) := by rw [h]
  rwa [← mul_assoc, ← mul_assoc, mul_comm (inv a), mul_inv a ha, one_mul, one_mul] at this
theorem inv_unique {a b : K} (h : a * b = 1) : b = inv a := by
  have ha : a ≠ 0 := fun e => by rw [e, zero_mul] at h; exact zero_ne_one h
  exact mul_left_cancel ha (h.trans (mul_inv a ha).symm)
theorem inv_inv (a : K) : inv (inv a) = a := by
  by_cases ha : a = 0
  · rw [ha, inv_zero, inv_zero]
  · exact (inv_unique (by rw [mul_comm]; exact mul_inv a ha)).symm
theorem inv_mul (a b : K) : inv (a * b) = inv a * inv b := by
  by_cases ha : a = 0
  · rw [ha, zero_mul, inv_zero, zero_mul]
  by_cases hb : b = 0
  · rw [hb, mul_zero, inv_zero, mul_zero]
  symm; apply inv_unique
  rw [mul_assoc, mul_left_comm b, mul_inv b hb, mul_one, mul_inv a ha]
theorem pw_ne_zero {a : K} (ha : a ≠ 0) (n : Nat) : pw a n ≠ 0 := by
  induction n with
  | zero => exact fun h => zero_ne_one h.symm
  | succ n ih => exact mul_ne_zero ih ha
theorem sq_eq_one {a : K} (h : a * a = 1) : a = 1 ∨ a = -1 := by
  have : (a - 1) * (a - -1) = 0 := by
    have e : (a - 1) * (a - -1) = a * a - 1 := ring_of [a] ((v0 - 1) * (v0 - -1)) (v0 * v0 - 1) rfl
    rw [e, h, sub_self]
  rcases mul_eq_zero.1 this with h | h
  · exact .inl (eq_of_sub h)
  · exact .inr (eq_of_sub h)
end

/- ───── the field F ───── -/
namespace F
theorem nat_P : (nat P : F) = 0 := by rw [Zm.nat_eq, Zm.of_m]
theorem zero_ne_one : (0 : F) ≠ 1 := by decide
theorem no_zero_div (a b : F) (h : a * b = 0) : a = 0 ∨ b = 0 := by
  have h' : (Zm.of (a.n * b.n) : F) = 0 := h
  rw [Zm.of_eq_zero] at h'
  rcases P_dvd_mul _ _ h' with e | e
  · left; rw [← Zm.of_n a]; exact (Zm.of_eq_zero _).2 e
  · right; rw [← Zm.of_n b]; exact (Zm.of_eq_zero _).2 e
/-- Fermat: the power P of an element is the element -/
theorem fermat (a : F) : pw a P = a := by
  rw [← Zm.of_n a]
  generalize a.n = x
  induction x with
  | zero => exact zero_pw P P_pos
  | succ x ih => rw [Zm.of_add, frobenius P P_pos P_dvd_mul nat_P, ih, show (Zm.of 1 : F) = 1 from rfl, one_pw]
theorem fermat1 (a : F) (h : a ≠ 0) : pw a (P - 1) = 1 := by
  have e : pw a (P - 1) * a = a := by
    rw [← pw_succ]; exact fermat a
  have e2 : a * (pw a (P - 1) - 1) = 0 := by
    rw [sub_eq, mul_add, mul_comm, e, mul_neg, mul_one, add_neg]
  rcases no_zero_div _ _ e2 with h' | h'
  · exact absurd h' h
  · exact eq_of_sub h'
theorem mul_inv (a : F) (h : a ≠ 0) : a * pw a (P - 2) = 1 := by
  rw [mul_comm, ← pw_succ]; exact fermat1 a h
instance : Fld F where
  inv a := pw a (P - 2)
  zero_ne_one := zero_ne_one
  mul_inv := mul_inv
  inv_zero := zero_pw _ (by decide)
  deq := inferInstance
end F
theorem F.inv_def (a : F) : Fld.inv a = pw a (P - 2) := rfl

/-- squares by the exponent's bits, for numbers: x^n modulo P -/
def powF : Nat → Nat → Nat → Nat → Nat
  | 0, _, _, acc => acc
  | k + 1, b, n, acc => powF k (b * b % P) (n / 2) (if n % 2 = 1 then acc * b % P else acc)
theorem powF_eq : ∀ (k b n acc : Nat), n < 2 ^ k → (Zm.of (powF k b n acc) : F) = Zm.of acc * pw (Zm.of b) n
  | 0, b, n, acc, h => by
    have : n = 0 := by simp at h; omega
    subst this; rw [powF, pw_zero, mul_one]
  | k + 1, b, n, acc, h => by
    have hn : n / 2 < 2 ^ k := by rw [Nat.pow_succ] at h; omega
    rw [powF, powF_eq k _ _ _ hn, Zm.of_mod, Zm.of_mul, ← pw_two, ← pw_mul]
    split
    · rename_i h1
      have e : n = 2 * (n / 2) + 1 := by omega
      rw [Zm.of_mod, Zm.of_mul]
      conv => rhs; rw [e, pw_succ]
      rw [mul_assoc, mul_comm (pw _ _)]
    · rename_i h1
      have e : n = 2 * (n / 2) := by omega
      conv => rhs; rw [e]
/-- a power in F, by reckoning -/
theorem pow_by (b n c : Nat) (hn : n < 2 ^ 64) (h : powF 64 b n 1 % P = c) : pw (Zm.of b : F) n = Zm.of c := by
  have e := powF_eq 64 b n 1 hn
  rw [show (Zm.of 1 : F) = 1 from rfl, one_mul] at e
  rw [← e, ← h, Zm.of_mod]
theorem seven_half : pw (Zm.of 7 : F) 9223372034707292160 = -1 :=
  (pow_by 7 9223372034707292160 (P - 1) (by decide) (by decide)).trans rfl

/-- a primitive root of unity of order 2^k -/
def root (k : Nat) : F := pw (Zm.of 7) ((P - 1) / 2 ^ k)
theorem root_sq (k : Nat) (h : k < 32) : root (k + 1) * root (k + 1) = root k := by
  unfold root
  rw [← pw_two, ← pw_mul]
  congr 1
  have : k = 0 ∨ k = 1 ∨ k = 2 ∨ k = 3 ∨ k = 4 ∨ k = 5 ∨ k = 6 ∨ k = 7 ∨ k = 8 ∨ k = 9 ∨ k = 10 ∨ k = 11 ∨ k = 12 ∨ k = 13 ∨ k = 14 ∨ k = 15 ∨ k = 16 ∨ k = 17 ∨ k = 18 ∨ k = 19 ∨ k = 20 ∨ k = 21 ∨ k = 22 ∨ k = 23 ∨ k = 24 ∨ k = 25 ∨ k = 26 ∨ k = 27 ∨ k = 28 ∨ k = 29 ∨ k = 30 ∨ k = 31 := by omega
  rcases this with h | h | h | h | h | h | h | h | h | h | h | h | h | h | h | h | h | h | h | h | h | h | h | h | h | h | h | h | h | h | h | h <;> subst h <;> decide
theorem root_one : root 1 = -1 := by
  unfold root
  rw [show (P - 1) / 2 ^ 1 = 9223372034707292160 from by decide]; exact seven_half
theorem root_pow : ∀ (j k : Nat), k + j ≤ 32 → pw (root (k + j)) (2 ^ j) = root k
  | 0, k, _ => pw_one _
  | j + 1, k, h => by
    rw [Nat.pow_succ, Nat.mul_comm, pw_mul, pw_two, ← Nat.add_assoc, root_sq (k + j) (by omega)]
    exact root_pow j k (by omega)
theorem root_half (k : Nat) (h : k < 32) : pw (root (k + 1)) (2 ^ k) = -1 := by
  rw [Nat.add_comm, root_pow k 1 (by omega), root_one]
theorem root_full (k : Nat) (h : k ≤ 32) : pw (root k) (2 ^ k) = 1 := by
  cases k with
  | zero => rw [Nat.pow_zero, pw_one]; unfold root; rw [Nat.pow_zero, Nat.div_one]; exact F.fermat1 _ (by decide)
  | succ k => rw [Nat.pow_succ, pw_mul, root_half k (by omega), pw_two, neg_one_sq]
theorem one_ne_neg : (1 : F) ≠ -1 := by decide

/- ───── an element as an integer ───── -/
def Zm.i (a : F) : Int := (a.n : Int)
theorem i_nn (a : F) : 0 ≤ a.i := Int.natCast_nonneg _
theorem i_lt (a : F) : a.i < 18446744069414584321 := by
  have := a.lt; unfold P at this; unfold Zm.i; omega
theorem i_inj {a b : F} (h : a.i = b.i) : a = b := Zm.ext (by unfold Zm.i at h; omega)
theorem i_eq {a b : F} : a.i = b.i ↔ a = b := ⟨i_inj, fun h => by rw [h]⟩
theorem i_add (a b : F) : (a + b).i = (a.i + b.i) % 18446744069414584321 := by
  show (((a.n + b.n) % P : Nat) : Int) = _
  unfold P Zm.i; omega
theorem i_mul (a b : F) : (a * b).i = (a.i * b.i) % 18446744069414584321 := by
  show (((a.n * b.n) % P : Nat) : Int) = _
  unfold P Zm.i
  rw [← Int.natCast_mul]; omega
theorem i_neg (a : F) : (-a).i = (- a.i) % 18446744069414584321 := by
  have := a.lt; unfold P at this
  show (((P - a.n) % P : Nat) : Int) = _
  unfold P Zm.i; omega
theorem i_sub (a b : F) : (a - b).i = (a.i - b.i) % 18446744069414584321 := by
  have := b.lt; unfold P at this
  show (((a.n + (P - b.n)) % P : Nat) : Int) = _
  unfold P Zm.i; omega
theorem i_nat (x : Nat) : (nat x : F).i = (x : Int) % 18446744069414584321 := by
  rw [Zm.nat_eq]; show (((x % P : Nat)) : Int) = _; unfold P; omega
theorem i_int (x : Int) : (int x : F).i = x % 18446744069414584321 := by
  cases x with
  | ofNat n => exact i_nat n
  | negSucc n => show (- nat (n + 1) : F).i = _; rw [i_neg, i_nat]; omega
theorem i_zero : (0 : F).i = 0 := rfl
theorem i_one : (1 : F).i = 1 := rfl
/-- an integer in range is its own element's integer -/
theorem i_of (x : Int) (h0 : 0 ≤ x) (h : x < 18446744069414584321) : (int x : F).i = x := by rw [i_int]; omega
@[simp] theorem int_i (a : F) : (int a.i : F) = a := i_inj (by rw [i_int]; have := i_nn a; have := i_lt a; omega)
/-- the integers that stand for themselves -/
class In (x : Int) : Prop where
  nn : 0 ≤ x
  lt : x < 18446744069414584321
instance (a : F) : In a.i := ⟨i_nn a, i_lt a⟩
instance : In 0 := ⟨by omega, by omega⟩
instance : In 1 := ⟨by omega, by omega⟩
instance : In 2 := ⟨by omega, by omega⟩
instance : In 7 := ⟨by omega, by omega⟩
/-- the integers of 64 bits -/
class In64 (x : Int) : Prop where
  nn : 0 ≤ x
  lt : x < 18446744073709551616
instance (x : Int) [h : In x] : In64 x := ⟨h.nn, by have := h.lt; omega⟩
theorem i_in (x : Int) [h : In x] : (int x : F).i = x := i_of x h.nn h.lt
theorem i_add_int (x y : Int) : (int x + int y : F).i = (x + y) % 18446744069414584321 := by rw [← int_add, i_int]
theorem i_sub_int (x y : Int) : (int x - int y : F).i = (x - y) % 18446744069414584321 := by rw [← int_sub, i_int]
theorem i_mul_int (x y : Int) : (int x * int y : F).i = (x * y) % 18446744069414584321 := by rw [← int_mul, i_int]
theorem i_neg_int (x : Int) : (- int x : F).i = (- x) % 18446744069414584321 := by rw [← int_neg, i_int]
theorem int_n (x : Nat) : (int (x : Int) : F) = Zm.of x := Zm.nat_eq x
theorem int_P : (int 18446744069414584321 : F) = 0 := F.nat_P
end Att
