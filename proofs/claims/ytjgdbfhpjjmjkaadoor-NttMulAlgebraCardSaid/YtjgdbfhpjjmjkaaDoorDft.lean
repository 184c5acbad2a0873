/- The discrete Fourier transform over a field: inversion; the fast transform's recursion; bit reversal. No program in sight. -/
import Derived.Test.YtjgdbfhpjjmjkaaDoorPol
namespace Att
open CRing
section
variable {K : Type} [Fld K]

theorem geom' (u : K) (n : Nat) : (u - 1) * sm n (fun i => pw u i) = pw u n - 1 := by
  induction n with
  | zero => rw [sm_zero, mul_zero, pw_zero, sub_self]
  | succ n ih =>
    rw [sm_succ, mul_add, ih, pw_succ]
    exact ring_of [u, pw u n] (v1 - 1 + (v0 - 1) * v1) (v1 * v0 - 1) rfl
theorem geom_zero (u : K) (n : Nat) (h1 : u ≠ 1) (hn : pw u n = 1) : sm n (fun i => pw u i) = 0 := by
  have e := geom' u n
  rw [hn, sub_self] at e
  rcases mul_eq_zero.1 e with e | e
  · exact absurd (eq_of_sub e) h1
  · exact e
theorem sm_const (n : Nat) (c : K) : sm n (fun _ => c) = nat n * c := by
  induction n with
  | zero => rw [sm_zero]; exact (zero_mul c).symm
  | succ n ih => rw [sm_succ, ih, nat, add_mul, one_mul]

/-- w is a root of unity of order n -/
structure Prim (w : K) (n : Nat) : Prop where
  pos : 0 < n
  one : pw w n = 1
  inj : ∀ i j, i < n → j < n → pw w i = pw w j → i = j
theorem Prim.ne_zero {w : K} {n : Nat} (h : Prim w n) : w ≠ 0 := by
  intro e
  have := h.one
  rw [e, zero_pw n h.pos] at this
  exact Fld.zero_ne_one this
theorem pw_inv {w : K} (hw : w ≠ 0) (n : Nat) : pw w n * pw (Fld.inv w) n = 1 := by rw [← mul_pw, Fld.mul_inv w hw, one_pw]
theorem inv_pw (w : K) (n : Nat) : Fld.inv (pw w n) = pw (Fld.inv w) n := by
  induction n with
  | zero => exact (inv_unique (mul_one 1)).symm
  | succ n ih => rw [pw_succ, pw_succ, inv_mul, ih]
theorem Prim.inv {w : K} {n : Nat} (h : Prim w n) : Prim (Fld.inv w) n where
  pos := h.pos
  one := by rw [← inv_pw, h.one]; exact (inv_unique (mul_one 1)).symm
  inj i j hi hj e := by
    apply h.inj i j hi hj
    rw [← inv_pw, ← inv_pw] at e
    rw [← inv_inv (pw w i), e, inv_inv]

def dft (n : Nat) (w : K) (a : Nat → K) (i : Nat) : K := sm n fun j => a j * pw w (i * j)
theorem dft_ev (l : List K) (n : Nat) (h : l.length ≤ n) (w : K) (i : Nat) : dft n w (co l) i = ev l (pw w i) := by
  rw [ev_sum l _ n h]
  exact sm_congr fun j _ => by rw [pw_mul]
theorem dft_congr {n : Nat} {w : K} {a b : Nat → K} (h : ∀ j, j < n → a j = b j) (i : Nat) : dft n w a i = dft n w b i :=
  sm_congr fun j hj => by rw [h j hj]
/-- the transform and the transform at the inverse root give n times what was there -/
theorem dft_dft {w : K} {n : Nat} (h : Prim w n) (a : Nat → K) (l : Nat) (hl : l < n) : dft n (Fld.inv w) (dft n w a) l = nat n * a l := by
  have hw := h.ne_zero
  unfold dft
  have e1 : sm n (fun i => sm n (fun j => a j * pw w (i * j)) * pw (Fld.inv w) (l * i)) = sm n (fun i => sm n (fun j => a j * pw (pw w j * pw (Fld.inv w) l) i)) :=
    sm_congr fun i _ => by
      rw [← sm_mul_right]
      exact sm_congr fun j _ => by rw [mul_pw, ← pw_mul, ← pw_mul, Nat.mul_comm i j, mul_assoc]
  rw [e1, sm_swap, sm_single l hl]
  · rw [pw_inv hw l, sm_congr (g := fun _ => a l) (fun i _ => by rw [one_pw, mul_one]), sm_const]
  · intro j hj hne
    rw [sm_mul, geom_zero, mul_zero]
    · intro e
      apply hne
      apply h.inj j l hj hl
      have e2 : pw w j * pw (Fld.inv w) l * pw w l = pw w l := by rw [e, one_mul]
      rwa [mul_assoc, mul_comm (pw (Fld.inv w) l), pw_inv hw l, mul_one] at e2
    · rw [mul_pw, ← pw_mul, ← pw_mul, Nat.mul_comm j, Nat.mul_comm l, pw_mul, pw_mul, h.one, h.inv.one, one_pw, one_pw, mul_one]
theorem dft_dft' {w : K} {n : Nat} (h : Prim w n) (a : Nat → K) (l : Nat) (hl : l < n) : dft n w (dft n (Fld.inv w) a) l = nat n * a l := by
  have := dft_dft h.inv a l hl
  rwa [inv_inv] at this
theorem dft_mul (n : Nat) (w c : K) (a : Nat → K) (i : Nat) : dft n w (fun j => a j * c) i = dft n w a i * c := by
  unfold dft
  rw [← sm_mul_right]
  exact sm_congr fun j _ => by rw [mul_assoc, mul_comm c, ← mul_assoc]
theorem dft_add (n : Nat) (w : K) (a b : Nat → K) (i : Nat) : dft n w (fun j => a j + b j) i = dft n w a i + dft n w b i := by
  unfold dft
  rw [← sm_add]
  exact sm_congr fun j _ => add_mul _ _ _

/-- even and odd coefficients -/
theorem sm_even_odd (m : Nat) (f : Nat → K) : sm (2 * m) f = sm m (fun j => f (2 * j)) + sm m (fun j => f (2 * j + 1)) := by
  induction m with
  | zero => rw [Nat.mul_zero, sm_zero, sm_zero, sm_zero, add_zero]
  | succ m ih =>
    rw [show 2 * (m + 1) = 2 * m + 1 + 1 from by omega, sm_succ, sm_succ, ih, sm_succ, sm_succ]
    exact ring_of [sm m (fun j => f (2 * j)), sm m (fun j => f (2 * j + 1)), f (2 * m), f (2 * m + 1)] (v0 + v1 + v2 + v3) (v0 + v2 + (v1 + v3)) rfl
/-- the butterfly: the lower and the upper half of a transform of twice the length -/
theorem dft_low (m : Nat) (w : K) (a : Nat → K) (i : Nat) :
    dft (2 * m) w a i = dft m (w * w) (fun j => a (2 * j)) i + dft m (w * w) (fun j => a (2 * j + 1)) i * pw w i := by
  unfold dft
  rw [sm_even_odd, ← sm_mul_right]
  congr 1
  · exact sm_congr fun j _ => by rw [← pw_two, ← pw_mul]; congr 2; rw [Nat.mul_left_comm]
  · exact sm_congr fun j _ => by
      rw [← pw_two, ← pw_mul, mul_assoc, ← pw_add]; congr 2
      rw [Nat.mul_add, Nat.mul_left_comm, Nat.mul_one]
theorem dft_high (m : Nat) (w : K) (hw : pw w m = -1) (a : Nat → K) (i : Nat) :
    dft (2 * m) w a (m + i) = dft m (w * w) (fun j => a (2 * j)) i - dft m (w * w) (fun j => a (2 * j + 1)) i * pw w i := by
  have h2 : pw (w * w) m = 1 := by rw [mul_pw, hw, neg_one_sq]
  rw [dft_low]
  have e : ∀ b : Nat → K, dft m (w * w) b (m + i) = dft m (w * w) b i := by
    intro b
    unfold dft
    exact sm_congr fun j _ => by rw [Nat.add_mul, pw_add, pw_mul, h2, one_pw, one_mul]
  rw [e, e, pw_add, hw]
  exact ring_of [dft m (w * w) (fun j => a (2 * j)) i, dft m (w * w) (fun j => a (2 * j + 1)) i, pw w i] (v0 + v1 * (-1 * v2)) (v0 - v1 * v2) rfl
end

/- bit reversal of k bits -/
def rev : Nat → Nat → Nat
  | 0, _ => 0
  | k + 1, i => (i % 2) * 2 ^ k + rev k (i / 2)
theorem rev_lt : ∀ (k i : Nat), rev k i < 2 ^ k
  | 0, _ => by simp [rev]
  | k + 1, i => by
    have := rev_lt k (i / 2)
    rw [rev, Nat.pow_succ]
    rcases Nat.mod_two_eq_zero_or_one i with h | h <;> rw [h] <;> omega
theorem rev_even (k i : Nat) : rev (k + 1) (2 * i) = rev k i := by
  rw [rev, show 2 * i % 2 = 0 from by omega, show 2 * i / 2 = i from by omega]; omega
theorem rev_odd (k i : Nat) : rev (k + 1) (2 * i + 1) = 2 ^ k + rev k i := by
  rw [rev, show (2 * i + 1) % 2 = 1 from by omega, show (2 * i + 1) / 2 = i from by omega]; omega
/-- from the other end -/
theorem rev_top : ∀ (k i : Nat), i < 2 ^ k → rev (k + 1) (2 ^ k + i) = 2 * rev k i + 1 ∧ rev (k + 1) i = 2 * rev k i
  | 0, i, h => by
    have : i = 0 := by simp at h; omega
    subst this; exact ⟨rfl, rfl⟩
  | k + 1, i, h => by
    rw [Nat.pow_succ] at h
    have h2 : i / 2 < 2 ^ k := by omega
    obtain ⟨e1, e2⟩ := rev_top k (i / 2) h2
    constructor
    · rw [rev, show (2 ^ (k + 1) + i) / 2 = 2 ^ k + i / 2 from by rw [Nat.pow_succ]; omega, e1,
        show (2 ^ (k + 1) + i) % 2 = i % 2 from by rw [Nat.pow_succ]; omega, rev, Nat.pow_succ]
      rcases Nat.mod_two_eq_zero_or_one i with h | h <;> rw [h] <;> omega
    · rw [rev, e2, rev, Nat.pow_succ]
      rcases Nat.mod_two_eq_zero_or_one i with h | h <;> rw [h] <;> omega
theorem rev_rev : ∀ (k i : Nat), i < 2 ^ k → rev k (rev k i) = i
  | 0, i, h => by simp at h; subst h; rfl
  | k + 1, i, h => by
    have hl := rev_lt k (i / 2)
    rw [Nat.pow_succ] at h
    have ih := rev_rev k (i / 2) (by omega)
    obtain ⟨e1, e2⟩ := rev_top k (rev k (i / 2)) hl
    have e : rev (k + 1) i = (i % 2) * 2 ^ k + rev k (i / 2) := rfl
    rw [e]
    rcases Nat.mod_two_eq_zero_or_one i with h0 | h0
    · rw [h0, Nat.zero_mul, Nat.zero_add, e2, ih]; omega
    · rw [h0, Nat.one_mul, e1, ih]; omega

/- the fast transform -/
section
variable {K : Type} [Fld K]
/-- what stands at place x behind the stage s of a transform of 2^k values: block x / 2^s holds the transform of every 2^(k-s)-th value from the reversed block's number on -/
def stage (k s : Nat) (w : Nat → K) (a : Nat → K) (x : Nat) : K :=
  dft (2 ^ s) (w s) (fun j => a (rev (k - s) (x / 2 ^ s) + 2 ^ (k - s) * j)) (x % 2 ^ s)
theorem stage_zero (k : Nat) (w a : Nat → K) (x : Nat) : stage k 0 w a x = a (rev k x) := by
  unfold stage dft
  rw [Nat.pow_zero, Nat.div_one, Nat.mod_one, sm_succ, sm_zero, zero_add, Nat.zero_mul, pw_zero, mul_one]
  show a (rev (k - 0) x + 2 ^ (k - 0) * 0) = a (rev k x)
  rw [Nat.mul_zero, Nat.add_zero, Nat.sub_zero]
theorem stage_last (k : Nat) (w a : Nat → K) (x : Nat) (hx : x < 2 ^ k) : stage k k w a x = dft (2 ^ k) (w k) a x := by
  unfold stage
  rw [Nat.sub_self, Nat.mod_eq_of_lt hx]
  apply dft_congr
  intro j _
  congr 1
  show 0 + 2 ^ 0 * j = j
  omega
/-- a stage out of the one before: block t of the stage s + 1, place i -/
theorem stage_step (k s : Nat) (w : Nat → K) (hs : s < k) (hw : w (s + 1) * w (s + 1) = w s) (hm : pw (w (s + 1)) (2 ^ s) = -1) (a : Nat → K) (t i : Nat) (hi : i < 2 ^ s) :
    stage k (s + 1) w a (t * 2 ^ (s + 1) + i) = stage k s w a (t * 2 ^ (s + 1) + i) + stage k s w a (t * 2 ^ (s + 1) + 2 ^ s + i) * pw (w (s + 1)) i ∧
    stage k (s + 1) w a (t * 2 ^ (s + 1) + 2 ^ s + i) = stage k s w a (t * 2 ^ (s + 1) + i) - stage k s w a (t * 2 ^ (s + 1) + 2 ^ s + i) * pw (w (s + 1)) i := by
  have hp : 0 < 2 ^ s := Nat.two_pow_pos s
  have p2 : 2 ^ (s + 1) = 2 * 2 ^ s := by rw [Nat.pow_succ]; omega
  have d1 : (t * 2 ^ (s + 1) + i) / 2 ^ (s + 1) = t := by rw [Nat.add_comm, Nat.add_mul_div_right _ _ (by omega), Nat.div_eq_of_lt (by omega), Nat.zero_add]
  have d2 : (t * 2 ^ (s + 1) + 2 ^ s + i) / 2 ^ (s + 1) = t := by rw [Nat.add_assoc, Nat.add_comm, Nat.add_mul_div_right _ _ (by omega), Nat.div_eq_of_lt (by omega), Nat.zero_add]
  have m1 : (t * 2 ^ (s + 1) + i) % 2 ^ (s + 1) = i := by rw [Nat.add_comm, Nat.add_mul_mod_self_right, Nat.mod_eq_of_lt (by omega)]
  have m2 : (t * 2 ^ (s + 1) + 2 ^ s + i) % 2 ^ (s + 1) = 2 ^ s + i := by rw [Nat.add_assoc, Nat.add_comm, Nat.add_mul_mod_self_right, Nat.mod_eq_of_lt (by omega)]
  have c1 : t * 2 ^ (s + 1) + i = i + 2 * t * 2 ^ s := by rw [p2, ← Nat.mul_assoc, Nat.mul_comm t 2]; omega
  have c2 : t * 2 ^ (s + 1) + 2 ^ s + i = i + (2 * t + 1) * 2 ^ s := by rw [p2, ← Nat.mul_assoc, Nat.mul_comm t 2, Nat.add_mul]; omega
  have d3 : (t * 2 ^ (s + 1) + i) / 2 ^ s = 2 * t := by rw [c1, Nat.add_mul_div_right _ _ hp, Nat.div_eq_of_lt hi, Nat.zero_add]
  have d4 : (t * 2 ^ (s + 1) + 2 ^ s + i) / 2 ^ s = 2 * t + 1 := by rw [c2, Nat.add_mul_div_right _ _ hp, Nat.div_eq_of_lt hi, Nat.zero_add]
  have m3 : (t * 2 ^ (s + 1) + i) % 2 ^ s = i := by rw [c1, Nat.add_mul_mod_self_right, Nat.mod_eq_of_lt hi]
  have m4 : (t * 2 ^ (s + 1) + 2 ^ s + i) % 2 ^ s = i := by rw [c2, Nat.add_mul_mod_self_right, Nat.mod_eq_of_lt hi]
  have ks : k - s = (k - (s + 1)) + 1 := by omega
  have q1 : (fun j => a (rev (k - s) (2 * t) + 2 ^ (k - s) * j)) = fun j => a (rev (k - (s + 1)) t + 2 ^ (k - (s + 1)) * (2 * j)) := by
    funext j; rw [ks, rev_even, Nat.pow_succ, Nat.mul_assoc]
  have q2 : (fun j => a (rev (k - s) (2 * t + 1) + 2 ^ (k - s) * j)) = fun j => a (rev (k - (s + 1)) t + 2 ^ (k - (s + 1)) * (2 * j + 1)) := by
    funext j; congr 1; rw [ks, rev_odd, Nat.pow_succ, Nat.mul_assoc, Nat.mul_add]; omega
  unfold stage
  rw [d1, d2, m1, m2, d3, d4, m3, m4, q1, q2, p2, ← hw]
  exact ⟨dft_low _ _ _ _, dft_high _ _ hm _ _⟩
end
/-- the roots of the field are primitive -/
theorem root_prim (k : Nat) (h : k ≤ 32) : Prim (root k) (2 ^ k) where
  pos := Nat.two_pow_pos k
  one := root_full k h
  inj i j hi hj e := by
    cases k with
    | zero => simp at hi hj; omega
    | succ k => exact pow_inj (root (k + 1)) k (root_half k (by omega)) one_ne_neg i j hi hj e
end Att
