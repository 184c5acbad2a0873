/- Plain algebra: commutative rings with a small normalizer, sums over ranges, powers, the binomial theorem. No program in sight. -/
namespace Att

class CRing (K : Type) extends Add K, Mul K, Neg K, Sub K, Zero K, One K where
  add_assoc : ∀ a b c : K, a + b + c = a + (b + c)
  add_comm : ∀ a b : K, a + b = b + a
  add_zero : ∀ a : K, a + 0 = a
  add_neg : ∀ a : K, a + -a = 0
  sub_eq : ∀ a b : K, a - b = a + -b
  mul_assoc : ∀ a b c : K, a * b * c = a * (b * c)
  mul_comm : ∀ a b : K, a * b = b * a
  mul_one : ∀ a : K, a * 1 = a
  mul_add : ∀ a b c : K, a * (b + c) = a * b + a * c

namespace CRing
variable {K : Type} [CRing K]

theorem zero_add (a : K) : 0 + a = a := by rw [add_comm, add_zero]
theorem neg_add (a : K) : -a + a = 0 := by rw [add_comm, add_neg]
theorem one_mul (a : K) : 1 * a = a := by rw [mul_comm, mul_one]
theorem add_mul (a b c : K) : (a + b) * c = a * c + b * c := by rw [mul_comm, mul_add, mul_comm c, mul_comm c]
theorem add_left_cancel {a b c : K} (h : a + b = a + c) : b = c := by
  have h' : -a + (a + b) = -a + (a + c) := by rw [h]
  rwa [← add_assoc, ← add_assoc, neg_add, zero_add, zero_add] at h'
theorem add_right_cancel {a b c : K} (h : b + a = c + a) : b = c := by
  rw [add_comm b, add_comm c] at h; exact add_left_cancel h
theorem mul_zero (a : K) : a * 0 = 0 := by
  apply add_left_cancel (a := a * 0); rw [← mul_add, add_zero, add_zero]
theorem zero_mul (a : K) : 0 * a = 0 := by rw [mul_comm, mul_zero]
theorem eq_neg_of {a b : K} (h : a + b = 0) : b = -a := by
  apply add_left_cancel (a := a); rw [h, add_neg]
theorem neg_neg (a : K) : - -a = a := (eq_neg_of (neg_add a)).symm
theorem neg_zero : -(0 : K) = 0 := (eq_neg_of (add_zero 0)).symm
theorem neg_mul (a b : K) : -a * b = -(a * b) := by
  apply eq_neg_of; rw [← add_mul, add_neg, zero_mul]
theorem mul_neg (a b : K) : a * -b = -(a * b) := by rw [mul_comm, neg_mul, mul_comm]
theorem neg_add_rev (a b : K) : -(a + b) = -a + -b := by
  symm; apply eq_neg_of; rw [add_assoc, ← add_assoc b, add_comm b, add_assoc (-a), add_neg, add_zero, add_neg]
theorem add_left_comm (a b c : K) : a + (b + c) = b + (a + c) := by rw [← add_assoc, add_comm a, add_assoc]
theorem mul_left_comm (a b c : K) : a * (b * c) = b * (a * c) := by rw [← mul_assoc, mul_comm a, mul_assoc]
theorem sub_self (a : K) : a - a = 0 := by rw [sub_eq, add_neg]
theorem sub_zero (a : K) : a - 0 = a := by rw [sub_eq, neg_zero, add_zero]
theorem zero_sub (a : K) : 0 - a = -a := by rw [sub_eq, zero_add]
theorem sub_add_cancel (a b : K) : a - b + b = a := by rw [sub_eq, add_assoc, neg_add, add_zero]
theorem add_sub_cancel (a b : K) : a + b - b = a := by rw [sub_eq, add_assoc, add_neg, add_zero]
theorem eq_of_sub {a b : K} (h : a - b = 0) : a = b := by
  have := sub_add_cancel a b; rw [h, zero_add] at this; exact this.symm
theorem sub_eq_zero {a b : K} : a - b = 0 ↔ a = b := ⟨eq_of_sub, fun h => by rw [h, sub_self]⟩

/- natural numbers and integers in a ring -/
def nat : Nat → K
  | 0 => 0
  | n + 1 => nat n + 1
theorem nat_add (m n : Nat) : (nat (m + n) : K) = nat m + nat n := by
  induction n with
  | zero => simp only [Nat.add_zero, nat, add_zero]
  | succ n ih => rw [← Nat.add_assoc]; simp only [nat, ih, add_assoc]
theorem nat_mul (m n : Nat) : (nat (m * n) : K) = nat m * nat n := by
  induction n with
  | zero => simp only [Nat.mul_zero, nat, mul_zero]
  | succ n ih => rw [Nat.mul_succ, nat_add, ih]; simp only [nat, mul_add, mul_one]
theorem nat_one : (nat 1 : K) = 1 := by simp only [nat, zero_add]
def int : Int → K
  | .ofNat n => nat n
  | .negSucc n => -nat (n + 1)
theorem int_subNat (m n : Nat) : (int (Int.subNatNat m n) : K) = nat m - nat n := by
  unfold Int.subNatNat
  split
  · rename_i h
    have : m = (m - n) + n := by omega
    conv => rhs; rw [this, nat_add, add_sub_cancel]
    rfl
  · rename_i k h
    have e : n = k + 1 + m := by omega
    show -nat (k + 1) = _
    rw [e, nat_add (k + 1) m, sub_eq, neg_add_rev, add_left_comm, add_neg, add_zero]
theorem int_add (a b : Int) : (int (a + b) : K) = int a + int b := by
  cases a with
  | ofNat m => cases b with
    | ofNat n => exact nat_add m n
    | negSucc n => show int (Int.subNatNat m (n + 1)) = _; rw [int_subNat, sub_eq]; rfl
  | negSucc m => cases b with
    | ofNat n => show int (Int.subNatNat n (m + 1)) = _; rw [int_subNat, sub_eq, add_comm]; rfl
    | negSucc n =>
      show -nat (m + n + 1 + 1) = -nat (m + 1) + -nat (n + 1)
      rw [← neg_add_rev, ← nat_add]; congr 2; omega
theorem int_neg (a : Int) : (int (-a) : K) = -int a := by
  apply eq_neg_of; rw [← int_add, Int.add_right_neg]; rfl
theorem int_sub (a b : Int) : (int (a - b) : K) = int a - int b := by rw [Int.sub_eq_add_neg, int_add, int_neg, sub_eq]
theorem int_mul (a b : Int) : (int (a * b) : K) = int a * int b := by
  rcases Int.eq_nat_or_neg a with ⟨m, rfl | rfl⟩ <;> rcases Int.eq_nat_or_neg b with ⟨n, rfl | rfl⟩
  · exact nat_mul m n
  · rw [Int.mul_neg, int_neg, int_neg, mul_neg]; exact congrArg _ (nat_mul m n)
  · rw [Int.neg_mul, int_neg, int_neg, neg_mul]; exact congrArg _ (nat_mul m n)
  · rw [Int.neg_mul_neg, int_neg, int_neg, neg_mul, mul_neg, neg_neg]; exact nat_mul m n
theorem int_one : (int 1 : K) = 1 := nat_one
theorem int_zero : (int 0 : K) = 0 := rfl

end CRing

open CRing

/- a normalizer for ring expressions -/
inductive Ex where
  | var (n : Nat)
  | zero
  | one
  | num (z : Int)
  | add (a b : Ex)
  | mul (a b : Ex)
  | neg (a : Ex)
  | sub (a b : Ex)

namespace Ex
instance : Add Ex := ⟨add⟩
instance : Mul Ex := ⟨mul⟩
instance : Neg Ex := ⟨neg⟩
instance : Sub Ex := ⟨sub⟩
instance : Zero Ex := ⟨zero⟩
instance : One Ex := ⟨one⟩
variable {K : Type} [CRing K]

def den (c : List K) : Ex → K
  | var n => c.getD n 0
  | zero => 0
  | one => 1
  | num z => int z
  | add a b => den c a + den c b
  | mul a b => den c a * den c b
  | neg a => - den c a
  | sub a b => den c a - den c b

def denM (c : List K) : List Nat → K
  | [] => 1
  | i :: m => c.getD i 0 * denM c m
def denP (c : List K) : List (Int × List Nat) → K
  | [] => 0
  | t :: p => int t.1 * denM c t.2 + denP c p

def lexLt : List Nat → List Nat → Bool
  | [], [] => false
  | [], _ :: _ => true
  | _ :: _, [] => false
  | i :: m, j :: n => if i < j then true else if j < i then false else lexLt m n

def insM (i : Nat) : List Nat → List Nat
  | [] => [i]
  | j :: m => if i ≤ j then i :: j :: m else j :: insM i m
def mulM : List Nat → List Nat → List Nat
  | [], n => n
  | i :: m, n => insM i (mulM m n)

def insT (z : Int) (m : List Nat) : List (Int × List Nat) → List (Int × List Nat)
  | [] => [(z, m)]
  | t :: p => if t.2 = m then (t.1 + z, m) :: p else if lexLt m t.2 then (z, m) :: t :: p else t :: insT z m p
def addP : List (Int × List Nat) → List (Int × List Nat) → List (Int × List Nat)
  | [], q => q
  | t :: p, q => insT t.1 t.2 (addP p q)
def scaT (z : Int) (m : List Nat) : List (Int × List Nat) → List (Int × List Nat)
  | [] => []
  | t :: p => insT (z * t.1) (mulM m t.2) (scaT z m p)
def mulP : List (Int × List Nat) → List (Int × List Nat) → List (Int × List Nat)
  | [], _ => []
  | t :: p, q => addP (scaT t.1 t.2 q) (mulP p q)
def negP : List (Int × List Nat) → List (Int × List Nat)
  | [] => []
  | t :: p => (-t.1, t.2) :: negP p
def norm : Ex → List (Int × List Nat)
  | var n => [(1, [n])]
  | zero => []
  | one => [(1, [])]
  | num z => [(z, [])]
  | add a b => addP (norm a) (norm b)
  | mul a b => mulP (norm a) (norm b)
  | neg a => negP (norm a)
  | sub a b => addP (norm a) (negP (norm b))
def allZ : List (Int × List Nat) → Bool
  | [] => true
  | t :: p => t.1 == 0 && allZ p

variable (c : List K)
theorem denM_ins (i : Nat) (m : List Nat) : denM c (insM i m) = c.getD i 0 * denM c m := by
  induction m with
  | nil => rfl
  | cons j m ih =>
    unfold insM; split
    · rfl
    · simp only [denM, ih, mul_left_comm]
theorem denM_mul (m n : List Nat) : denM c (mulM m n) = denM c m * denM c n := by
  induction m with
  | nil => simp only [mulM, denM, one_mul]
  | cons i m ih => simp only [mulM, denM_ins, ih, denM, mul_assoc]
theorem denP_ins (z : Int) (m : List Nat) (p) : denP c (insT z m p) = int z * denM c m + denP c p := by
  induction p with
  | nil => rfl
  | cons t p ih =>
    unfold insT; split
    · rename_i h; subst h; simp only [denP, int_add, add_mul, add_assoc, add_left_comm]
    · split
      · rfl
      · simp only [denP, ih, add_left_comm]
theorem denP_add (p q) : denP c (addP p q) = denP c p + denP c q := by
  induction p with
  | nil => simp only [addP, denP, zero_add]
  | cons t p ih => simp only [addP, denP_ins, ih, denP, add_assoc]
theorem denP_sca (z : Int) (m : List Nat) (p) : denP c (scaT z m p) = int z * denM c m * denP c p := by
  induction p with
  | nil => simp only [scaT, denP, mul_zero]
  | cons t p ih => simp only [scaT, denP_ins, ih, denP, int_mul, denM_mul, mul_add, mul_assoc, mul_left_comm]
theorem denP_mul (p q) : denP c (mulP p q) = denP c p * denP c q := by
  induction p with
  | nil => simp only [mulP, denP, zero_mul]
  | cons t p ih => simp only [mulP, denP_add, denP_sca, ih, denP, add_mul]
theorem denP_neg (p) : denP c (negP p) = - denP c p := by
  induction p with
  | nil => simp only [negP, denP, neg_zero]
  | cons t p ih => simp only [negP, denP, ih, int_neg, neg_mul, neg_add_rev]
theorem denP_norm (e : Ex) : denP c (norm e) = den c e := by
  induction e with
  | var n => simp only [norm, denP, denM, den, int_one, mul_one, one_mul, add_zero]
  | zero => rfl
  | one => simp only [norm, denP, denM, den, int_one, mul_one, add_zero]
  | num z => simp only [norm, denP, denM, den, mul_one, add_zero]
  | add a b iha ihb => simp only [norm, den, denP_add, iha, ihb]
  | mul a b iha ihb => simp only [norm, den, denP_mul, iha, ihb]
  | neg a ih => simp only [norm, den, denP_neg, ih]
  | sub a b iha ihb => simp only [norm, den, denP_add, denP_neg, iha, ihb, sub_eq]
theorem denP_allZ (p) (h : allZ p = true) : denP c p = 0 := by
  induction p with
  | nil => rfl
  | cons t p ih =>
    simp only [allZ, Bool.and_eq_true, beq_iff_eq] at h
    simp only [denP, h.1, ih h.2, int_zero, zero_mul, add_zero]
end Ex

/-- two expressions with one normal form have one value -/
theorem ring_of {K : Type} [CRing K] (c : List K) (a b : Ex) (h : Ex.allZ (Ex.norm (a - b)) = true) : a.den c = b.den c := by
  apply eq_of_sub
  exact (Ex.denP_norm c (a - b)).symm.trans (Ex.denP_allZ c _ h)

abbrev v0 : Ex := .var 0
abbrev v1 : Ex := .var 1
abbrev v2 : Ex := .var 2
abbrev v3 : Ex := .var 3
abbrev v4 : Ex := .var 4
abbrev v5 : Ex := .var 5
abbrev v6 : Ex := .var 6
abbrev v7 : Ex := .var 7

section
variable {K : Type} [CRing K]
end

/- powers -/
def pw {K : Type} [CRing K] (a : K) : Nat → K
  | 0 => 1
  | n + 1 => pw a n * a

section
variable {K : Type} [CRing K]
theorem pw_zero (a : K) : pw a 0 = 1 := rfl
theorem pw_succ (a : K) (n : Nat) : pw a (n + 1) = pw a n * a := rfl
theorem pw_one (a : K) : pw a 1 = a := one_mul a
theorem pw_two (a : K) : pw a 2 = a * a := by rw [pw_succ, pw_one]
theorem pw_add (a : K) (m n : Nat) : pw a (m + n) = pw a m * pw a n := by
  induction n with
  | zero => rw [Nat.add_zero, pw_zero, mul_one]
  | succ n ih => rw [← Nat.add_assoc, pw_succ, ih, pw_succ, mul_assoc]
theorem pw_mul (a : K) (m n : Nat) : pw a (m * n) = pw (pw a m) n := by
  induction n with
  | zero => rfl
  | succ n ih => rw [Nat.mul_succ, pw_add, ih, pw_succ]
theorem mul_pw (a b : K) (n : Nat) : pw (a * b) n = pw a n * pw b n := by
  induction n with
  | zero => rw [pw_zero, pw_zero, pw_zero, mul_one]
  | succ n ih => rw [pw_succ, pw_succ, pw_succ, ih, mul_assoc, mul_assoc, mul_left_comm a]
theorem one_pw (n : Nat) : pw (1 : K) n = 1 := by
  induction n with
  | zero => rfl
  | succ n ih => rw [pw_succ, ih, mul_one]
theorem zero_pw (n : Nat) (h : 0 < n) : pw (0 : K) n = 0 := by
  cases n with
  | zero => omega
  | succ n => rw [pw_succ, mul_zero]
theorem neg_one_sq : (-1 : K) * -1 = 1 := by rw [neg_mul, one_mul, neg_neg]
theorem neg_one_odd (m : Nat) : pw (-1 : K) (2 * m + 1) = -1 := by
  rw [pw_succ, pw_mul, pw_two, neg_one_sq, one_pw, one_mul]

/- sums over 0, .., n-1 -/
def sm (n : Nat) (f : Nat → K) : K :=
  match n with
  | 0 => 0
  | n + 1 => sm n f + f n
theorem sm_zero (f : Nat → K) : sm 0 f = 0 := rfl
theorem sm_succ (n : Nat) (f : Nat → K) : sm (n + 1) f = sm n f + f n := rfl
theorem sm_congr {n : Nat} {f g : Nat → K} (h : ∀ i, i < n → f i = g i) : sm n f = sm n g := by
  induction n with
  | zero => rfl
  | succ n ih => rw [sm_succ, sm_succ, ih (fun i hi => h i (by omega)), h n (by omega)]
theorem sm_add (n : Nat) (f g : Nat → K) : sm n (fun i => f i + g i) = sm n f + sm n g := by
  induction n with
  | zero => rw [sm_zero, sm_zero, sm_zero, add_zero]
  | succ n ih => simp only [sm_succ, ih, add_assoc, add_left_comm]
theorem sm_mul (n : Nat) (c : K) (f : Nat → K) : sm n (fun i => c * f i) = c * sm n f := by
  induction n with
  | zero => rw [sm_zero, sm_zero, mul_zero]
  | succ n ih => simp only [sm_succ, ih, mul_add]
theorem sm_mul_right (n : Nat) (c : K) (f : Nat → K) : sm n (fun i => f i * c) = sm n f * c := by
  rw [mul_comm, ← sm_mul]; exact sm_congr fun i _ => mul_comm _ _
theorem sm_zero' (n : Nat) : sm n (fun _ => (0 : K)) = 0 := by
  induction n with
  | zero => rfl
  | succ n ih => rw [sm_succ, ih, add_zero]
theorem sm_eq_zero {n : Nat} {f : Nat → K} (h : ∀ i, i < n → f i = 0) : sm n f = 0 := by
  rw [sm_congr h, sm_zero']
theorem sm_neg (n : Nat) (f : Nat → K) : sm n (fun i => - f i) = - sm n f := by
  induction n with
  | zero => rw [sm_zero, sm_zero, neg_zero]
  | succ n ih => simp only [sm_succ, ih, neg_add_rev]
theorem sm_front (n : Nat) (f : Nat → K) : sm (n + 1) f = f 0 + sm n (fun i => f (i + 1)) := by
  induction n with
  | zero => rw [sm_succ, sm_zero, sm_zero, zero_add, add_zero]
  | succ n ih => rw [sm_succ, ih, sm_succ, add_assoc]
theorem sm_split (m n : Nat) (f : Nat → K) : sm (m + n) f = sm m f + sm n (fun i => f (m + i)) := by
  induction n with
  | zero => rw [Nat.add_zero, sm_zero, add_zero]
  | succ n ih => rw [← Nat.add_assoc, sm_succ, ih, sm_succ, add_assoc]
theorem sm_swap (m n : Nat) (f : Nat → Nat → K) : sm m (fun i => sm n (f i)) = sm n (fun j => sm m (fun i => f i j)) := by
  induction m with
  | zero => exact (sm_eq_zero fun _ _ => rfl).symm
  | succ m ih => rw [sm_succ, ih, ← sm_add]; rfl
theorem sm_rev (n : Nat) (f : Nat → K) : sm n (fun i => f (n - 1 - i)) = sm n f := by
  induction n with
  | zero => rfl
  | succ n ih =>
    rw [sm_front, sm_succ, ← ih, add_comm]
    congr 1
    exact sm_congr fun i hi => by congr 1; omega
theorem sm_single {n : Nat} {f : Nat → K} (k : Nat) (hk : k < n) (h : ∀ i, i < n → i ≠ k → f i = 0) : sm n f = f k := by
  induction n with
  | zero => omega
  | succ n ih =>
    rw [sm_succ]
    by_cases e : k = n
    · subst e; rw [sm_eq_zero (fun i hi => h i (by omega) (by omega)), zero_add]
    · rw [ih (by omega) (fun i hi => h i (by omega)), h n (by omega) (by omega), add_zero]

/- the binomial theorem -/
def ch : Nat → Nat → Nat
  | _, 0 => 1
  | 0, _ + 1 => 0
  | n + 1, k + 1 => ch n k + ch n (k + 1)
theorem ch_zero (n : Nat) : ch n 0 = 1 := by cases n <;> rfl
theorem ch_big : ∀ (n k : Nat), n < k → ch n k = 0
  | 0, _ + 1, _ => rfl
  | n + 1, k + 1, h => by rw [ch, ch_big n k (by omega), ch_big n (k + 1) (by omega)]
theorem ch_self : ∀ (n : Nat), ch n n = 1
  | 0 => rfl
  | n + 1 => by rw [ch, ch_self n, ch_big n (n + 1) (by omega)]
theorem ch_absorb : ∀ (n k : Nat), (k + 1) * ch (n + 1) (k + 1) = (n + 1) * ch n k
  | 0, 0 => rfl
  | 0, k + 1 => by show (k + 2) * (0 + 0) = (0 + 1) * 0; simp
  | n + 1, 0 => by
    have := ch_absorb n 0
    rw [ch_zero] at this
    show (0 + 1) * (ch (n + 1) 0 + ch (n + 1) (0 + 1)) = (n + 2) * ch (n + 1) 0
    rw [ch_zero]; omega
  | n + 1, k + 1 => by
    have h1 := ch_absorb n k
    have h2 := ch_absorb n (k + 1)
    have e1 : ch (n + 2) (k + 2) = ch (n + 1) (k + 1) + ch (n + 1) (k + 2) := rfl
    have e2 : ch (n + 1) (k + 1) = ch n k + ch n (k + 1) := rfl
    rw [e1]
    have h3 : (k + 2) * (ch (n + 1) (k + 1) + ch (n + 1) (k + 2)) = (k + 1) * ch (n + 1) (k + 1) + ch (n + 1) (k + 1) + (k + 2) * ch (n + 1) (k + 2) := by
      rw [Nat.mul_add]; congr 1; rw [show k + 2 = (k + 1) + 1 from rfl, Nat.succ_mul]
    rw [h3, h1, h2]
    have h4 : (n + 1 + 1) * ch (n + 1) (k + 1) = (n + 1) * ch (n + 1) (k + 1) + ch (n + 1) (k + 1) := Nat.succ_mul _ _
    rw [h4]
    have h5 : (n + 1) * ch (n + 1) (k + 1) = (n + 1) * ch n k + (n + 1) * ch n (k + 1) := by rw [e2, Nat.mul_add]
    rw [h5]; omega

theorem binom (a b : K) (n : Nat) : pw (a + b) n = sm (n + 1) fun k => nat (ch n k) * (pw a k * pw b (n - k)) := by
  induction n with
  | zero => rw [sm_succ, sm_zero, zero_add]; show (1 : K) = nat 1 * (1 * 1); rw [nat_one, mul_one, mul_one]
  | succ n ih =>
    rw [pw_succ, ih, mul_add]
    have ea : sm (n + 1) (fun k => nat (ch n k) * (pw a k * pw b (n - k))) * a
        = sm (n + 1) (fun k => nat (ch n k) * (pw a (k + 1) * pw b (n - k))) := by
      rw [← sm_mul_right]; apply sm_congr; intro k _; rw [pw_succ]; simp only [mul_assoc, mul_comm]
    have eb : sm (n + 1) (fun k => nat (ch n k) * (pw a k * pw b (n - k))) * b
        = pw b (n + 1) + sm (n + 1) (fun k => nat (ch n (k + 1)) * (pw a (k + 1) * pw b (n - k))) := by
      rw [← sm_mul_right, sm_front, sm_succ n, ch_big n (n + 1) (by omega)]
      rw [show (nat 0 : K) = 0 from rfl, zero_mul, add_zero]
      congr 1
      · show nat (ch n 0) * (1 * pw b (n - 0)) * b = _; rw [ch_zero, nat_one, one_mul, one_mul]; rfl
      · apply sm_congr; intro k hk
        rw [mul_assoc, mul_assoc, ← pw_succ, show n - (k + 1) + 1 = n - k from by omega]
    rw [ea, eb, sm_front (n + 1)]
    have e0 : nat (ch (n + 1) 0) * (pw a 0 * pw b (n + 1 - 0)) = pw b (n + 1) := by
      rw [ch_zero, nat_one, pw_zero, one_mul, one_mul]; rfl
    rw [e0, add_left_comm, ← sm_add]
    congr 1
    apply sm_congr; intro k _
    rw [show n + 1 - (k + 1) = n - k from by omega, ch, nat_add, add_mul]

/-- the power p is additive where p is a prime that is 0 in the ring -/
theorem frobenius (p : Nat) (h0 : 0 < p) (hp : ∀ x y : Nat, p ∣ x * y → p ∣ x ∨ p ∣ y) (hc : (nat p : K) = 0) (a b : K) :
    pw (a + b) p = pw a p + pw b p := by
  obtain ⟨n, rfl⟩ : ∃ n, p = n + 1 := ⟨p - 1, by omega⟩
  rw [binom, sm_succ, sm_front]
  have hm : sm n (fun i => nat (ch (n + 1) (i + 1)) * (pw a (i + 1) * pw b (n + 1 - (i + 1)))) = (0 : K) := by
    apply sm_eq_zero; intro i hi
    have hd : n + 1 ∣ (i + 1) * ch (n + 1) (i + 1) := ⟨ch n i, ch_absorb n i⟩
    rcases hp _ _ hd with h | ⟨c, hc'⟩
    · exact absurd (Nat.le_of_dvd (by omega) h) (by omega)
    · rw [hc', nat_mul, hc, zero_mul, zero_mul]
  rw [hm, add_zero, ch_zero, ch_self, nat_one, one_mul, one_mul, Nat.sub_self, pw_zero, pw_zero, one_mul, mul_one, Nat.sub_zero, add_comm]
end
end Att

/- Residues modulo m as a ring; the number P = 2^64 - 2^32 + 1 is a prime; the field F of P elements: Fermat, inverses, roots of unity. No program in sight. -/
namespace Att
open CRing

structure Zm (m : Nat) where
  n : Nat
  lt : n < m

namespace Zm
variable {m : Nat}
theorem ext {a b : Zm m} (h : a.n = b.n) : a = b := by cases a; cases b; cases h; rfl
instance : DecidableEq (Zm m) := fun a b => if h : a.n = b.n then isTrue (ext h) else isFalse fun e => h (e ▸ rfl)
variable [NeZero m]
theorem pos : 0 < m := Nat.pos_of_ne_zero (NeZero.ne m)
def of (x : Nat) : Zm m := ⟨x % m, Nat.mod_lt _ pos⟩
theorem of_n (a : Zm m) : of a.n = a := ext (Nat.mod_eq_of_lt a.lt)
theorem n_of (x : Nat) : (of x : Zm m).n = x % m := rfl
instance : Zero (Zm m) := ⟨of 0⟩
instance : One (Zm m) := ⟨of 1⟩
instance : Add (Zm m) := ⟨fun a b => of (a.n + b.n)⟩
instance : Mul (Zm m) := ⟨fun a b => of (a.n * b.n)⟩
instance : Neg (Zm m) := ⟨fun a => of (m - a.n)⟩
instance : Sub (Zm m) := ⟨fun a b => of (a.n + (m - b.n))⟩
theorem n_add (a b : Zm m) : (a + b).n = (a.n + b.n) % m := rfl
theorem n_mul (a b : Zm m) : (a * b).n = (a.n * b.n) % m := rfl
theorem n_neg (a : Zm m) : (-a).n = (m - a.n) % m := rfl
theorem n_sub (a b : Zm m) : (a - b).n = (a.n + (m - b.n)) % m := rfl
theorem n_zero : (0 : Zm m).n = 0 := Nat.zero_mod m
theorem n_one : (1 : Zm m).n = 1 % m := rfl
theorem of_add (x y : Nat) : (of (x + y) : Zm m) = of x + of y := ext (by simp [n_of, n_add])
theorem of_mul (x y : Nat) : (of (x * y) : Zm m) = of x * of y := ext (by simp [n_of, n_mul])
theorem of_mod (x : Nat) : (of (x % m) : Zm m) = of x := ext (by simp [n_of])
theorem of_m : (of m : Zm m) = 0 := ext (by simp [n_of, n_zero])
theorem mul_comm' (a b : Zm m) : a * b = b * a := ext (by simp [n_mul, Nat.mul_comm])
instance : CRing (Zm m) where
  add_assoc a b c := ext (by simp [n_add, Nat.add_assoc])
  add_comm a b := ext (by simp [n_add, Nat.add_comm])
  add_zero a := ext (by simp [n_add, n_zero, Nat.mod_eq_of_lt a.lt])
  add_neg a := ext (by
    rw [n_add, n_neg, n_zero, Nat.add_mod_mod, Nat.add_sub_cancel' (Nat.le_of_lt a.lt), Nat.mod_self])
  sub_eq a b := ext (by rw [n_sub, n_add, n_neg, Nat.add_mod_mod])
  mul_assoc a b c := ext (by simp [n_mul, Nat.mul_assoc])
  mul_comm := mul_comm'
  mul_one a := ext (by
    rw [n_mul, n_one, Nat.mul_mod_mod, Nat.mul_one, Nat.mod_eq_of_lt a.lt])
  mul_add a b c := ext (by simp [n_add, n_mul, Nat.mul_add])
theorem nat_eq (x : Nat) : (nat x : Zm m) = of x := by
  induction x with
  | zero => rfl
  | succ x ih => rw [nat, ih, of_add]; rfl
theorem of_pow (x k : Nat) : (of (x ^ k) : Zm m) = pw (of x) k := by
  induction k with
  | zero => rfl
  | succ k ih => rw [Nat.pow_succ, of_mul, ih, pw_succ]
/-- the numbers below m that the element can be told from 0 by -/
theorem of_eq_zero (x : Nat) : (of x : Zm m) = 0 ↔ m ∣ x := by
  constructor
  · intro h
    have := congrArg Zm.n h
    rw [n_of, n_zero] at this
    exact Nat.dvd_of_mod_eq_zero this
  · intro h
    exact ext (by rw [n_of, n_zero]; exact Nat.mod_eq_zero_of_dvd h)
end Zm

/- ───── squaring again and again ───── -/
def sqs (m : Nat) : Nat → Nat → Nat
  | 0, b => b % m
  | k + 1, b => (sqs m k b * sqs m k b) % m
def sqsF (m : Nat) : Nat → Nat → Nat
  | 0, b => b
  | k + 1, b => sqsF m k (b * b % m)
theorem sqsF_eq {m : Nat} [NeZero m] : ∀ (k b : Nat), (Zm.of (sqsF m k b) : Zm m) = pw (Zm.of b) (2 ^ k)
  | 0, b => (pw_one _).symm
  | k + 1, b => by
    rw [sqsF, sqsF_eq k, Zm.of_mod, Zm.of_mul, ← pw_two, ← pw_mul, Nat.pow_succ, Nat.mul_comm]

theorem two_pow_split : ∀ (d : Nat), 0 < d → ∃ s t, d = 2 ^ s * (2 * t + 1) := by
  intro d
  induction d using Nat.strongRecOn with
  | _ d ih =>
    intro hd
    by_cases h : d % 2 = 0
    · obtain ⟨s, t, e⟩ := ih (d / 2) (by omega) (by omega)
      refine ⟨s + 1, t, ?_⟩
      rw [Nat.pow_succ, Nat.mul_comm (2 ^ s), Nat.mul_assoc, ← e]; omega
    · exact ⟨0, d / 2, by omega⟩

/-- in a ring where 2 is not 0, an element whose power 2^k is -1 has 2^(k+1) different powers -/
theorem pow_order {K : Type} [CRing K] (b : K) (k : Nat) (hb : pw b (2 ^ k) = -1) (h2 : (1 : K) ≠ -1) (d : Nat) (h0 : 0 < d) (hd : d < 2 ^ (k + 1)) :
    pw b d ≠ 1 := by
  intro h
  obtain ⟨s, t, rfl⟩ := two_pow_split d h0
  have hs : s ≤ k := by
    have h1 : 2 ^ s ≤ 2 ^ s * (2 * t + 1) := Nat.le_mul_of_pos_right _ (by omega)
    have h3 : 2 ^ s < 2 ^ (k + 1) := by omega
    have := (Nat.pow_lt_pow_iff_right (a := 2) (by omega)).1 h3
    omega
  have e : pw (pw b (2 ^ s * (2 * t + 1))) (2 ^ (k - s)) = -1 := by
    rw [← pw_mul]
    have : 2 ^ s * (2 * t + 1) * 2 ^ (k - s) = 2 ^ k * (2 * t + 1) := by
      rw [Nat.mul_assoc, Nat.mul_comm (2 * t + 1), ← Nat.mul_assoc, ← Nat.pow_add, show s + (k - s) = k from by omega]
    rw [this, pw_mul, hb, neg_one_odd]
  rw [h, one_pw] at e
  exact h2 e

theorem pow_inj {K : Type} [CRing K] (b : K) (k : Nat) (hb : pw b (2 ^ k) = -1) (h2 : (1 : K) ≠ -1) (i j : Nat) (hi : i < 2 ^ (k + 1)) (hj : j < 2 ^ (k + 1))
    (h : pw b i = pw b j) : i = j := by
  have hall : pw b (2 ^ (k + 1)) = 1 := by rw [Nat.pow_succ, pw_mul, hb, pw_two, neg_one_sq]
  have key : ∀ i j : Nat, i < j → j < 2 ^ (k + 1) → pw b i ≠ pw b j := by
    intro i j hij hj h
    apply pow_order b k hb h2 (j - i) (by omega) (by omega)
    have h3 : pw b i * pw b (2 ^ (k + 1) - i) = pw b j * pw b (2 ^ (k + 1) - i) := by rw [h]
    rw [← pw_add, ← pw_add, show i + (2 ^ (k + 1) - i) = 2 ^ (k + 1) from by omega, hall,
      show j + (2 ^ (k + 1) - i) = 2 ^ (k + 1) + (j - i) from by omega, pw_add, hall, one_mul] at h3
    exact h3.symm
  rcases Nat.lt_trichotomy i j with h' | h' | h'
  · exact absurd h (key i j h' hj)
  · exact h'
  · exact absurd h.symm (key j i h' hi)

theorem nodup_map {α : Type} {f : Nat → α} : ∀ (N : Nat), (∀ i j, i < N → j < N → f i = f j → i = j) → ((List.range N).map f).Nodup := by
  intro N h
  rw [List.Nodup, List.pairwise_map]
  have hr : (List.range N).Nodup := List.nodup_range
  refine List.Pairwise.imp_of_mem ?_ hr
  intro a b ha hb hne he
  exact hne (h a b (List.mem_range.1 ha) (List.mem_range.1 hb) he)

theorem pigeon (N q : Nat) (f : Nat → Nat) (hlt : ∀ i, i < N → f i < q) (hinj : ∀ i j, i < N → j < N → f i = f j → i = j) : N ≤ q := by
  have h := List.Nodup.length_le_of_subset (nodup_map N hinj) (l₂ := List.range q) (by
    intro x hx
    obtain ⟨i, hi, rfl⟩ := List.mem_map.1 hx
    exact List.mem_range.2 (hlt i (List.mem_range.1 hi)))
  simpa using h

def P : Nat := 18446744069414584321
theorem P_eq : P = 18446744069414584321 := rfl
instance : NeZero P := ⟨by decide⟩
theorem P_pos : 0 < P := by decide

theorem neg_one_below (b N q : Nat) [NeZero q] (h : (Zm.of (P - 1) : Zm P) = pw (Zm.of b) N) (hq : q ∣ P) : pw (Zm.of b : Zm q) N = -1 := by
  have e3 := congrArg Zm.n h
  rw [← Zm.of_pow, Zm.n_of, Zm.n_of] at e3
  rw [← Zm.of_pow]
  apply eq_neg_of
  have e4 : (1 : Zm q) = Zm.of 1 := rfl
  rw [e4, ← Zm.of_add, Zm.of_eq_zero]
  refine Nat.dvd_trans hq ?_
  have e5 : (b ^ N % P + 1) % P = 0 := by rw [← e3]; decide
  rw [Nat.mod_add_mod, Nat.add_comm] at e5
  exact Nat.dvd_of_mod_eq_zero e5
theorem base_root : (Zm.of (P - 1) : Zm P) = pw (Zm.of 1753635133440165772) (2 ^ 31) := by
  have e : (Zm.of (sqsF P 31 1753635133440165772) : Zm P) = pw (Zm.of 1753635133440165772) (2 ^ 31) := sqsF_eq 31 _
  have e2 : sqsF P 31 1753635133440165772 = P - 1 := by decide
  rwa [e2] at e

/-- a divisor of P other than 1 is at least 2^32 -/
theorem div_big (q : Nat) (hq : q ∣ P) (h1 : q ≠ 1) : 2 ^ 32 ≤ q := by
  have hq0 : 0 < q := Nat.pos_of_dvd_of_pos hq P_pos
  have : NeZero q := ⟨by omega⟩
  let b : Zm q := Zm.of 1753635133440165772
  have hb : pw b (2 ^ 31) = -1 := neg_one_below _ _ q base_root hq
  have h2 : (1 : Zm q) ≠ -1 := by
    intro h
    have e : (1 : Zm q) + 1 = 0 := by conv => lhs; rhs; rw [h]
                                      exact add_neg 1
    have e4 : (1 : Zm q) = Zm.of 1 := rfl
    rw [e4, ← Zm.of_add, Zm.of_eq_zero] at e
    have h3 : q ≤ 2 := Nat.le_of_dvd (by omega) e
    have h4 : q = 2 := by omega
    subst h4
    revert hq; decide
  refine pigeon (2 ^ 32) q (fun i => (pw b i).n) (fun i _ => (pw b i).lt) ?_
  intro i j hi hj h
  exact pow_inj b 31 hb h2 i j hi hj (Zm.ext h)

theorem P_prime (d : Nat) (h : d ∣ P) : d = 1 ∨ d = P := by
  by_cases h1 : d = 1
  · exact .inl h1
  · right
    obtain ⟨r, hr⟩ := h
    have hd : 2 ^ 32 ≤ d := div_big d ⟨r, hr⟩ h1
    by_cases h2 : r = 1
    · rw [hr, h2, Nat.mul_one]
    · have h3 : 2 ^ 32 ≤ r := div_big r ⟨d, by rw [hr, Nat.mul_comm]⟩ h2
      have h4 : 2 ^ 32 * 2 ^ 32 ≤ d * r := Nat.mul_le_mul hd h3
      rw [← hr] at h4
      exact absurd h4 (by decide)

theorem P_coprime (a : Nat) (h : ¬ P ∣ a) : Nat.gcd P a = 1 := by
  rcases P_prime _ (Nat.gcd_dvd_left P a) with e | e
  · exact e
  · exact absurd (e ▸ Nat.gcd_dvd_right P a) h

theorem P_dvd_mul (x y : Nat) (h : P ∣ x * y) : P ∣ x ∨ P ∣ y := by
  by_cases hx : P ∣ x
  · exact .inl hx
  · exact .inr (Nat.Coprime.dvd_of_dvd_mul_left (P_coprime x hx) h)

abbrev F : Type := Zm P

/-- a field: a ring without zero divisors, in which 0 is not 1, each element but 0 having an inverse -/
class Fld (K : Type) extends CRing K where
  inv : K → K
  zero_ne_one : (0 : K) ≠ 1
  mul_inv : ∀ a : K, a ≠ 0 → a * inv a = 1
  inv_zero : inv 0 = 0
  deq : DecidableEq K

instance (K : Type) [Fld K] : DecidableEq K := Fld.deq

section
variable {K : Type} [Fld K]
open Fld
theorem mul_eq_zero {a b : K} : a * b = 0 ↔ a = 0 ∨ b = 0 := by
  constructor
  · intro h
    by_cases ha : a = 0
    · exact .inl ha
    · right
      have : inv a * (a * b) = 0 := by rw [h, mul_zero]
      rwa [← mul_assoc, mul_comm (inv a), mul_inv a ha, one_mul] at this
  · rintro (h | h)
    · rw [h, zero_mul]
    · rw [h, mul_zero]
theorem mul_ne_zero {a b : K} (ha : a ≠ 0) (hb : b ≠ 0) : a * b ≠ 0 := fun h => (mul_eq_zero.1 h).elim ha hb
theorem inv_ne_zero {a : K} (ha : a ≠ 0) : inv a ≠ 0 := fun h => by
  have := mul_inv a ha; rw [h, mul_zero] at this; exact zero_ne_one this
theorem mul_left_cancel {a b c : K} (ha : a ≠ 0) (h : a * b = a * c) : b = c := by
  have : inv a * (a * b) = inv a * (a * c) := by rw [h]
  rwa [← mul_assoc, ← mul_assoc, mul_comm (inv a), mul_inv a ha, one_mul, one_mul] at this
theorem inv_unique {a b : K} (h : a * b = 1) : b = inv a := by
  have ha : a ≠ 0 := fun e => by rw [e, zero_mul] at h; exact zero_ne_one h
  exact mul_left_cancel ha (h.trans (mul_inv a ha).symm)
theorem inv_inv (a : K) : inv (inv a) = a := by
  by_cases ha : a = 0
  · rw [ha, inv_zero, inv_zero]
  · exact (inv_unique (by rw [mul_comm]; exact mul_inv a ha)).symm
theorem inv_mul (a b : K) : inv (a * b) = inv a * inv b := by
  by_cases ha : a = 0
  · rw [ha, zero_mul, inv_zero, zero_mul]
  by_cases hb : b = 0
  · rw [hb, mul_zero, inv_zero, mul_zero]
  symm; apply inv_unique
  rw [mul_assoc, mul_left_comm b, mul_inv b hb, mul_one, mul_inv a ha]
theorem pw_ne_zero {a : K} (ha : a ≠ 0) (n : Nat) : pw a n ≠ 0 := by
  induction n with
  | zero => exact fun h => zero_ne_one h.symm
  | succ n ih => exact mul_ne_zero ih ha
theorem sq_eq_one {a : K} (h : a * a = 1) : a = 1 ∨ a = -1 := by
  have : (a - 1) * (a - -1) = 0 := by
    have e : (a - 1) * (a - -1) = a * a - 1 := ring_of [a] ((v0 - 1) * (v0 - -1)) (v0 * v0 - 1) rfl
    rw [e, h, sub_self]
  rcases mul_eq_zero.1 this with h | h
  · exact .inl (eq_of_sub h)
  · exact .inr (eq_of_sub h)
end

/- ───── the field F ───── -/
namespace F
theorem nat_P : (nat P : F) = 0 := by rw [Zm.nat_eq, Zm.of_m]
theorem zero_ne_one : (0 : F) ≠ 1 := by decide
theorem no_zero_div (a b : F) (h : a * b = 0) : a = 0 ∨ b = 0 := by
  have h' : (Zm.of (a.n * b.n) : F) = 0 := h
  rw [Zm.of_eq_zero] at h'
  rcases P_dvd_mul _ _ h' with e | e
  · left; rw [← Zm.of_n a]; exact (Zm.of_eq_zero _).2 e
  · right; rw [← Zm.of_n b]; exact (Zm.of_eq_zero _).2 e
/-- Fermat: the power P of an element is the element -/
theorem fermat (a : F) : pw a P = a := by
  rw [← Zm.of_n a]
  generalize a.n = x
  induction x with
  | zero => exact zero_pw P P_pos
  | succ x ih => rw [Zm.of_add, frobenius P P_pos P_dvd_mul nat_P, ih, show (Zm.of 1 : F) = 1 from rfl, one_pw]
theorem fermat1 (a : F) (h : a ≠ 0) : pw a (P - 1) = 1 := by
  have e : pw a (P - 1) * a = a := by
    rw [← pw_succ]; exact fermat a
  have e2 : a * (pw a (P - 1) - 1) = 0 := by
    rw [sub_eq, mul_add, mul_comm, e, mul_neg, mul_one, add_neg]
  rcases no_zero_div _ _ e2 with h' | h'
  · exact absurd h' h
  · exact eq_of_sub h'
theorem mul_inv (a : F) (h : a ≠ 0) : a * pw a (P - 2) = 1 := by
  rw [mul_comm, ← pw_succ]; exact fermat1 a h
instance : Fld F where
  inv a := pw a (P - 2)
  zero_ne_one := zero_ne_one
  mul_inv := mul_inv
  inv_zero := zero_pw _ (by decide)
  deq := inferInstance
end F
theorem F.inv_def (a : F) : Fld.inv a = pw a (P - 2) := rfl

/-- squares by the exponent's bits, for numbers: x^n modulo P -/
def powF : Nat → Nat → Nat → Nat → Nat
  | 0, _, _, acc => acc
  | k + 1, b, n, acc => powF k (b * b % P) (n / 2) (if n % 2 = 1 then acc * b % P else acc)
theorem powF_eq : ∀ (k b n acc : Nat), n < 2 ^ k → (Zm.of (powF k b n acc) : F) = Zm.of acc * pw (Zm.of b) n
  | 0, b, n, acc, h => by
    have : n = 0 := by simp at h; omega
    subst this; rw [powF, pw_zero, mul_one]
  | k + 1, b, n, acc, h => by
    have hn : n / 2 < 2 ^ k := by rw [Nat.pow_succ] at h; omega
    rw [powF, powF_eq k _ _ _ hn, Zm.of_mod, Zm.of_mul, ← pw_two, ← pw_mul]
    split
    · rename_i h1
      have e : n = 2 * (n / 2) + 1 := by omega
      rw [Zm.of_mod, Zm.of_mul]
      conv => rhs; rw [e, pw_succ]
      rw [mul_assoc, mul_comm (pw _ _)]
    · rename_i h1
      have e : n = 2 * (n / 2) := by omega
      conv => rhs; rw [e]
/-- a power in F, by reckoning -/
theorem pow_by (b n c : Nat) (hn : n < 2 ^ 64) (h : powF 64 b n 1 % P = c) : pw (Zm.of b : F) n = Zm.of c := by
  have e := powF_eq 64 b n 1 hn
  rw [show (Zm.of 1 : F) = 1 from rfl, one_mul] at e
  rw [← e, ← h, Zm.of_mod]
theorem seven_half : pw (Zm.of 7 : F) 9223372034707292160 = -1 :=
  (pow_by 7 9223372034707292160 (P - 1) (by decide) (by decide)).trans rfl

/-- a primitive root of unity of order 2^k -/
def root (k : Nat) : F := pw (Zm.of 7) ((P - 1) / 2 ^ k)
theorem root_sq (k : Nat) (h : k < 32) : root (k + 1) * root (k + 1) = root k := by
  unfold root
  rw [← pw_two, ← pw_mul]
  congr 1
  have : k = 0 ∨ k = 1 ∨ k = 2 ∨ k = 3 ∨ k = 4 ∨ k = 5 ∨ k = 6 ∨ k = 7 ∨ k = 8 ∨ k = 9 ∨ k = 10 ∨ k = 11 ∨ k = 12 ∨ k = 13 ∨ k = 14 ∨ k = 15 ∨ k = 16 ∨ k = 17 ∨ k = 18 ∨ k = 19 ∨ k = 20 ∨ k = 21 ∨ k = 22 ∨ k = 23 ∨ k = 24 ∨ k = 25 ∨ k = 26 ∨ k = 27 ∨ k = 28 ∨ k = 29 ∨ k = 30 ∨ k = 31 := by omega
  rcases this with h | h | h | h | h | h | h | h | h | h | h | h | h | h | h | h | h | h | h | h | h | h | h | h | h | h | h | h | h | h | h | h <;> subst h <;> decide
theorem root_one : root 1 = -1 := by
  unfold root
  rw [show (P - 1) / 2 ^ 1 = 9223372034707292160 from by decide]; exact seven_half
theorem root_pow : ∀ (j k : Nat), k + j ≤ 32 → pw (root (k + j)) (2 ^ j) = root k
  | 0, k, _ => pw_one _
  | j + 1, k, h => by
    rw [Nat.pow_succ, Nat.mul_comm, pw_mul, pw_two, ← Nat.add_assoc, root_sq (k + j) (by omega)]
    exact root_pow j k (by omega)
theorem root_half (k : Nat) (h : k < 32) : pw (root (k + 1)) (2 ^ k) = -1 := by
  rw [Nat.add_comm, root_pow k 1 (by omega), root_one]
theorem root_full (k : Nat) (h : k ≤ 32) : pw (root k) (2 ^ k) = 1 := by
  cases k with
  | zero => rw [Nat.pow_zero, pw_one]; unfold root; rw [Nat.pow_zero, Nat.div_one]; exact F.fermat1 _ (by decide)
  | succ k => rw [Nat.pow_succ, pw_mul, root_half k (by omega), pw_two, neg_one_sq]
theorem one_ne_neg : (1 : F) ≠ -1 := by decide

/- ───── an element as an integer ───── -/
def Zm.i (a : F) : Int := (a.n : Int)
theorem i_nn (a : F) : 0 ≤ a.i := Int.natCast_nonneg _
theorem i_lt (a : F) : a.i < 18446744069414584321 := by
  have := a.lt; unfold P at this; unfold Zm.i; omega
theorem i_inj {a b : F} (h : a.i = b.i) : a = b := Zm.ext (by unfold Zm.i at h; omega)
theorem i_eq {a b : F} : a.i = b.i ↔ a = b := ⟨i_inj, fun h => by rw [h]⟩
theorem i_add (a b : F) : (a + b).i = (a.i + b.i) % 18446744069414584321 := by
  show (((a.n + b.n) % P : Nat) : Int) = _
  unfold P Zm.i; omega
theorem i_mul (a b : F) : (a * b).i = (a.i * b.i) % 18446744069414584321 := by
  show (((a.n * b.n) % P : Nat) : Int) = _
  unfold P Zm.i
  rw [← Int.natCast_mul]; omega
theorem i_neg (a : F) : (-a).i = (- a.i) % 18446744069414584321 := by
  have := a.lt; unfold P at this
  show (((P - a.n) % P : Nat) : Int) = _
  unfold P Zm.i; omega
theorem i_sub (a b : F) : (a - b).i = (a.i - b.i) % 18446744069414584321 := by
  have := b.lt; unfold P at this
  show (((a.n + (P - b.n)) % P : Nat) : Int) = _
  unfold P Zm.i; omega
theorem i_nat (x : Nat) : (nat x : F).i = (x : Int) % 18446744069414584321 := by
  rw [Zm.nat_eq]; show (((x % P : Nat)) : Int) = _; unfold P; omega
theorem i_int (x : Int) : (int x : F).i = x % 18446744069414584321 := by
  cases x with
  | ofNat n => exact i_nat n
  | negSucc n => show (- nat (n + 1) : F).i = _; rw [i_neg, i_nat]; omega
theorem i_zero : (0 : F).i = 0 := rfl
theorem i_one : (1 : F).i = 1 := rfl
/-- an integer in range is its own element's integer -/
theorem i_of (x : Int) (h0 : 0 ≤ x) (h : x < 18446744069414584321) : (int x : F).i = x := by rw [i_int]; omega
@[simp] theorem int_i (a : F) : (int a.i : F) = a := i_inj (by rw [i_int]; have := i_nn a; have := i_lt a; omega)
/-- the integers that stand for themselves -/
class In (x : Int) : Prop where
  nn : 0 ≤ x
  lt : x < 18446744069414584321
instance (a : F) : In a.i := ⟨i_nn a, i_lt a⟩
instance : In 0 := ⟨by omega, by omega⟩
instance : In 1 := ⟨by omega, by omega⟩
instance : In 2 := ⟨by omega, by omega⟩
instance : In 7 := ⟨by omega, by omega⟩
/-- the integers of 64 bits -/
class In64 (x : Int) : Prop where
  nn : 0 ≤ x
  lt : x < 18446744073709551616
instance (x : Int) [h : In x] : In64 x := ⟨h.nn, by have := h.lt; omega⟩
theorem i_in (x : Int) [h : In x] : (int x : F).i = x := i_of x h.nn h.lt
theorem i_add_int (x y : Int) : (int x + int y : F).i = (x + y) % 18446744069414584321 := by rw [← int_add, i_int]
theorem i_sub_int (x y : Int) : (int x - int y : F).i = (x - y) % 18446744069414584321 := by rw [← int_sub, i_int]
theorem i_mul_int (x y : Int) : (int x * int y : F).i = (x * y) % 18446744069414584321 := by rw [← int_mul, i_int]
theorem i_neg_int (x : Int) : (- int x : F).i = (- x) % 18446744069414584321 := by rw [← int_neg, i_int]
theorem int_n (x : Nat) : (int (x : Int) : F) = Zm.of x := Zm.nat_eq x
theorem int_P : (int 18446744069414584321 : F) = 0 := F.nat_P
end Att

/- Polynomials over a field as lists of coefficients, lowest first. No program in sight. -/
namespace Att
open CRing
section
variable {K : Type} [Fld K]

/-- the coefficient n -/
def co (l : List K) (n : Nat) : K := l.getD n 0
theorem co_nil (n : Nat) : co ([] : List K) n = 0 := by simp [co]
theorem co_cons_zero (a : K) (l : List K) : co (a :: l) 0 = a := rfl
theorem co_cons_succ (a : K) (l : List K) (n : Nat) : co (a :: l) (n + 1) = co l n := rfl
theorem co_big (l : List K) (n : Nat) (h : l.length ≤ n) : co l n = 0 := by
  unfold co; rw [List.getD_eq_getElem?_getD, List.getElem?_eq_none h]; rfl
theorem co_get (l : List K) (n : Nat) (h : n < l.length) : co l n = l[n] := by
  unfold co; rw [List.getD_eq_getElem?_getD, List.getElem?_eq_getElem h]; rfl
theorem co_append (l m : List K) (n : Nat) : co (l ++ m) n = if n < l.length then co l n else co m (n - l.length) := by
  unfold co
  simp only [List.getD_eq_getElem?_getD, List.getElem?_append]
  split <;> rfl

/-- the value at x, by Horner's rule -/
def ev (l : List K) (x : K) : K :=
  match l with
  | [] => 0
  | a :: l => ev l x * x + a
theorem ev_nil (x : K) : ev [] x = 0 := rfl
theorem ev_cons (a : K) (l : List K) (x : K) : ev (a :: l) x = ev l x * x + a := rfl
theorem ev_sum (l : List K) (x : K) : ∀ n, l.length ≤ n → ev l x = sm n (fun i => co l i * pw x i) := by
  induction l with
  | nil => intro n _; rw [ev_nil, sm_eq_zero]; intro i _; rw [co_nil, zero_mul]
  | cons a l ih =>
    intro n hn
    obtain ⟨m, rfl⟩ : ∃ m, n = m + 1 := ⟨n - 1, by simp at hn; omega⟩
    rw [ev_cons, ih m (by simp at hn; omega), sm_front, co_cons_zero, pw_zero, mul_one, CRing.add_comm, ← sm_mul_right]
    congr 1
    apply sm_congr; intro i _
    rw [co_cons_succ, pw_succ, mul_assoc]
theorem ev_of_co {l m : List K} (h : ∀ n, co l n = co m n) (x : K) : ev l x = ev m x := by
  rw [ev_sum l x (max l.length m.length) (by omega), ev_sum m x (max l.length m.length) (by omega)]
  exact sm_congr fun i _ => by rw [h]
theorem ev_append (l m : List K) (x : K) : ev (l ++ m) x = ev l x + pw x l.length * ev m x := by
  induction l with
  | nil => rw [List.nil_append, ev_nil, List.length_nil, pw_zero, one_mul, zero_add]
  | cons a l ih =>
    rw [List.cons_append, ev_cons, ih, ev_cons, List.length_cons, pw_succ]
    exact ring_of [ev l x, pw x l.length, ev m x, x, a] ((v0 + v1 * v2) * v3 + v4) (v0 * v3 + v4 + v1 * v3 * v2) rfl

/-- without leading zeros -/
def trim (l : List K) : List K :=
  match l with
  | [] => []
  | a :: l => if trim l = [] ∧ a = 0 then [] else a :: trim l
theorem trim_nil : trim ([] : List K) = [] := rfl
theorem co_trim (l : List K) : ∀ n, co (trim l) n = co l n := by
  induction l with
  | nil => intro n; rfl
  | cons a l ih =>
    intro n
    rw [trim]
    split
    · rename_i h
      cases n with
      | zero => rw [co_nil, co_cons_zero, h.2]
      | succ n => rw [co_nil, co_cons_succ, ← ih n, h.1, co_nil]
    · cases n with
      | zero => rfl
      | succ n => rw [co_cons_succ, co_cons_succ, ih]
theorem trim_length_le (l : List K) : (trim l).length ≤ l.length := by
  induction l with
  | nil => exact Nat.le_refl _
  | cons a l ih =>
    rw [trim]; split
    · exact Nat.zero_le _
    · simp only [List.length_cons]; omega
theorem trim_eq_nil {l : List K} : trim l = [] ↔ ∀ n, co l n = 0 := by
  induction l with
  | nil => exact ⟨fun _ n => co_nil n, fun _ => rfl⟩
  | cons a l ih =>
    rw [trim]
    constructor
    · intro h n
      split at h
      · rename_i h1
        cases n with
        | zero => exact h1.2
        | succ n => exact ih.1 h1.1 n
      · cases h
    · intro h
      rw [if_pos ⟨ih.2 fun n => h (n + 1), h 0⟩]
/-- what is trimmed is told by its coefficients -/
theorem trim_ext : ∀ {l m : List K}, (∀ n, co l n = co m n) → trim l = trim m
  | [], m, h => by rw [trim_nil]; exact (trim_eq_nil.2 fun n => by rw [← h n, co_nil]).symm
  | a :: l, [], h => by rw [trim_nil]; exact trim_eq_nil.2 fun n => by rw [h n, co_nil]
  | a :: l, b :: m, h => by
    have h0 : a = b := h 0
    have h1 : trim l = trim m := trim_ext fun n => h (n + 1)
    rw [trim, trim, h0, h1]
theorem trim_trim (l : List K) : trim (trim l) = trim l := trim_ext (co_trim l)
theorem co_trim_last {l : List K} (h : trim l ≠ []) : co l ((trim l).length - 1) ≠ 0 := by
  induction l with
  | nil => exact absurd rfl h
  | cons a l ih =>
    rw [trim] at h ⊢
    split at h
    · exact absurd rfl h
    · rename_i hn
      rw [if_neg hn]
      by_cases ht : trim l = []
      · rw [ht]
        show co (a :: l) 0 ≠ 0
        exact fun ha => hn ⟨ht, ha⟩
      · have h1 : (trim l).length ≠ 0 := fun e => ht (List.length_eq_zero_iff.1 e)
        rw [List.length_cons, show (trim l).length + 1 - 1 = ((trim l).length - 1) + 1 from by omega, co_cons_succ]
        exact ih ht
theorem ev_trim (l : List K) (x : K) : ev (trim l) x = ev l x := ev_of_co (co_trim l) x
/-- a list whose last coefficient is not zero is trimmed -/
theorem trim_of_last {l : List K} (h : l = [] ∨ co l (l.length - 1) ≠ 0) : trim l = l := by
  induction l with
  | nil => rfl
  | cons a l ih =>
    rcases h with h | h
    · cases h
    · rw [trim]
      by_cases hl : l = []
      · subst hl
        have ha : a ≠ 0 := h
        rw [if_neg (fun e => ha e.2), trim_nil]
      · have h1 : l.length ≠ 0 := fun e => hl (List.length_eq_zero_iff.1 e)
        rw [List.length_cons, show l.length + 1 - 1 = (l.length - 1) + 1 from by omega, co_cons_succ] at h
        rw [ih (.inr h), if_neg (fun e => hl e.1)]
theorem length_le_of_co {l : List K} {n : Nat} (h : ∀ i, n ≤ i → co l i = 0) : (trim l).length ≤ n := by
  by_cases ht : trim l = []
  · rw [ht]; exact Nat.zero_le _
  · rcases Nat.lt_or_ge n (trim l).length with h' | h'
    · exact absurd (h _ (by omega)) (co_trim_last ht)
    · exact h'
theorem co_of_length {l : List K} {n : Nat} (h : (trim l).length ≤ n) (i : Nat) (hi : n ≤ i) : co l i = 0 := by
  rw [← co_trim]; exact co_big _ _ (by omega)

/-- the list of f 0, .., f (n-1) -/
def tab (n : Nat) (f : Nat → K) : List K := (List.range n).map f
omit [Fld K] in
theorem tab_length (n : Nat) (f : Nat → K) : (tab n f).length = n := by simp [tab]
theorem co_tab (n : Nat) (f : Nat → K) (i : Nat) : co (tab n f) i = if i < n then f i else 0 := by
  split
  · rename_i h; rw [co_get _ _ (by rw [tab_length]; exact h)]; simp [tab]
  · rename_i h; exact co_big _ _ (by rw [tab_length]; omega)
omit [Fld K] in
theorem tab_succ (n : Nat) (f : Nat → K) : tab (n + 1) f = tab n f ++ [f n] := by simp [tab, List.range_succ]
theorem tab_eq (l : List K) : tab l.length (co l) = l := by
  apply List.ext_getElem (tab_length _ _)
  intro i h1 h2
  rw [← co_get _ _ h1, co_tab, if_pos (by rw [tab_length] at h1; exact h1), co_get _ _ h2]
theorem list_ext_co {l m : List K} (hl : l.length = m.length) (h : ∀ i, i < l.length → co l i = co m i) : l = m := by
  apply List.ext_getElem hl
  intro i h1 h2
  rw [← co_get _ _ h1, ← co_get _ _ h2]; exact h i h1

/- sums, differences, multiples -/
def padd (l m : List K) : List K := tab (max l.length m.length) fun i => co l i + co m i
def psub (l m : List K) : List K := tab (max l.length m.length) fun i => co l i - co m i
def psca (l : List K) (c : K) : List K := tab l.length fun i => co l i * c
theorem co_padd (l m : List K) (n : Nat) : co (padd l m) n = co l n + co m n := by
  unfold padd; rw [co_tab]; split
  · rfl
  · rw [co_big l n (by omega), co_big m n (by omega), add_zero]
theorem co_psub (l m : List K) (n : Nat) : co (psub l m) n = co l n - co m n := by
  unfold psub; rw [co_tab]; split
  · rfl
  · rw [co_big l n (by omega), co_big m n (by omega), sub_zero]
theorem co_psca (l : List K) (c : K) (n : Nat) : co (psca l c) n = co l n * c := by
  unfold psca; rw [co_tab]; split
  · rfl
  · rw [co_big l n (by omega), zero_mul]
theorem ev_padd (l m : List K) (x : K) : ev (padd l m) x = ev l x + ev m x := by
  have h : (padd l m).length ≤ max l.length m.length := by unfold padd; rw [tab_length]; omega
  rw [ev_sum _ x _ h, ev_sum l x (max l.length m.length) (by omega), ev_sum m x (max l.length m.length) (by omega), ← sm_add]
  exact sm_congr fun i _ => by rw [co_padd, add_mul]
theorem ev_psub (l m : List K) (x : K) : ev (psub l m) x = ev l x - ev m x := by
  have h : (psub l m).length ≤ max l.length m.length := by unfold psub; rw [tab_length]; omega
  rw [ev_sum _ x _ h, ev_sum l x (max l.length m.length) (by omega), ev_sum m x (max l.length m.length) (by omega), sub_eq, ← sm_neg, ← sm_add]
  exact sm_congr fun i _ => by rw [co_psub, sub_eq, add_mul, neg_mul]
theorem ev_psca (l : List K) (c : K) (x : K) : ev (psca l c) x = ev l x * c := by
  have h : (psca l c).length ≤ l.length := by unfold psca; rw [tab_length]; exact Nat.le_refl _
  rw [ev_sum _ x _ h, ev_sum l x l.length (by omega), ← sm_mul_right]
  exact sm_congr fun i _ => by rw [co_psca, mul_assoc, mul_comm c, ← mul_assoc]

/- products -/
def conv (f g : Nat → K) (n : Nat) : K := sm (n + 1) fun i => f i * g (n - i)
def pmul (l m : List K) : List K := tab (l.length + m.length) (conv (co l) (co m))
theorem conv_zero_big (l m : List K) (n : Nat) (h : l.length + m.length ≤ n + 1) : conv (co l) (co m) n = 0 := by
  apply sm_eq_zero; intro i hi
  by_cases h1 : i < l.length
  · rw [co_big m (n - i) (by omega), mul_zero]
  · rw [co_big l i (by omega), zero_mul]
theorem co_pmul (l m : List K) (n : Nat) : co (pmul l m) n = conv (co l) (co m) n := by
  unfold pmul; rw [co_tab]; split
  · rfl
  · exact (conv_zero_big l m n (by omega)).symm
theorem conv_comm (f g : Nat → K) (n : Nat) : conv f g n = conv g f n := by
  unfold conv
  rw [← sm_rev (n + 1)]
  apply sm_congr; intro i hi
  rw [mul_comm]; congr 2 <;> omega
theorem conv_add (f g h : Nat → K) (n : Nat) : conv f (fun i => g i + h i) n = conv f g n + conv f h n := by
  unfold conv
  rw [← sm_add]
  exact sm_congr fun i _ => mul_add _ _ _
theorem conv_congr {f f' g g' : Nat → K} {n : Nat} (h1 : ∀ i, i ≤ n → f i = f' i) (h2 : ∀ i, i ≤ n → g i = g' i) : conv f g n = conv f' g' n := by
  unfold conv
  exact sm_congr fun i hi => by rw [h1 i (by omega), h2 (n - i) (by omega)]
/-- the sum over a triangle, both ways -/
theorem sm_tri (n : Nat) (f : Nat → Nat → K) : sm n (fun i => sm (i + 1) (fun j => f j (i - j))) = sm n (fun j => sm (n - j) (fun k => f j k)) := by
  induction n with
  | zero => rfl
  | succ n ih =>
    rw [sm_succ, ih]
    have e : sm (n + 1) (fun j => sm (n + 1 - j) (fun k => f j k)) = sm (n + 1) (fun j => sm (n - j) (fun k => f j k) + f j (n - j)) :=
      sm_congr fun j hj => by rw [show n + 1 - j = (n - j) + 1 from by omega, sm_succ]
    rw [e, sm_add]
    congr 1
    rw [sm_succ, Nat.sub_self, sm_zero, add_zero]
theorem conv_assoc (f g h : Nat → K) (n : Nat) : conv (conv f g) h n = conv f (conv g h) n := by
  unfold conv
  have e1 : sm (n + 1) (fun i => sm (i + 1) (fun j => f j * g (i - j)) * h (n - i)) = sm (n + 1) (fun i => sm (i + 1) (fun j => f j * (g (i - j) * h (n - j - (i - j))))) :=
    sm_congr fun i hi => by
      rw [← sm_mul_right]
      exact sm_congr fun j hj => by rw [mul_assoc]; congr 3; omega
  rw [e1, sm_tri (n + 1) (fun j k => f j * (g k * h (n - j - k)))]
  apply sm_congr; intro j hj
  rw [← sm_mul, show n + 1 - j = n - j + 1 from by omega]
theorem ev_pmul (l m : List K) (x : K) : ev (pmul l m) x = ev l x * ev m x := by
  have h : (pmul l m).length ≤ l.length + m.length := by unfold pmul; rw [tab_length]; exact Nat.le_refl _
  have e : ev (pmul l m) x = sm (l.length + m.length) (fun i => sm (i + 1) (fun j => (co l j * pw x j) * (co m (i - j) * pw x (i - j)))) := by
    rw [ev_sum _ x _ h]
    apply sm_congr; intro i _
    rw [co_pmul]; unfold conv
    rw [← sm_mul_right]
    apply sm_congr; intro j hj
    have e : pw x i = pw x j * pw x (i - j) := by rw [← pw_add]; congr 1; omega
    rw [e]
    exact ring_of [co l j, co m (i - j), pw x j, pw x (i - j)] (v0 * v1 * (v2 * v3)) (v0 * v2 * (v1 * v3)) rfl
  rw [e, sm_tri (l.length + m.length) (fun j k => (co l j * pw x j) * (co m k * pw x k)), ev_sum l x (l.length + m.length) (by omega), ← sm_mul_right]
  apply sm_congr; intro j hj
  rw [sm_mul]
  by_cases hl : j < l.length
  · rw [ev_sum m x (l.length + m.length - j) (by omega)]
  · rw [co_big l j (by omega)]; simp only [zero_mul]

/-- degrees add up -/
theorem conv_top (f g : Nat → K) (a b : Nat) (hf : ∀ i, a < i → f i = 0) (hg : ∀ i, b < i → g i = 0) : conv f g (a + b) = f a * g b := by
  unfold conv
  rw [sm_single a (by omega)]
  · congr 2; omega
  · intro i _ hne
    rcases Nat.lt_or_gt_of_ne hne with h | h
    · rw [hg _ (by omega), mul_zero]
    · rw [hf _ h, zero_mul]
theorem trim_pmul_length {l m : List K} (hl : trim l ≠ []) (hm : trim m ≠ []) : (trim (pmul l m)).length = (trim l).length + (trim m).length - 1 := by
  have l0 : (trim l).length ≠ 0 := fun e => hl (List.length_eq_zero_iff.1 e)
  have m0 : (trim m).length ≠ 0 := fun e => hm (List.length_eq_zero_iff.1 e)
  have hle : (trim (pmul l m)).length ≤ (trim l).length + (trim m).length - 1 := by
    apply length_le_of_co
    intro i hi
    rw [co_pmul]
    rw [conv_congr (f' := co (trim l)) (g' := co (trim m)) (fun j _ => (co_trim l j).symm) (fun j _ => (co_trim m j).symm)]
    exact conv_zero_big _ _ _ (by omega)
  have htop : co (pmul l m) (((trim l).length - 1) + ((trim m).length - 1)) ≠ 0 := by
    rw [co_pmul, conv_top]
    · exact mul_ne_zero (co_trim_last hl) (co_trim_last hm)
    · intro i hi; exact co_of_length (n := (trim l).length) (Nat.le_refl _) i (by omega)
    · intro i hi; exact co_of_length (n := (trim m).length) (Nat.le_refl _) i (by omega)
  rcases Nat.lt_or_ge (trim (pmul l m)).length ((trim l).length + (trim m).length - 1) with h | h
  · exact absurd (co_of_length (n := (trim (pmul l m)).length) (Nat.le_refl _) _ (by omega)) htop
  · omega
theorem trim_pmul_nil {l m : List K} (h : trim l = [] ∨ trim m = []) : trim (pmul l m) = [] := by
  rw [trim_eq_nil]
  intro n
  rw [co_pmul]; unfold conv
  apply sm_eq_zero; intro i _
  rcases h with h | h
  · rw [trim_eq_nil.1 h, zero_mul]
  · rw [trim_eq_nil.1 h, mul_zero]

/- division by X - x -/
/-- quotient and remainder -/
def divr (l : List K) (x : K) : List K × K :=
  match l with
  | [] => ([], 0)
  | a :: l => match l with
    | [] => ([], a)
    | _ :: _ => ((divr l x).2 :: (divr l x).1, a + (divr l x).2 * x)
theorem divr_cons (a b : K) (l : List K) (x : K) : divr (a :: b :: l) x = ((divr (b :: l) x).2 :: (divr (b :: l) x).1, a + (divr (b :: l) x).2 * x) := rfl
theorem divr_length (l : List K) (x : K) : (divr l x).1.length = l.length - 1 := by
  induction l with
  | nil => rfl
  | cons a l ih => cases l with
    | nil => rfl
    | cons b l => rw [divr_cons]; simp only [List.length_cons] at ih ⊢; omega
theorem divr_rem (l : List K) (x : K) : (divr l x).2 = ev l x := by
  induction l with
  | nil => rfl
  | cons a l ih => cases l with
    | nil => show a = 0 * x + a; rw [zero_mul, zero_add]
    | cons b l => rw [divr_cons, ih, ev_cons]; exact CRing.add_comm _ _
/-- the coefficients: co l = co q shifted - x co q, + r at 0 -/
theorem divr_co (l : List K) (x : K) : ∀ n, co l n = (if n = 0 then (divr l x).2 else co (divr l x).1 (n - 1)) - x * co (divr l x).1 n := by
  induction l with
  | nil =>
    intro n
    show co [] n = (if n = 0 then (0 : K) else co [] (n - 1)) - x * co [] n
    rw [co_nil, co_nil, mul_zero, sub_zero]; split <;> rfl
  | cons a l ih => cases l with
    | nil =>
      intro n
      show co [a] n = (if n = 0 then a else co [] (n - 1)) - x * co [] n
      rw [co_nil, co_nil, mul_zero, sub_zero]
      cases n with
      | zero => rfl
      | succ n => rfl
    | cons b l =>
      intro n
      rw [divr_cons]
      cases n with
      | zero =>
        show a = a + (divr (b :: l) x).2 * x - x * (divr (b :: l) x).2
        exact ring_of [a, (divr (b :: l) x).2, x] v0 (v0 + v1 * v2 - v2 * v1) rfl
      | succ n =>
        rw [co_cons_succ, ih n, co_cons_succ, if_neg (Nat.succ_ne_zero n)]
        cases n with
        | zero => rw [if_pos rfl]; rfl
        | succ n => rw [if_neg (Nat.succ_ne_zero n)]; rfl
theorem divr_mul (l : List K) (x y : K) : ev l y = ev (divr l x).1 y * (y - x) + ev l x := by
  induction l with
  | nil => show (0 : K) = 0 * (y - x) + 0; rw [zero_mul, add_zero]
  | cons a l ih => cases l with
    | nil =>
      show 0 * y + a = 0 * (y - x) + (0 * x + a)
      exact ring_of [a, x, y] (0 * v2 + v0) (0 * (v2 - v1) + (0 * v1 + v0)) rfl
    | cons b l =>
      rw [divr_cons, ev_cons a, ih, ev_cons a, divr_rem]
      show _ = ev (ev (b :: l) x :: (divr (b :: l) x).1) y * (y - x) + (ev (b :: l) x * x + a)
      rw [ev_cons (ev (b :: l) x)]
      exact ring_of [ev (divr (b :: l) x).1 y, y, x, ev (b :: l) x, a] ((v0 * (v1 - v2) + v3) * v1 + v4) ((v0 * v1 + v3) * (v1 - v2) + (v3 * v2 + v4)) rfl

/-- a list of length n that vanishes at n different elements is zero -/
theorem roots_all : ∀ (n : Nat) (l : List K) (xs : List K), l.length ≤ n → xs.length = n → xs.Nodup → (∀ x ∈ xs, ev l x = 0) → ∀ i, co l i = 0
  | 0, l, _, hl, _, _, _ => by
    have : l = [] := List.length_eq_zero_iff.1 (by omega)
    subst this; exact co_nil
  | n + 1, l, xs, hl, hx, hn, h => by
    match xs, hx with
    | x :: xs, hx =>
      have hx0 := h x (by simp)
      have hq := roots_all n (divr l x).1 xs (by rw [divr_length]; omega) (by simpa using hx) (List.nodup_cons.1 hn).2 (by
        intro y hy
        have h1 := h y (by simp [hy])
        rw [divr_mul l x y, hx0, add_zero] at h1
        rcases mul_eq_zero.1 h1 with h2 | h2
        · exact h2
        · exact absurd (eq_of_sub h2) (fun e => (List.nodup_cons.1 hn).1 (e ▸ hy)))
      intro i
      rw [divr_co l x i, hq i, mul_zero, sub_zero, divr_rem, hx0, hq (i - 1)]
      split <;> rfl
/-- two lists of length at most n with equal values at n different elements have equal coefficients -/
theorem interp_unique {n : Nat} {l m : List K} {xs : List K} (hl : l.length ≤ n) (hm : m.length ≤ n) (hx : xs.length = n) (hn : xs.Nodup) (h : ∀ x ∈ xs, ev l x = ev m x) (i : Nat) : co l i = co m i := by
  have e := roots_all n (psub l m) xs (by unfold psub; rw [tab_length]; omega) hx hn (fun x hx => by rw [ev_psub, h x hx, sub_self]) i
  rw [co_psub] at e
  exact eq_of_sub e
/-- a list that is not zero has fewer different roots than its trimmed length -/
theorem root_bound {l : List K} (h : trim l ≠ []) {xs : List K} (hn : xs.Nodup) (hx : ∀ x ∈ xs, ev l x = 0) : xs.length < (trim l).length := by
  rcases Nat.lt_or_ge xs.length (trim l).length with h' | h'
  · exact h'
  · have e := roots_all xs.length (trim l) xs h' rfl hn (fun x hx' => by rw [ev_trim]; exact hx x hx')
    exact absurd (trim_eq_nil.2 fun n => by rw [← co_trim]; exact e n) h
end
end Att

/- The discrete Fourier transform over a field: inversion; the fast transform's recursion; bit reversal. No program in sight. -/
namespace Att
open CRing
section
variable {K : Type} [Fld K]

theorem geom' (u : K) (n : Nat) : (u - 1) * sm n (fun i => pw u i) = pw u n - 1 := by
  induction n with
  | zero => rw [sm_zero, mul_zero, pw_zero, sub_self]
  | succ n ih =>
    rw [sm_succ, mul_add, ih, pw_succ]
    exact ring_of [u, pw u n] (v1 - 1 + (v0 - 1) * v1) (v1 * v0 - 1) rfl
theorem geom_zero (u : K) (n : Nat) (h1 : u ≠ 1) (hn : pw u n = 1) : sm n (fun i => pw u i) = 0 := by
  have e := geom' u n
  rw [hn, sub_self] at e
  rcases mul_eq_zero.1 e with e | e
  · exact absurd (eq_of_sub e) h1
  · exact e
theorem sm_const (n : Nat) (c : K) : sm n (fun _ => c) = nat n * c := by
  induction n with
  | zero => rw [sm_zero]; exact (zero_mul c).symm
  | succ n ih => rw [sm_succ, ih, nat, add_mul, one_mul]

/-- w is a root of unity of order n -/
structure Prim (w : K) (n : Nat) : Prop where
  pos : 0 < n
  one : pw w n = 1
  inj : ∀ i j, i < n → j < n → pw w i = pw w j → i = j
theorem Prim.ne_zero {w : K} {n : Nat} (h : Prim w n) : w ≠ 0 := by
  intro e
  have := h.one
  rw [e, zero_pw n h.pos] at this
  exact Fld.zero_ne_one this
theorem pw_inv {w : K} (hw : w ≠ 0) (n : Nat) : pw w n * pw (Fld.inv w) n = 1 := by rw [← mul_pw, Fld.mul_inv w hw, one_pw]
theorem inv_pw (w : K) (n : Nat) : Fld.inv (pw w n) = pw (Fld.inv w) n := by
  induction n with
  | zero => exact (inv_unique (mul_one 1)).symm
  | succ n ih => rw [pw_succ, pw_succ, inv_mul, ih]
theorem Prim.inv {w : K} {n : Nat} (h : Prim w n) : Prim (Fld.inv w) n where
  pos := h.pos
  one := by rw [← inv_pw, h.one]; exact (inv_unique (mul_one 1)).symm
  inj i j hi hj e := by
    apply h.inj i j hi hj
    rw [← inv_pw, ← inv_pw] at e
    rw [← inv_inv (pw w i), e, inv_inv]

def dft (n : Nat) (w : K) (a : Nat → K) (i : Nat) : K := sm n fun j => a j * pw w (i * j)
theorem dft_ev (l : List K) (n : Nat) (h : l.length ≤ n) (w : K) (i : Nat) : dft n w (co l) i = ev l (pw w i) := by
  rw [ev_sum l _ n h]
  exact sm_congr fun j _ => by rw [pw_mul]
theorem dft_congr {n : Nat} {w : K} {a b : Nat → K} (h : ∀ j, j < n → a j = b j) (i : Nat) : dft n w a i = dft n w b i :=
  sm_congr fun j hj => by rw [h j hj]
/-- the transform and the transform at the inverse root give n times what was there -/
theorem dft_dft {w : K} {n : Nat} (h : Prim w n) (a : Nat → K) (l : Nat) (hl : l < n) : dft n (Fld.inv w) (dft n w a) l = nat n * a l := by
  have hw := h.ne_zero
  unfold dft
  have e1 : sm n (fun i => sm n (fun j => a j * pw w (i * j)) * pw (Fld.inv w) (l * i)) = sm n (fun i => sm n (fun j => a j * pw (pw w j * pw (Fld.inv w) l) i)) :=
    sm_congr fun i _ => by
      rw [← sm_mul_right]
      exact sm_congr fun j _ => by rw [mul_pw, ← pw_mul, ← pw_mul, Nat.mul_comm i j, mul_assoc]
  rw [e1, sm_swap, sm_single l hl]
  · rw [pw_inv hw l, sm_congr (g := fun _ => a l) (fun i _ => by rw [one_pw, mul_one]), sm_const]
  · intro j hj hne
    rw [sm_mul, geom_zero, mul_zero]
    · intro e
      apply hne
      apply h.inj j l hj hl
      have e2 : pw w j * pw (Fld.inv w) l * pw w l = pw w l := by rw [e, one_mul]
      rwa [mul_assoc, mul_comm (pw (Fld.inv w) l), pw_inv hw l, mul_one] at e2
    · rw [mul_pw, ← pw_mul, ← pw_mul, Nat.mul_comm j, Nat.mul_comm l, pw_mul, pw_mul, h.one, h.inv.one, one_pw, one_pw, mul_one]
theorem dft_dft' {w : K} {n : Nat} (h : Prim w n) (a : Nat → K) (l : Nat) (hl : l < n) : dft n w (dft n (Fld.inv w) a) l = nat n * a l := by
  have := dft_dft h.inv a l hl
  rwa [inv_inv] at this
theorem dft_mul (n : Nat) (w c : K) (a : Nat → K) (i : Nat) : dft n w (fun j => a j * c) i = dft n w a i * c := by
  unfold dft
  rw [← sm_mul_right]
  exact sm_congr fun j _ => by rw [mul_assoc, mul_comm c, ← mul_assoc]
theorem dft_add (n : Nat) (w : K) (a b : Nat → K) (i : Nat) : dft n w (fun j => a j + b j) i = dft n w a i + dft n w b i := by
  unfold dft
  rw [← sm_add]
  exact sm_congr fun j _ => add_mul _ _ _

/-- even and odd coefficients -/
theorem sm_even_odd (m : Nat) (f : Nat → K) : sm (2 * m) f = sm m (fun j => f (2 * j)) + sm m (fun j => f (2 * j + 1)) := by
  induction m with
  | zero => rw [Nat.mul_zero, sm_zero, sm_zero, sm_zero, add_zero]
  | succ m ih =>
    rw [show 2 * (m + 1) = 2 * m + 1 + 1 from by omega, sm_succ, sm_succ, ih, sm_succ, sm_succ]
    exact ring_of [sm m (fun j => f (2 * j)), sm m (fun j => f (2 * j + 1)), f (2 * m), f (2 * m + 1)] (v0 + v1 + v2 + v3) (v0 + v2 + (v1 + v3)) rfl
/-- the butterfly: the lower and the upper half of a transform of twice the length -/
theorem dft_low (m : Nat) (w : K) (a : Nat → K) (i : Nat) :
    dft (2 * m) w a i = dft m (w * w) (fun j => a (2 * j)) i + dft m (w * w) (fun j => a (2 * j + 1)) i * pw w i := by
  unfold dft
  rw [sm_even_odd, ← sm_mul_right]
  congr 1
  · exact sm_congr fun j _ => by rw [← pw_two, ← pw_mul]; congr 2; rw [Nat.mul_left_comm]
  · exact sm_congr fun j _ => by
      rw [← pw_two, ← pw_mul, mul_assoc, ← pw_add]; congr 2
      rw [Nat.mul_add, Nat.mul_left_comm, Nat.mul_one]
theorem dft_high (m : Nat) (w : K) (hw : pw w m = -1) (a : Nat → K) (i : Nat) :
    dft (2 * m) w a (m + i) = dft m (w * w) (fun j => a (2 * j)) i - dft m (w * w) (fun j => a (2 * j + 1)) i * pw w i := by
  have h2 : pw (w * w) m = 1 := by rw [mul_pw, hw, neg_one_sq]
  rw [dft_low]
  have e : ∀ b : Nat → K, dft m (w * w) b (m + i) = dft m (w * w) b i := by
    intro b
    unfold dft
    exact sm_congr fun j _ => by rw [Nat.add_mul, pw_add, pw_mul, h2, one_pw, one_mul]
  rw [e, e, pw_add, hw]
  exact ring_of [dft m (w * w) (fun j => a (2 * j)) i, dft m (w * w) (fun j => a (2 * j + 1)) i, pw w i] (v0 + v1 * (-1 * v2)) (v0 - v1 * v2) rfl
end

/- bit reversal of k bits -/
def rev : Nat → Nat → Nat
  | 0, _ => 0
  | k + 1, i => (i % 2) * 2 ^ k + rev k (i / 2)
theorem rev_lt : ∀ (k i : Nat), rev k i < 2 ^ k
  | 0, _ => by simp [rev]
  | k + 1, i => by
    have := rev_lt k (i / 2)
    rw [rev, Nat.pow_succ]
    rcases Nat.mod_two_eq_zero_or_one i with h | h <;> rw [h] <;> omega
theorem rev_even (k i : Nat) : rev (k + 1) (2 * i) = rev k i := by
  rw [rev, show 2 * i % 2 = 0 from by omega, show 2 * i / 2 = i from by omega]; omega
theorem rev_odd (k i : Nat) : rev (k + 1) (2 * i + 1) = 2 ^ k + rev k i := by
  rw [rev, show (2 * i + 1) % 2 = 1 from by omega, show (2 * i + 1) / 2 = i from by omega]; omega
/-- from the other end -/
theorem rev_top : ∀ (k i : Nat), i < 2 ^ k → rev (k + 1) (2 ^ k + i) = 2 * rev k i + 1 ∧ rev (k + 1) i = 2 * rev k i
  | 0, i, h => by
    have : i = 0 := by simp at h; omega
    subst this; exact ⟨rfl, rfl⟩
  | k + 1, i, h => by
    rw [Nat.pow_succ] at h
    have h2 : i / 2 < 2 ^ k := by omega
    obtain ⟨e1, e2⟩ := rev_top k (i / 2) h2
    constructor
    · rw [rev, show (2 ^ (k + 1) + i) / 2 = 2 ^ k + i / 2 from by rw [Nat.pow_succ]; omega, e1,
        show (2 ^ (k + 1) + i) % 2 = i % 2 from by rw [Nat.pow_succ]; omega, rev, Nat.pow_succ]
      rcases Nat.mod_two_eq_zero_or_one i with h | h <;> rw [h] <;> omega
    · rw [rev, e2, rev, Nat.pow_succ]
      rcases Nat.mod_two_eq_zero_or_one i with h | h <;> rw [h] <;> omega
theorem rev_rev : ∀ (k i : Nat), i < 2 ^ k → rev k (rev k i) = i
  | 0, i, h => by simp at h; subst h; rfl
  | k + 1, i, h => by
    have hl := rev_lt k (i / 2)
    rw [Nat.pow_succ] at h
    have ih := rev_rev k (i / 2) (by omega)
    obtain ⟨e1, e2⟩ := rev_top k (rev k (i / 2)) hl
    have e : rev (k + 1) i = (i % 2) * 2 ^ k + rev k (i / 2) := rfl
    rw [e]
    rcases Nat.mod_two_eq_zero_or_one i with h0 | h0
    · rw [h0, Nat.zero_mul, Nat.zero_add, e2, ih]; omega
    · rw [h0, Nat.one_mul, e1, ih]; omega

/- the fast transform -/
section
variable {K : Type} [Fld K]
/-- what stands at place x behind the stage s of a transform of 2^k values: block x / 2^s holds the transform of every 2^(k-s)-th value from the reversed block's number on -/
def stage (k s : Nat) (w : Nat → K) (a : Nat → K) (x : Nat) : K :=
  dft (2 ^ s) (w s) (fun j => a (rev (k - s) (x / 2 ^ s) + 2 ^ (k - s) * j)) (x % 2 ^ s)
theorem stage_zero (k : Nat) (w a : Nat → K) (x : Nat) : stage k 0 w a x = a (rev k x) := by
  unfold stage dft
  rw [Nat.pow_zero, Nat.div_one, Nat.mod_one, sm_succ, sm_zero, zero_add, Nat.zero_mul, pw_zero, mul_one]
  show a (rev (k - 0) x + 2 ^ (k - 0) * 0) = a (rev k x)
  rw [Nat.mul_zero, Nat.add_zero, Nat.sub_zero]
theorem stage_last (k : Nat) (w a : Nat → K) (x : Nat) (hx : x < 2 ^ k) : stage k k w a x = dft (2 ^ k) (w k) a x := by
  unfold stage
  rw [Nat.sub_self, Nat.mod_eq_of_lt hx]
  apply dft_congr
  intro j _
  congr 1
  show 0 + 2 ^ 0 * j = j
  omega
/-- a stage out of the one before: block t of the stage s + 1, place i -/
theorem stage_step (k s : Nat) (w : Nat → K) (hs : s < k) (hw : w (s + 1) * w (s + 1) = w s) (hm : pw (w (s + 1)) (2 ^ s) = -1) (a : Nat → K) (t i : Nat) (hi : i < 2 ^ s) :
    stage k (s + 1) w a (t * 2 ^ (s + 1) + i) = stage k s w a (t * 2 ^ (s + 1) + i) + stage k s w a (t * 2 ^ (s + 1) + 2 ^ s + i) * pw (w (s + 1)) i ∧
    stage k (s + 1) w a (t * 2 ^ (s + 1) + 2 ^ s + i) = stage k s w a (t * 2 ^ (s + 1) + i) - stage k s w a (t * 2 ^ (s + 1) + 2 ^ s + i) * pw (w (s + 1)) i := by
  have hp : 0 < 2 ^ s := Nat.two_pow_pos s
  have p2 : 2 ^ (s + 1) = 2 * 2 ^ s := by rw [Nat.pow_succ]; omega
  have d1 : (t * 2 ^ (s + 1) + i) / 2 ^ (s + 1) = t := by rw [Nat.add_comm, Nat.add_mul_div_right _ _ (by omega), Nat.div_eq_of_lt (by omega), Nat.zero_add]
  have d2 : (t * 2 ^ (s + 1) + 2 ^ s + i) / 2 ^ (s + 1) = t := by rw [Nat.add_assoc, Nat.add_comm, Nat.add_mul_div_right _ _ (by omega), Nat.div_eq_of_lt (by omega), Nat.zero_add]
  have m1 : (t * 2 ^ (s + 1) + i) % 2 ^ (s + 1) = i := by rw [Nat.add_comm, Nat.add_mul_mod_self_right, Nat.mod_eq_of_lt (by omega)]
  have m2 : (t * 2 ^ (s + 1) + 2 ^ s + i) % 2 ^ (s + 1) = 2 ^ s + i := by rw [Nat.add_assoc, Nat.add_comm, Nat.add_mul_mod_self_right, Nat.mod_eq_of_lt (by omega)]
  have c1 : t * 2 ^ (s + 1) + i = i + 2 * t * 2 ^ s := by rw [p2, ← Nat.mul_assoc, Nat.mul_comm t 2]; omega
  have c2 : t * 2 ^ (s + 1) + 2 ^ s + i = i + (2 * t + 1) * 2 ^ s := by rw [p2, ← Nat.mul_assoc, Nat.mul_comm t 2, Nat.add_mul]; omega
  have d3 : (t * 2 ^ (s + 1) + i) / 2 ^ s = 2 * t := by rw [c1, Nat.add_mul_div_right _ _ hp, Nat.div_eq_of_lt hi, Nat.zero_add]
  have d4 : (t * 2 ^ (s + 1) + 2 ^ s + i) / 2 ^ s = 2 * t + 1 := by rw [c2, Nat.add_mul_div_right _ _ hp, Nat.div_eq_of_lt hi, Nat.zero_add]
  have m3 : (t * 2 ^ (s + 1) + i) % 2 ^ s = i := by rw [c1, Nat.add_mul_mod_self_right, Nat.mod_eq_of_lt hi]
  have m4 : (t * 2 ^ (s + 1) + 2 ^ s + i) % 2 ^ s = i := by rw [c2, Nat.add_mul_mod_self_right, Nat.mod_eq_of_lt hi]
  have ks : k - s = (k - (s + 1)) + 1 := by omega
  have q1 : (fun j => a (rev (k - s) (2 * t) + 2 ^ (k - s) * j)) = fun j => a (rev (k - (s + 1)) t + 2 ^ (k - (s + 1)) * (2 * j)) := by
    funext j; rw [ks, rev_even, Nat.pow_succ, Nat.mul_assoc]
  have q2 : (fun j => a (rev (k - s) (2 * t + 1) + 2 ^ (k - s) * j)) = fun j => a (rev (k - (s + 1)) t + 2 ^ (k - (s + 1)) * (2 * j + 1)) := by
    funext j; congr 1; rw [ks, rev_odd, Nat.pow_succ, Nat.mul_assoc, Nat.mul_add]; omega
  unfold stage
  rw [d1, d2, m1, m2, d3, d4, m3, m4, q1, q2, p2, ← hw]
  exact ⟨dft_low _ _ _ _, dft_high _ _ hm _ _⟩
end
/-- the roots of the field are primitive -/
theorem root_prim (k : Nat) (h : k ≤ 32) : Prim (root k) (2 ^ k) where
  pos := Nat.two_pow_pos k
  one := root_full k h
  inj i j hi hj e := by
    cases k with
    | zero => simp at hi hj; omega
    | succ k => exact pow_inj (root (k + 1)) k (root_half k (by omega)) one_ne_neg i j hi hj e
end Att

/- The quadratic extension of F by a root of 7: a field; conjugation; the power P is the conjugate. No program in sight. -/
namespace Att
open CRing

structure Ext where
  a : F
  b : F
namespace Ext
theorem ext {x y : Ext} (h : x.a = y.a) (k : x.b = y.b) : x = y := by cases x; cases y; cases h; cases k; rfl
instance : DecidableEq Ext := fun x y => if h : x.a = y.a ∧ x.b = y.b then isTrue (ext h.1 h.2) else isFalse fun e => h (e ▸ ⟨rfl, rfl⟩)
def seven : F := int 7
instance : Zero Ext := ⟨⟨0, 0⟩⟩
instance : One Ext := ⟨⟨1, 0⟩⟩
instance : Add Ext := ⟨fun x y => ⟨x.a + y.a, x.b + y.b⟩⟩
instance : Sub Ext := ⟨fun x y => ⟨x.a - y.a, x.b - y.b⟩⟩
instance : Neg Ext := ⟨fun x => ⟨-x.a, -x.b⟩⟩
instance : Mul Ext := ⟨fun x y => ⟨x.a * y.a + seven * (x.b * y.b), x.a * y.b + x.b * y.a⟩⟩
theorem zero_a : (0 : Ext).a = 0 := rfl
theorem zero_b : (0 : Ext).b = 0 := rfl
theorem one_a : (1 : Ext).a = 1 := rfl
theorem one_b : (1 : Ext).b = 0 := rfl
theorem add_a (x y : Ext) : (x + y).a = x.a + y.a := rfl
theorem add_b (x y : Ext) : (x + y).b = x.b + y.b := rfl
theorem sub_a (x y : Ext) : (x - y).a = x.a - y.a := rfl
theorem sub_b (x y : Ext) : (x - y).b = x.b - y.b := rfl
theorem neg_a (x : Ext) : (-x).a = -x.a := rfl
theorem neg_b (x : Ext) : (-x).b = -x.b := rfl
theorem mul_a (x y : Ext) : (x * y).a = x.a * y.a + seven * (x.b * y.b) := rfl
theorem mul_b (x y : Ext) : (x * y).b = x.a * y.b + x.b * y.a := rfl
instance : CRing Ext where
  add_assoc _ _ _ := ext (CRing.add_assoc _ _ _) (CRing.add_assoc _ _ _)
  add_comm _ _ := ext (CRing.add_comm _ _) (CRing.add_comm _ _)
  add_zero _ := ext (CRing.add_zero _) (CRing.add_zero _)
  add_neg _ := ext (CRing.add_neg _) (CRing.add_neg _)
  sub_eq _ _ := ext (CRing.sub_eq _ _) (CRing.sub_eq _ _)
  mul_assoc x y z := ext
    (ring_of [seven, x.a, x.b, y.a, y.b, z.a, z.b] ((v1 * v3 + v0 * (v2 * v4)) * v5 + v0 * ((v1 * v4 + v2 * v3) * v6)) (v1 * (v3 * v5 + v0 * (v4 * v6)) + v0 * (v2 * (v3 * v6 + v4 * v5))) rfl)
    (ring_of [seven, x.a, x.b, y.a, y.b, z.a, z.b] ((v1 * v3 + v0 * (v2 * v4)) * v6 + (v1 * v4 + v2 * v3) * v5) (v1 * (v3 * v6 + v4 * v5) + v2 * (v3 * v5 + v0 * (v4 * v6))) rfl)
  mul_comm x y := ext
    (ring_of [seven, x.a, x.b, y.a, y.b] (v1 * v3 + v0 * (v2 * v4)) (v3 * v1 + v0 * (v4 * v2)) rfl)
    (ring_of [seven, x.a, x.b, y.a, y.b] (v1 * v4 + v2 * v3) (v3 * v2 + v4 * v1) rfl)
  mul_one x := ext
    (ring_of [seven, x.a, x.b] (v1 * 1 + v0 * (v2 * 0)) v1 rfl)
    (ring_of [seven, x.a, x.b] (v1 * 0 + v2 * 1) v2 rfl)
  mul_add x y z := ext
    (ring_of [seven, x.a, x.b, y.a, y.b, z.a, z.b] (v1 * (v3 + v5) + v0 * (v2 * (v4 + v6))) ((v1 * v3 + v0 * (v2 * v4)) + (v1 * v5 + v0 * (v2 * v6))) rfl)
    (ring_of [seven, x.a, x.b, y.a, y.b, z.a, z.b] (v1 * (v4 + v6) + v2 * (v3 + v5)) ((v1 * v4 + v2 * v3) + (v1 * v6 + v2 * v5)) rfl)

/-- the base field in it -/
def base (a : F) : Ext := ⟨a, 0⟩
theorem base_add (a b : F) : base (a + b) = base a + base b := ext rfl (CRing.add_zero _).symm
theorem base_mul (a b : F) : base (a * b) = base a * base b := ext
  (ring_of [seven, a, b] (v1 * v2) (v1 * v2 + v0 * (0 * 0)) rfl) (ring_of [a, b] 0 (v0 * 0 + 0 * v1) rfl)
theorem base_zero : base 0 = 0 := rfl
theorem base_one : base 1 = 1 := rfl
theorem base_inj {a b : F} (h : base a = base b) : a = b := congrArg Ext.a h
theorem base_pw (a : F) (n : Nat) : base (pw a n) = pw (base a) n := by
  induction n with
  | zero => rfl
  | succ n ih => rw [pw_succ, pw_succ, base_mul, ih]
theorem base_nat (n : Nat) : base (nat n) = nat n := by
  induction n with
  | zero => rfl
  | succ n ih => rw [nat, nat, base_add, ih, base_one]
theorem base_neg (a : F) : base (-a) = -base a := ext rfl CRing.neg_zero.symm
theorem base_int (z : Int) : base (int z) = int z := by
  cases z with
  | ofNat n => exact base_nat n
  | negSucc n => show base (-nat (n + 1)) = -nat (n + 1); rw [base_neg, base_nat]

def conj (x : Ext) : Ext := ⟨x.a, -x.b⟩
theorem conj_add (x y : Ext) : conj (x + y) = conj x + conj y := ext rfl (neg_add_rev _ _)
theorem conj_mul (x y : Ext) : conj (x * y) = conj x * conj y := ext
  (ring_of [seven, x.a, x.b, y.a, y.b] (v1 * v3 + v0 * (v2 * v4)) (v1 * v3 + v0 * (-v2 * -v4)) rfl)
  (ring_of [seven, x.a, x.b, y.a, y.b] (-(v1 * v4 + v2 * v3)) (v1 * -v4 + -v2 * v3) rfl)
theorem conj_conj (x : Ext) : conj (conj x) = x := ext rfl (neg_neg _)
def norm (x : Ext) : F := x.a * x.a - seven * (x.b * x.b)
theorem mul_conj (x : Ext) : x * conj x = base (norm x) := ext
  (ring_of [seven, x.a, x.b] (v1 * v1 + v0 * (v2 * -v2)) (v1 * v1 - v0 * (v2 * v2)) rfl)
  (ring_of [x.a, x.b] (v0 * -v1 + v1 * v0) 0 rfl)

theorem seven_eq : seven = Zm.of 7 := int_n 7
/-- 7 is no square -/
theorem seven_no_sq (c : F) : c * c ≠ seven := by
  intro h
  have e := seven_half
  rw [← seven_eq, ← h, ← pw_two, ← pw_mul] at e
  by_cases hc : c = 0
  · rw [hc, zero_pw _ (by omega)] at e
    exact absurd e (by decide)
  · have e2 : pw c (2 * 9223372034707292160) = 1 := F.fermat1 c hc
    rw [e2] at e
    exact one_ne_neg e
theorem norm_ne_zero {x : Ext} (h : x ≠ 0) : norm x ≠ 0 := by
  intro e
  unfold norm at e
  by_cases hb : x.b = 0
  · rw [hb, mul_zero, mul_zero, CRing.sub_zero] at e
    have ha : x.a = 0 := (mul_eq_zero.1 e).elim id id
    exact h (ext ha hb)
  · apply seven_no_sq (x.a * Fld.inv x.b)
    have e1 : x.a * x.a = seven * (x.b * x.b) := eq_of_sub e
    have e2 : x.a * Fld.inv x.b * (x.a * Fld.inv x.b) = x.a * x.a * (Fld.inv x.b * Fld.inv x.b) :=
      ring_of [x.a, Fld.inv x.b] (v0 * v1 * (v0 * v1)) (v0 * v0 * (v1 * v1)) rfl
    rw [e2, e1]
    have e3 : seven * (x.b * x.b) * (Fld.inv x.b * Fld.inv x.b) = seven * ((x.b * Fld.inv x.b) * (x.b * Fld.inv x.b)) :=
      ring_of [seven, x.b, Fld.inv x.b] (v0 * (v1 * v1) * (v2 * v2)) (v0 * ((v1 * v2) * (v1 * v2))) rfl
    rw [e3, Fld.mul_inv _ hb, CRing.mul_one, CRing.mul_one]
/-- the inverse -/
def inv (x : Ext) : Ext := conj x * base (Fld.inv (norm x))
theorem mul_inv (x : Ext) (h : x ≠ 0) : x * inv x = 1 := by
  unfold inv
  rw [← CRing.mul_assoc, mul_conj, ← base_mul, Fld.mul_inv _ (norm_ne_zero h), base_one]
theorem conj_zero : conj 0 = 0 := ext rfl CRing.neg_zero
theorem conj_zero_mul (c : Ext) : conj 0 * c = 0 := by rw [conj_zero, CRing.zero_mul]
theorem inv_zero : inv 0 = 0 := conj_zero_mul (base (Fld.inv (norm 0)))
instance : Fld Ext where
  inv := inv
  zero_ne_one h := F.zero_ne_one (congrArg Ext.a h)
  mul_inv := mul_inv
  inv_zero := inv_zero
  deq := inferInstance
theorem inv_def (x : Ext) : Fld.inv x = conj x * base (Fld.inv (norm x)) := rfl
theorem base_inv (a : F) : base (Fld.inv a) = Fld.inv (base a) := by
  by_cases h : a = 0
  · rw [h, base_zero, Fld.inv_zero, Fld.inv_zero, base_zero]
  · apply inv_unique
    rw [← base_mul, Fld.mul_inv _ h, base_one]

/-- the root of 7 -/
def X : Ext := ⟨0, 1⟩
theorem X_sq : X * X = base seven := ext
  (ring_of [seven] (0 * 0 + v0 * (1 * 1)) v0 rfl) (ring_of [seven] (0 * 1 + 1 * 0) 0 rfl)
theorem split (x : Ext) : x = base x.a + base x.b * X := ext
  (ring_of [seven, x.a, x.b] v1 (v1 + (v2 * 0 + v0 * (0 * 1))) rfl) (ring_of [x.a, x.b] v1 (0 + (v1 * 1 + 0 * 0)) rfl)
theorem nat_P : (nat P : Ext) = 0 := by rw [← base_nat, F.nat_P, base_zero]
theorem X_pow' (n p : Nat) (hp : p = 2 * n + 1) (h : pw seven n = -1) : pw X p = -X := by
  subst hp
  rw [pw_succ, pw_mul, pw_two, X_sq, ← base_pw, h, base_neg, base_one, neg_mul, CRing.one_mul]
theorem seven_half' : pw seven 9223372034707292160 = -1 := by rw [seven_eq]; exact seven_half
theorem X_pow : pw X P = -X := X_pow' 9223372034707292160 P rfl seven_half'
/-- the power P is the conjugate -/
theorem frob (x : Ext) : pw x P = conj x := by
  conv => lhs; rw [split x]
  rw [frobenius P P_pos P_dvd_mul nat_P, mul_pw, ← base_pw, ← base_pw, F.fermat, F.fermat, X_pow]
  exact ext (ring_of [seven, x.a, x.b] (v1 + (v2 * -0 + v0 * (0 * -1))) v1 rfl) (ring_of [x.a, x.b] (0 + (v1 * -1 + 0 * -0)) (-v1) rfl)
/-- the power P^2 - 1 of an element other than 0 is 1 -/
theorem order (x : Ext) (h : x ≠ 0) : pw (pw x (P - 1)) (P + 1) = 1 := by
  rw [← pw_mul, Nat.mul_comm, pw_mul, pw_succ, frob, CRing.mul_comm, mul_conj, ← base_pw, F.fermat1 _ (norm_ne_zero h), base_one]
end Ext
end Att

/- The product of two polynomials as the double loop computes it. No program in sight. -/
namespace Att
open CRing
section
variable {K : Type} [Fld K]
def accF (l k : List K) (i j t : Nat) : K := sm i (fun a => if a ≤ t then co l a * co k (t - a) else 0) + (if i ≤ t ∧ t - i < j then co l i * co k (t - i) else 0)
def accL (N : Nat) (l k : List K) (i j : Nat) : List K := tab N (accF l k i j)
theorem accL_len (N : Nat) (l k : List K) (i j : Nat) : (accL N l k i j).length = N := tab_length _ _
theorem accL_zero (N : Nat) (l k : List K) : accL N l k 0 0 = List.replicate N 0 := by
  unfold accL tab
  apply List.ext_getElem?
  intro t
  by_cases h : t < N
  · rw [List.getElem?_map, List.getElem?_range h, List.getElem?_replicate, if_pos h]
    simp only [Option.map_some, accF, sm_zero, Nat.not_lt_zero, and_false, if_false, add_zero]
  · rw [List.getElem?_eq_none (by simp; omega), List.getElem?_eq_none (by simp; omega)]
theorem accF_next (l k : List K) (i m : Nat) (hm : k.length ≤ m) (t : Nat) : accF l k (i + 1) 0 t = accF l k i m t := by
  unfold accF
  rw [sm_succ, if_neg (show ¬ (i + 1 ≤ t ∧ t - (i + 1) < 0) from by omega), add_zero]
  congr 1
  by_cases h : i ≤ t
  · by_cases h2 : t - i < m
    · rw [if_pos h, if_pos ⟨h, h2⟩]
    · rw [if_pos h, if_neg (fun h3 => h2 h3.2), co_big k (t - i) (by omega), mul_zero]
  · rw [if_neg h, if_neg (fun h3 => h h3.1)]
theorem accL_next (N : Nat) (l k : List K) (i : Nat) : accL N l k (i + 1) 0 = accL N l k i k.length := by
  unfold accL tab
  exact List.map_congr_left (fun t _ => accF_next l k i _ (Nat.le_refl _) t)
theorem accL_get {N : Nat} (l k : List K) (i j : Nat) (h : i + j < N) : (accL N l k i j)[i + j]? = some (accF l k i j (i + j)) := by
  unfold accL tab
  rw [List.getElem?_map, List.getElem?_range h]; rfl
theorem accL_set {N : Nat} (l k : List K) (i j : Nat) (h : i + j < N) : (accL N l k i j).set (i + j) (accF l k i j (i + j) + co l i * co k j) = accL N l k i (j + 1) := by
  apply List.ext_getElem?
  intro t
  by_cases ht : t = i + j
  · subst ht
    rw [List.getElem?_set_self (by rw [accL_len]; exact h)]
    unfold accL tab
    rw [List.getElem?_map, List.getElem?_range h]
    simp only [Option.map_some, accF]
    rw [if_neg (show ¬ (i ≤ i + j ∧ i + j - i < j) from by omega), if_pos (show i ≤ i + j ∧ i + j - i < j + 1 from by omega), add_zero, show i + j - i = j from by omega]
  · rw [List.getElem?_set_ne (Ne.symm ht)]
    unfold accL tab
    by_cases h2 : t < N
    · rw [List.getElem?_map, List.getElem?_map, List.getElem?_range h2]
      simp only [Option.map_some, accF]
      congr 3
      exact propext ⟨fun h3 => ⟨h3.1, by omega⟩, fun h3 => ⟨h3.1, by omega⟩⟩
    · rw [List.getElem?_eq_none (by simp; omega), List.getElem?_eq_none (by simp; omega)]
theorem accF_end (l k : List K) (t : Nat) : accF l k l.length 0 t = conv (co l) (co k) t := by
  unfold accF conv
  rw [if_neg (show ¬ (l.length ≤ t ∧ t - l.length < 0) from by omega), add_zero]
  by_cases h : l.length ≤ t + 1
  · rw [show t + 1 = l.length + (t + 1 - l.length) from by omega, sm_split]
    rw [sm_eq_zero (f := fun i => co l (l.length + i) * co k (t - (l.length + i))) (fun i _ => by rw [co_big l _ (by omega), zero_mul]), add_zero]
    exact sm_congr fun a ha => if_pos (by omega)
  · rw [show l.length = (t + 1) + (l.length - (t + 1)) from by omega, sm_split]
    rw [sm_eq_zero (f := fun i => if t + 1 + i ≤ t then co l (t + 1 + i) * co k (t - (t + 1 + i)) else 0) (fun i _ => if_neg (by omega)), add_zero]
    exact sm_congr fun a ha => if_pos (by omega)
theorem accL_end {N : Nat} (l k : List K) (h : l.length + k.length ≤ N + 1) : trim (accL N l k l.length 0) = trim (pmul l k) :=
  trim_ext (fun t => by
    unfold accL
    rw [co_tab, co_pmul]
    split
    · exact accF_end l k t
    · exact (conv_zero_big l k t (by omega)).symm)
end
end Att

/- Reed-Solomon codes, plain: at how many places two rows differ; the least distance; division of polynomials; Gao's algorithm. No program in sight. -/
namespace Att
open CRing
/-- the first n values of x are different -/
def Dif {K : Type} (x : Nat → K) (n : Nat) : Prop := ∀ i j, i < n → j < n → x i = x j → i = j
theorem Dif.nodup {K : Type} {x : Nat → K} {n : Nat} (hx : Dif x n) {l : List Nat} (hl : l.Nodup) (hm : ∀ i ∈ l, i < n) : (l.map x).Nodup := by
  unfold List.Nodup at *
  rw [List.pairwise_map]
  exact List.Pairwise.imp_of_mem (fun {a b} ha hb hab e => hab (hx a b (hm a ha) (hm b hb) e)) hl
section
variable {K : Type} [Fld K]
/-- how many of the first n places differ -/
def dis (f g : Nat → K) : Nat → Nat
  | 0 => 0
  | n + 1 => dis f g n + if f n = g n then 0 else 1
/-- the places where they agree -/
def agr (f g : Nat → K) : Nat → List Nat
  | 0 => []
  | n + 1 => if f n = g n then n :: agr f g n else agr f g n
theorem agr_len (f g : Nat → K) : ∀ n, (agr f g n).length + dis f g n = n
  | 0 => rfl
  | n + 1 => by
    have ih := agr_len f g n
    by_cases h : f n = g n
    · simp only [agr, dis, if_pos h, List.length_cons]; omega
    · simp only [agr, dis, if_neg h]; omega
theorem agr_mem (f g : Nat → K) : ∀ n i, i ∈ agr f g n ↔ i < n ∧ f i = g i
  | 0, i => by simp [agr]
  | n + 1, i => by
    have ih := agr_mem f g n i
    by_cases h : f n = g n
    · simp only [agr, if_pos h, List.mem_cons, ih]
      constructor
      · rintro (rfl | ⟨h1, h2⟩)
        · exact ⟨by omega, h⟩
        · exact ⟨by omega, h2⟩
      · rintro ⟨h1, h2⟩
        by_cases e : i = n
        · exact .inl e
        · exact .inr ⟨by omega, h2⟩
    · simp only [agr, if_neg h, ih]
      constructor
      · rintro ⟨h1, h2⟩; exact ⟨by omega, h2⟩
      · rintro ⟨h1, h2⟩
        refine ⟨?_, h2⟩
        rcases Nat.lt_or_ge i n with h3 | h3
        · exact h3
        · obtain rfl : i = n := by omega
          exact absurd h2 h
theorem agr_nodup (f g : Nat → K) : ∀ n, (agr f g n).Nodup
  | 0 => List.nodup_nil
  | n + 1 => by
    have ih := agr_nodup f g n
    by_cases h : f n = g n
    · simp only [agr, if_pos h]
      exact List.nodup_cons.2 ⟨fun hm => by have := ((agr_mem f g n n).1 hm).1; omega, ih⟩
    · simp only [agr, if_neg h]; exact ih
theorem dis_le (f g : Nat → K) (n : Nat) : dis f g n ≤ n := by have := agr_len f g n; omega
theorem dis_congr {f f' g g' : Nat → K} : ∀ {n : Nat}, (∀ i, i < n → f i = f' i) → (∀ i, i < n → g i = g' i) → dis f g n = dis f' g' n
  | 0, _, _ => rfl
  | n + 1, h1, h2 => by
    simp only [dis]
    rw [dis_congr (n := n) (fun i hi => h1 i (by omega)) (fun i hi => h2 i (by omega)), h1 n (by omega), h2 n (by omega)]
theorem dis_comm (f g : Nat → K) : ∀ n, dis f g n = dis g f n
  | 0 => rfl
  | n + 1 => by
    simp only [dis]; rw [dis_comm f g n]
    congr 1
    by_cases h : f n = g n
    · rw [if_pos h, if_pos h.symm]
    · rw [if_neg h, if_neg (fun e => h e.symm)]
theorem dis_zero {f g : Nat → K} : ∀ {n : Nat}, dis f g n = 0 ↔ ∀ i, i < n → f i = g i
  | 0 => ⟨fun _ i hi => by omega, fun _ => rfl⟩
  | n + 1 => by
    simp only [dis]
    constructor
    · intro h i hi
      have h1 : dis f g n = 0 := by omega
      have h2 : (if f n = g n then 0 else 1) = 0 := by omega
      by_cases e : i = n
      · subst e
        by_cases h3 : f i = g i
        · exact h3
        · rw [if_neg h3] at h2; omega
      · exact dis_zero.1 h1 i (by omega)
    · intro h
      rw [dis_zero.2 (fun i hi => h i (by omega)), if_pos (h n (by omega))]
theorem dis_tri (f g h : Nat → K) : ∀ n, dis f h n ≤ dis f g n + dis g h n
  | 0 => Nat.le_refl _
  | n + 1 => by
    have ih := dis_tri f g h n
    simp only [dis]
    by_cases h1 : f n = g n
    · by_cases h2 : g n = h n
      · rw [if_pos h1, if_pos h2, if_pos (h1.trans h2)]; omega
      · rw [if_pos h1, if_neg h2]; split <;> omega
    · rw [if_neg h1]; split <;> split <;> omega

theorem Prim.dif {w : K} {n : Nat} (h : Prim w n) : Dif (pw w) n := h.inj
theorem many_zero {D : List K} {x : Nat → K} {n : Nat} (hx : Dif x n) {l : List Nat} (hn : l.Nodup) (hm : ∀ i ∈ l, i < n) (hz : ∀ i ∈ l, ev D (x i) = 0) (hlen : (trim D).length ≤ l.length) : trim D = [] := by
  by_cases h : trim D = []
  · exact h
  · have := root_bound h (hx.nodup hn hm) (by
      intro z hz'
      obtain ⟨i, hi, rfl⟩ := List.mem_map.1 hz'
      exact hz i hi)
    rw [List.length_map] at this
    omega
theorem trim_psub_nil {p q : List K} : trim (psub p q) = [] ↔ ∀ i, co p i = co q i := by
  rw [trim_eq_nil]
  exact ⟨fun h i => eq_of_sub (by rw [← co_psub]; exact h i), fun h i => by rw [co_psub, h i, sub_self]⟩
theorem psub_len_le {p q : List K} {k : Nat} (hp : p.length ≤ k) (hq : q.length ≤ k) : (trim (psub p q)).length ≤ k :=
  length_le_of_co fun i hi => by rw [co_psub, co_big p i (by omega), co_big q i (by omega), sub_self]
/-- two different polynomials of fewer than k coefficients agree at fewer than k of the points -/
theorem min_dist {p q : List K} {x : Nat → K} {n k : Nat} (hx : Dif x n) (hp : p.length ≤ k) (hq : q.length ≤ k) (h : ¬ ∀ i, co p i = co q i) :
    n + 1 ≤ dis (fun i => ev p (x i)) (fun i => ev q (x i)) n + k := by
  have hl := agr_len (fun i => ev p (x i)) (fun i => ev q (x i)) n
  have hd := psub_len_le hp hq
  rcases Nat.lt_or_ge (agr (fun i => ev p (x i)) (fun i => ev q (x i)) n).length (trim (psub p q)).length with h1 | h1
  · omega
  · refine absurd (trim_psub_nil.1 ?_) h
    refine many_zero hx (agr_nodup _ _ n) (fun i hi => ((agr_mem _ _ n i).1 hi).1) (fun i hi => ?_) h1
    rw [ev_psub, ((agr_mem _ _ n i).1 hi).2, sub_self]

/- ───── division ───── -/
theorem sm_sub (n : Nat) (f g : Nat → K) : sm n (fun i => f i - g i) = sm n f - sm n g := by
  have : (fun i => f i - g i) = fun i => f i + -g i := by funext i; exact sub_eq _ _
  rw [this, sm_add, sm_neg, ← sub_eq]
/-- p less c times x^s times q, the first j coefficients of q done -/
def dvI (q : List K) (c : K) (s : Nat) (p : List K) (j : Nat) : List K := tab p.length fun i => if s ≤ i ∧ i < s + j then co p i - c * co q (i - s) else co p i
def dvS (q : List K) (c : K) (s : Nat) (p : List K) : List K := dvI q c s p q.length
theorem dvI_len (q : List K) (c : K) (s : Nat) (p : List K) (j : Nat) : (dvI q c s p j).length = p.length := tab_length _ _
theorem dvI_zero (q : List K) (c : K) (s : Nat) (p : List K) : dvI q c s p 0 = p := by
  refine Eq.trans ?_ (tab_eq p)
  unfold dvI tab
  exact List.map_congr_left fun i _ => if_neg (by omega)
theorem dvI_get (q : List K) (c : K) (s : Nat) (p : List K) {j : Nat} (h : s + j < p.length) : (dvI q c s p j)[s + j]? = some (co p (s + j)) := by
  unfold dvI tab
  rw [List.getElem?_map, List.getElem?_range h]
  show some (if _ then _ else _) = _
  rw [if_neg (by omega)]
theorem dvI_set (q : List K) (c : K) (s : Nat) (p : List K) {j : Nat} (h : s + j < p.length) : (dvI q c s p j).set (s + j) (co p (s + j) - c * co q j) = dvI q c s p (j + 1) := by
  apply List.ext_getElem?
  intro x
  by_cases hx : x = s + j
  · subst hx
    rw [List.getElem?_set_self (by rw [dvI_len]; exact h)]
    unfold dvI tab
    rw [List.getElem?_map, List.getElem?_range h]
    show _ = some (if _ then _ else _)
    rw [if_pos (by omega), show s + j - s = j from by omega]
  · rw [List.getElem?_set_ne (Ne.symm hx)]
    unfold dvI tab
    by_cases hn : x < p.length
    · rw [List.getElem?_map, List.getElem?_map, List.getElem?_range hn]
      show some (if _ then _ else _) = some (if _ then _ else _)
      congr 1
      by_cases h1 : s ≤ x ∧ x < s + j
      · rw [if_pos h1, if_pos (by omega)]
      · rw [if_neg h1, if_neg (by omega)]
    · rw [List.getElem?_eq_none (by simp; omega), List.getElem?_eq_none (by simp; omega)]
theorem dvS_len (q : List K) (c : K) (s : Nat) (p : List K) : (dvS q c s p).length = p.length := dvI_len _ _ _ _ _
theorem co_dvS (q : List K) (c : K) (s : Nat) (p : List K) {i : Nat} (hi : i < p.length) : co (dvS q c s p) i = co p i - if s ≤ i then c * co q (i - s) else 0 := by
  unfold dvS dvI
  rw [co_tab, if_pos hi]
  by_cases h1 : s ≤ i
  · by_cases h2 : i < s + q.length
    · rw [if_pos ⟨h1, h2⟩, if_pos h1]
    · rw [if_neg (by omega), if_pos h1, co_big q (i - s) (by omega), mul_zero, sub_zero]
  · rw [if_neg (by omega), if_neg h1, sub_zero]
theorem ev_dvS (q : List K) (c : K) (s : Nat) (p : List K) (h : s + q.length ≤ p.length) (x : K) : ev p x = c * pw x s * ev q x + ev (dvS q c s p) x := by
  rw [ev_sum (dvS q c s p) x p.length (by rw [dvS_len]; exact Nat.le_refl _), ev_sum p x p.length (Nat.le_refl _)]
  have e1 : sm p.length (fun i => co (dvS q c s p) i * pw x i) = sm p.length (fun i => co p i * pw x i - (if s ≤ i then c * co q (i - s) else 0) * pw x i) :=
    sm_congr fun i hi => by
      rw [co_dvS q c s p hi]
      exact ring_of [co p i, if s ≤ i then c * co q (i - s) else 0, pw x i] ((v0 - v1) * v2) (v0 * v2 - v1 * v2) rfl
  have e2 : sm p.length (fun i => (if s ≤ i then c * co q (i - s) else 0) * pw x i) = c * pw x s * ev q x := by
    rw [show p.length = s + (p.length - s) from by omega, sm_split, sm_eq_zero (fun i hi => by rw [if_neg (by omega), zero_mul]), zero_add,
      ev_sum q x (p.length - s) (by omega), ← sm_mul]
    refine sm_congr fun i _ => ?_
    rw [if_pos (by omega), show s + i - s = i from by omega, pw_add]
    exact ring_of [c, co q i, pw x s, pw x i] (v0 * v1 * (v2 * v3)) (v0 * v2 * (v1 * v3)) rfl
  rw [e1, sm_sub, e2]
  exact ring_of [sm p.length (fun i => co p i * pw x i), c * pw x s * ev q x] v0 (v1 + (v0 - v1)) rfl
/-- the dividend behind j steps; the quotient's coefficients, from the top -/
def dP (q : List K) (li : K) (p : List K) (S : Nat) : Nat → List K
  | 0 => p
  | j + 1 => dvS q (co (dP q li p S j) (S - 1 - j + (q.length - 1)) * li) (S - 1 - j) (dP q li p S j)
def dC (q : List K) (li : K) (p : List K) (S j : Nat) : K := co (dP q li p S j) (S - 1 - j + (q.length - 1)) * li
theorem dP_succ (q : List K) (li : K) (p : List K) (S j : Nat) : dP q li p S (j + 1) = dvS q (dC q li p S j) (S - 1 - j) (dP q li p S j) := rfl
theorem dP_len (q : List K) (li : K) (p : List K) (S : Nat) : ∀ j, (dP q li p S j).length = p.length
  | 0 => rfl
  | j + 1 => by rw [dP_succ, dvS_len, dP_len q li p S j]
/-- the quotient behind j steps -/
def dQ (q : List K) (li : K) (p : List K) (S j : Nat) : List K := tab S fun i => if S ≤ i + j then dC q li p S (S - 1 - i) else 0
theorem dQ_len (q : List K) (li : K) (p : List K) (S j : Nat) : (dQ q li p S j).length = S := tab_length _ _
theorem dQ_zero (q : List K) (li : K) (p : List K) (S : Nat) : dQ q li p S 0 = List.replicate S 0 := by
  unfold dQ tab
  apply List.ext_getElem?
  intro i
  by_cases h : i < S
  · rw [List.getElem?_map, List.getElem?_range h, List.getElem?_replicate, if_pos h]
    show some (if _ then _ else _) = _
    rw [if_neg (by omega)]
  · rw [List.getElem?_eq_none (by simp; omega), List.getElem?_eq_none (by simp; omega)]
theorem dQ_set (q : List K) (li : K) (p : List K) {S j : Nat} (h : j < S) : (dQ q li p S j).set (S - 1 - j) (dC q li p S j) = dQ q li p S (j + 1) := by
  apply List.ext_getElem?
  intro x
  by_cases hx : x = S - 1 - j
  · subst hx
    rw [List.getElem?_set_self (by rw [dQ_len]; omega)]
    unfold dQ tab
    rw [List.getElem?_map, List.getElem?_range (by omega)]
    show _ = some (if _ then _ else _)
    rw [if_pos (by omega), show S - 1 - (S - 1 - j) = j from by omega]
  · rw [List.getElem?_set_ne (Ne.symm hx)]
    unfold dQ tab
    by_cases hn : x < S
    · rw [List.getElem?_map, List.getElem?_map, List.getElem?_range hn]
      show some (if _ then _ else _) = some (if _ then _ else _)
      congr 1
      by_cases h1 : S ≤ x + j
      · rw [if_pos h1, if_pos (by omega)]
      · rw [if_neg h1, if_neg (by omega)]
    · rw [List.getElem?_eq_none (by simp; omega), List.getElem?_eq_none (by simp; omega)]
section
variable {q p : List K} {li : K} {S : Nat}
theorem dP_top (hq : q ≠ []) (hli : co q (q.length - 1) * li = 1) (hS : S + q.length = p.length + 1) : ∀ j, j ≤ S → ∀ i, p.length ≤ i + j → co (dP q li p S j) i = 0
  | 0, _, i, h => co_big _ _ (by rw [dP_len]; omega)
  | j + 1, hj, i, h => by
    have hq0 : q.length ≠ 0 := fun e => hq (List.length_eq_zero_iff.1 e)
    by_cases hi : i < p.length
    · have ih := dP_top hq hli hS j (by omega)
      rw [dP_succ, co_dvS _ _ _ _ (by rw [dP_len]; exact hi), if_pos (by omega)]
      by_cases e : p.length ≤ i + j
      · rw [ih i e, co_big q _ (by omega), mul_zero, sub_zero]
      · have hi2 : i = S - 1 - j + (q.length - 1) := by omega
        rw [show i - (S - 1 - j) = q.length - 1 from by omega]
        unfold dC
        rw [← hi2]
        have e3 : co (dP q li p S j) i * li * co q (q.length - 1) = co (dP q li p S j) i * (co q (q.length - 1) * li) :=
          ring_of [co (dP q li p S j) i, li, co q (q.length - 1)] (v0 * v1 * v2) (v0 * (v2 * v1)) rfl
        rw [e3, hli, mul_one, sub_self]
    · exact co_big _ _ (by rw [dP_len]; omega)
theorem dP_ev (hq : q ≠ []) (hS : S + q.length = p.length + 1) (x : K) : ∀ j, j ≤ S → ev p x = sm j (fun t => dC q li p S t * pw x (S - 1 - t)) * ev q x + ev (dP q li p S j) x
  | 0, _ => by rw [sm_zero, zero_mul, zero_add]; rfl
  | j + 1, hj => by
    have hq0 : q.length ≠ 0 := fun e => hq (List.length_eq_zero_iff.1 e)
    rw [dP_ev hq hS x j (by omega), sm_succ, dP_succ, ev_dvS q (dC q li p S j) (S - 1 - j) (dP q li p S j) (by rw [dP_len]; omega) x]
    exact ring_of [sm j (fun t => dC q li p S t * pw x (S - 1 - t)), ev q x, dC q li p S j * pw x (S - 1 - j), ev (dvS q (dC q li p S j) (S - 1 - j) (dP q li p S j)) x] (v0 * v1 + (v2 * v1 + v3)) ((v0 + v2) * v1 + v3) rfl
theorem ev_dQ (x : K) : ev (dQ q li p S S) x = sm S (fun t => dC q li p S t * pw x (S - 1 - t)) := by
  rw [ev_sum (dQ q li p S S) x S (by rw [dQ_len]; exact Nat.le_refl _), ← sm_rev]
  refine sm_congr fun i hi => ?_
  unfold dQ
  rw [co_tab, if_pos (by omega), if_pos (by omega), show S - 1 - (S - 1 - i) = i from by omega]
end
/-- quotient and remainder -/
def dvQ (q : List K) (li : K) (p : List K) : List K := trim (dQ q li p (p.length + 1 - q.length) (p.length + 1 - q.length))
def dvR (q : List K) (li : K) (p : List K) : List K := trim (dP q li p (p.length + 1 - q.length) (p.length + 1 - q.length))
section
variable {q p : List K} {li : K}
theorem dvQ_trim : trim (dvQ q li p) = dvQ q li p := trim_trim _
theorem dvR_trim : trim (dvR q li p) = dvR q li p := trim_trim _
theorem dv_short (h : p.length < q.length) : dvQ q li p = [] ∧ dvR q li p = trim p := by
  unfold dvQ dvR
  rw [show p.length + 1 - q.length = 0 from by omega]
  exact ⟨rfl, rfl⟩
theorem dv_ev (hq : q ≠ []) (x : K) : ev p x = ev (dvQ q li p) x * ev q x + ev (dvR q li p) x := by
  rcases Nat.lt_or_ge p.length q.length with h | h
  · rw [(dv_short h).1, (dv_short h).2, ev_trim, ev_nil, zero_mul, zero_add]
  · unfold dvQ dvR
    rw [ev_trim, ev_trim, ev_dQ]
    exact dP_ev hq (by omega) x _ (Nat.le_refl _)
theorem dvR_len (hq : q ≠ []) (hli : co q (q.length - 1) * li = 1) : (dvR q li p).length < q.length := by
  have hq0 : q.length ≠ 0 := fun e => hq (List.length_eq_zero_iff.1 e)
  rcases Nat.lt_or_ge p.length q.length with h | h
  · rw [(dv_short h).2]
    exact Nat.lt_of_le_of_lt (trim_length_le p) h
  · have : (dvR q li p).length ≤ q.length - 1 := length_le_of_co fun i hi => dP_top hq hli (by omega) _ (Nat.le_refl _) i (by omega)
    omega
theorem dvQ_len (hq : q ≠ []) (hli : co q (q.length - 1) * li = 1) (hp : trim p = p) (h : q.length ≤ p.length) : (dvQ q li p).length = p.length + 1 - q.length := by
  have hq0 : q.length ≠ 0 := fun e => hq (List.length_eq_zero_iff.1 e)
  have hp0 : p ≠ [] := fun e => by rw [e] at h; exact hq0 (Nat.le_zero.1 h)
  have h1 := co_trim_last (l := p) (by rw [hp]; exact hp0)
  rw [hp] at h1
  have hl : li ≠ 0 := by
    rintro rfl
    rw [mul_zero] at hli
    exact Fld.zero_ne_one hli
  have e : co (dQ q li p (p.length + 1 - q.length) (p.length + 1 - q.length)) (p.length + 1 - q.length - 1) = co p (p.length - 1) * li := by
    unfold dQ
    rw [co_tab, if_pos (by omega), if_pos (by omega)]
    unfold dC
    rw [show p.length + 1 - q.length - 1 - (p.length + 1 - q.length - 1) = 0 from by omega]
    show co p _ * li = _
    congr 2
    omega
  unfold dvQ
  rw [trim_of_last (.inr ?_)]
  · exact dQ_len _ _ _ _ _
  · rw [dQ_len, e]
    exact mul_ne_zero h1 hl
end
/-- a quotient that leaves nothing is the quotient -/
theorem quot_unique {q f g r : List K} {x : Nat → K} {n : Nat} (hx : Dif x n) (hq : trim q = q) (hq0 : q ≠ []) (hr : r.length < q.length) (hrn : q.length ≤ n + 1) (hf : f.length + q.length ≤ n + 1) (hg : g.length + q.length ≤ n + 1)
    (h : ∀ i, i < n → ev f (x i) * ev q (x i) = ev g (x i) * ev q (x i) + ev r (x i)) : trim f = trim g ∧ trim r = [] := by
  have hlen : (trim (psub f g)).length + q.length ≤ n + 1 := by
    have := psub_len_le (p := f) (q := g) (k := n + 1 - q.length) (by omega) (by omega)
    omega
  have hco : ∀ i, co (pmul (psub f g) q) i = co r i := by
    intro i
    rw [← co_trim]
    refine interp_unique (n := n) (xs := (List.range n).map x) ?_ (by omega) (by simp) (hx.nodup List.nodup_range (fun i hi => List.mem_range.1 hi)) ?_ i
    · by_cases e : trim (psub f g) = []
      · rw [trim_pmul_nil (.inl e)]; simp
      · rw [trim_pmul_length e (by rw [hq]; exact hq0), hq]; omega
    · intro z hz
      obtain ⟨j, hj, rfl⟩ := List.mem_map.1 hz
      have := h j (List.mem_range.1 hj)
      rw [ev_trim, ev_pmul, ev_psub]
      have e1 : (ev f (x j) - ev g (x j)) * ev q (x j) = ev f (x j) * ev q (x j) - ev g (x j) * ev q (x j) := ring_of [ev f (x j), ev g (x j), ev q (x j)] ((v0 - v1) * v2) (v0 * v2 - v1 * v2) rfl
      rw [e1, this]
      exact ring_of [ev g (x j) * ev q (x j), ev r (x j)] (v0 + v1 - v0) v1 rfl
  have e := trim_ext hco
  by_cases h0 : trim (psub f g) = []
  · rw [trim_pmul_nil (.inl h0)] at e
    exact ⟨trim_ext (trim_psub_nil.1 h0), e.symm⟩
  · have h1 := congrArg List.length e
    rw [trim_pmul_length h0 (by rw [hq]; exact hq0), hq] at h1
    have h2 := trim_length_le r
    have h3 : (trim (psub f g)).length ≠ 0 := fun e => h0 (List.length_eq_zero_iff.1 e)
    omega

/- ───── Gao's algorithm ───── -/
structure Gao (n k : Nat) (x y : Nat → K) (r0 r1 v0 v1 : List K) : Prop where
  e0 : ∀ i, i < n → ev r0 (x i) = ev v0 (x i) * y i
  e1 : ∀ i, i < n → ev r1 (x i) = ev v1 (x i) * y i
  t0 : trim r0 = r0
  t1 : trim r1 = r1
  u1 : trim v1 = v1
  len : v1.length + r0.length = n + 2
  lt : r1.length < r0.length
  vlt : v0.length < v1.length
  big : n + k + 1 < 2 * r0.length
theorem Gao.v1_ne {n k : Nat} {x y : Nat → K} {r0 r1 v0 v1 : List K} (h : Gao n k x y r0 r1 v0 v1) : v1 ≠ [] := fun e => by have := h.vlt; rw [e] at this; simp at this
/-- x^n - 1 -/
def cyc (n : Nat) : List K := tab (n + 1) fun i => if i = 0 then -1 else if i = n then 1 else 0
theorem cyc_len (n : Nat) : (cyc n : List K).length = n + 1 := tab_length _ _
theorem cyc_set {n : Nat} (h : 0 < n) : ((List.replicate (n + 1) (0 : K)).set 0 (-1)).set n 1 = cyc n := by
  apply List.ext_getElem?
  intro i
  unfold cyc tab
  by_cases hi : i < n + 1
  · rw [List.getElem?_map, List.getElem?_range hi]
    show _ = some (if _ then _ else _)
    by_cases e1 : i = n
    · subst e1
      rw [List.getElem?_set_self (by simp), if_neg (by omega), if_pos rfl]
    · rw [List.getElem?_set_ne (Ne.symm e1)]
      by_cases e2 : i = 0
      · subst e2
        rw [List.getElem?_set_self (by simp), if_pos rfl]
      · rw [List.getElem?_set_ne (Ne.symm e2), List.getElem?_replicate, if_pos hi, if_neg e2, if_neg e1]
  · rw [List.getElem?_eq_none (by simp; omega), List.getElem?_eq_none (by simp; omega)]
theorem ev_cyc {n : Nat} (h : 0 < n) (x : K) : ev (cyc n) x = pw x n - 1 := by
  rw [ev_sum (cyc n) x (n + 1) (by rw [cyc_len]; exact Nat.le_refl _), sm_succ]
  have e : ∀ i, i < n + 1 → co (cyc n : List K) i = if i = 0 then -1 else if i = n then 1 else 0 := fun i hi => by unfold cyc; rw [co_tab, if_pos hi]
  rw [e n (by omega), if_neg (by omega), if_pos rfl, sm_single (k := 0) h (fun i hi hne => by rw [e i (by omega), if_neg hne, if_neg (by omega), zero_mul]), e 0 (by omega), if_pos rfl, pw_zero]
  exact ring_of [pw x n] (-1 * 1 + 1 * v0) (v0 - 1) rfl
theorem cyc_trim {n : Nat} (h : 0 < n) : trim (cyc n : List K) = cyc n := trim_of_last (.inr (by
  rw [cyc_len]
  unfold cyc
  rw [co_tab, if_pos (by omega), if_neg (by omega), if_pos (by omega)]
  exact fun e => Fld.zero_ne_one e.symm))
theorem Gao.start {n k : Nat} {x y : Nat → K} {g : List K} (h0 : 0 < n) (hk : k ≤ n) (hx : ∀ i, i < n → pw (x i) n = 1) (hg : ∀ i, i < n → ev g (x i) = y i) (hl : g.length ≤ n) : Gao n k x y (cyc n) (trim g) [] [1] where
  e0 i hi := by rw [ev_cyc h0, hx i hi, sub_self, ev_nil, zero_mul]
  e1 i hi := by
    rw [ev_trim, hg i hi]
    show _ = (0 * x i + 1) * y i
    rw [zero_mul, zero_add, one_mul]
  t0 := cyc_trim h0
  t1 := trim_trim g
  u1 := trim_of_last (.inr fun e => Fld.zero_ne_one e.symm)
  len := by rw [cyc_len]; simp; omega
  lt := by rw [cyc_len]; have := trim_length_le g; omega
  vlt := by simp
  big := by rw [cyc_len]; omega
theorem trim_psub_big {a b : List K} (hb : trim b = b) (h : a.length < b.length) : (trim (psub a b)).length = b.length := by
  have hb0 : b ≠ [] := fun e => by rw [e] at h; simp at h
  have h1 := co_trim_last (l := b) (by rw [hb]; exact hb0)
  rw [hb] at h1
  have hl : (psub a b).length = b.length := by unfold psub; rw [tab_length]; omega
  rw [trim_of_last (.inr ?_), hl]
  rw [hl, co_psub, co_big a _ (by omega), zero_sub]
  intro e
  apply h1
  rw [← neg_neg (co b (b.length - 1)), e, neg_zero]
theorem Gao.next {n k : Nat} {x y : Nat → K} {r0 r1 z0 z1 : List K} {li : K} (h : Gao n k x y r0 r1 z0 z1) (hb : n + k + 1 < 2 * r1.length) (hli : co r1 (r1.length - 1) * li = 1) :
    Gao n k x y r1 (dvR r1 li r0) z1 (trim (psub z0 (trim (pmul (dvQ r1 li r0) z1)))) ∧ (dvR r1 li r0).length < r1.length := by
  have hr1 : r1 ≠ [] := fun e => by rw [e] at hb; simp at hb
  have hR := dvR_len (p := r0) hr1 hli
  have hQ := dvQ_len hr1 hli h.t0 (Nat.le_of_lt h.lt)
  have hlt := h.lt
  have hlen := h.len
  have hvl := h.vlt
  have hQ0 : trim (dvQ r1 li r0) ≠ [] := by
    rw [dvQ_trim]
    intro e
    rw [e] at hQ
    simp at hQ
    omega
  have hP := trim_pmul_length hQ0 (by rw [h.u1]; exact h.v1_ne)
  rw [dvQ_trim, h.u1, hQ] at hP
  have hV := trim_psub_big (a := z0) (b := trim (pmul (dvQ r1 li r0) z1)) (trim_trim _) (by rw [hP]; omega)
  rw [hP] at hV
  refine ⟨⟨h.e1, fun i hi => ?_, h.t1, dvR_trim, trim_trim _, by rw [hV]; omega, hR, by rw [hV]; omega, hb⟩, hR⟩
  have e := dv_ev (p := r0) (li := li) hr1 (x i)
  rw [h.e0 i hi, h.e1 i hi] at e
  rw [ev_trim, ev_psub, ev_trim, ev_pmul]
  have e2 : ev (dvR r1 li r0) (x i) = ev z0 (x i) * y i - ev (dvQ r1 li r0) (x i) * (ev z1 (x i) * y i) := by
    rw [e]
    exact ring_of [ev (dvQ r1 li r0) (x i) * (ev z1 (x i) * y i), ev (dvR r1 li r0) (x i)] v1 (v0 + v1 - v0) rfl
  rw [e2]
  exact ring_of [ev z0 (x i), y i, ev (dvQ r1 li r0) (x i), ev z1 (x i)] (v0 * v1 - v2 * (v3 * v1)) ((v0 - v2 * v3) * v1) rfl
theorem Gao.done {n k : Nat} {x y : Nat → K} {r0 r1 v0 v1 : List K} (h : Gao n k x y r0 r1 v0 v1) (hk : k ≤ n) (hs : 2 * r1.length ≤ n + k + 1) (hx : Dif x n) {f : List K} (hf : f.length ≤ k)
    (he : 2 * dis (fun i => ev f (x i)) y n < n - k + 1) : trim (pmul f v1) = r1 := by
  have hlen := h.len
  have hbig := h.big
  have hl := agr_len (fun i => ev f (x i)) y n
  have hD : (trim (psub r1 (pmul f v1))).length ≤ max r1.length (f.length + v1.length - 1) := by
    refine length_le_of_co fun i hi => ?_
    rw [co_psub, co_big r1 i (by omega), co_pmul, conv_zero_big _ _ _ (by omega), sub_self]
  have hz : trim (psub r1 (pmul f v1)) = [] := by
    refine many_zero hx (agr_nodup (fun i => ev f (x i)) y n) (fun i hi => ((agr_mem _ _ n i).1 hi).1) (fun i hi => ?_) (by omega)
    obtain ⟨h1, h2⟩ := (agr_mem _ _ n i).1 hi
    rw [ev_psub, ev_pmul, h.e1 i h1, h2, mul_comm, sub_self]
  rw [← trim_ext (trim_psub_nil.1 hz), h.t1]
theorem Gao.answer {n k : Nat} {x y : Nat → K} {r0 r1 v0 v1 : List K} (h : Gao n k x y r0 r1 v0 v1) (hk : k ≤ n) (hs : 2 * r1.length ≤ n + k + 1) (hx : Dif x n) {f : List K} (hf : f.length ≤ k)
    (he : 2 * dis (fun i => ev f (x i)) y n < n - k + 1) : (r1 = [] → trim f = []) ∧ ∀ li, co v1 (v1.length - 1) * li = 1 → dvQ v1 li r1 = trim f ∧ dvR v1 li r1 = [] := by
  have hd := h.done hk hs hx hf he
  have hlen := h.len
  have hbig := h.big
  have hlt := h.lt
  have hv := h.v1_ne
  have hvl := h.vlt
  refine ⟨fun e => ?_, fun li hli => ?_⟩
  · rw [e] at hd
    by_cases e2 : trim f = []
    · exact e2
    · have h1 := trim_pmul_length e2 (by rw [h.u1]; exact hv)
      rw [hd, h.u1] at h1
      have h3 : (trim f).length ≠ 0 := fun e => e2 (List.length_eq_zero_iff.1 e)
      simp at h1
      omega
  · have hR := dvR_len (p := r1) hv hli
    have hQ : (dvQ v1 li r1).length + v1.length ≤ n + 1 := by
      rcases Nat.lt_or_ge r1.length v1.length with h1 | h1
      · rw [(dv_short h1).1]; simp; omega
      · rw [dvQ_len hv hli h.t1 h1]; omega
    have := quot_unique (f := f) (g := dvQ v1 li r1) (r := dvR v1 li r1) hx h.u1 hv hR (by omega) (by omega) hQ (fun i hi => by
      rw [← dv_ev hv, ← ev_pmul, ← ev_trim, hd])
    rw [dvQ_trim, dvR_trim] at this
    exact ⟨this.1.symm, this.2⟩
end
end Att

/- Reed-Solomon codes, plain: interpolation through chosen places; increasing places in lexicographic order; what a decoder answers. No program in sight. -/
namespace Att
open CRing
section
variable {K : Type} [Fld K]
/- ───── the polynomial through some values ───── -/
def pdk (n : Nat) (f : Nat → K) : K := match n with
  | 0 => 1
  | n + 1 => pdk n f * f n
theorem pdk_zero {n i : Nat} {f : Nat → K} (hi : i < n) (h : f i = 0) : pdk n f = 0 := by
  induction n with
  | zero => omega
  | succ n ih =>
    show pdk n f * f n = 0
    by_cases e : i = n
    · subst e; rw [h, mul_zero]
    · rw [ih (by omega), zero_mul]
theorem pdk_one {n : Nat} {f : Nat → K} (h : ∀ i, i < n → f i = 1) : pdk n f = 1 := by
  induction n with
  | zero => rfl
  | succ n ih =>
    show pdk n f * f n = 1
    rw [ih (fun i hi => h i (by omega)), h n (by omega), mul_one]
/-- the factor for the place k -/
def thF (a b : K) : List K := [-b * Fld.inv (a - b), Fld.inv (a - b)]
def thB (x : Nat → K) (y : K) (i : Nat) : Nat → List K
  | 0 => [y]
  | k + 1 => if k = i then thB x y i k else trim (pmul (thB x y i k) (thF (x i) (x k)))
def thS (x y : Nat → K) (m : Nat) : Nat → List K
  | 0 => []
  | i + 1 => trim (padd (thS x y m i) (thB x (y i) i m))
theorem thB_len (x : Nat → K) (y : K) (i : Nat) : ∀ k, (thB x y i k).length ≤ k + 1 ∧ (i < k → (thB x y i k).length ≤ k)
  | 0 => ⟨by simp [thB], fun h => by omega⟩
  | k + 1 => by
    have ih := thB_len x y i k
    by_cases e : k = i
    · simp only [thB, if_pos e]
      exact ⟨by omega, fun _ => ih.1⟩
    · simp only [thB, if_neg e]
      have h1 : (trim (pmul (thB x y i k) (thF (x i) (x k)))).length ≤ (thB x y i k).length + 1 :=
        length_le_of_co fun j hj => by rw [co_pmul, conv_zero_big _ _ _ (by simp [thF]; omega)]
      exact ⟨by omega, fun hi => by have := ih.2 (by omega); omega⟩
theorem thS_len (x y : Nat → K) (m : Nat) : ∀ i, i ≤ m → (thS x y m i).length ≤ m
  | 0, _ => Nat.zero_le _
  | i + 1, hi => by
    have h1 := thS_len x y m i (by omega)
    have h2 := (thB_len x (y i) i m).2 (by omega)
    exact length_le_of_co fun j hj => by rw [co_padd, co_big _ j (by omega), co_big _ j (by omega), add_zero]
theorem ev_thF (a b z : K) : ev (thF a b) z = (z - b) * Fld.inv (a - b) := by
  show (0 * z + Fld.inv (a - b)) * z + -b * Fld.inv (a - b) = _
  exact ring_of [z, Fld.inv (a - b), b] ((0 * v0 + v1) * v0 + -v2 * v1) ((v0 - v2) * v1) rfl
theorem ev_thB (x : Nat → K) (y : K) (i : Nat) (z : K) : ∀ k, ev (thB x y i k) z = y * pdk k (fun j => if j = i then 1 else (z - x j) * Fld.inv (x i - x j))
  | 0 => by
    show 0 * z + y = y * 1
    rw [zero_mul, zero_add, mul_one]
  | k + 1 => by
    show _ = y * (pdk k _ * _)
    by_cases e : k = i
    · simp only [thB, if_pos e]
      rw [ev_thB x y i z k, mul_one]
    · simp only [thB, if_neg e]
      rw [ev_trim, ev_pmul, ev_thB x y i z k, ev_thF, mul_assoc]
theorem ev_thB_at {x : Nat → K} {y : K} {i j m : Nat} (hx : Dif x m) (hi : i < m) (hj : j < m) : ev (thB x y i m) (x j) = if j = i then y else 0 := by
  rw [ev_thB]
  by_cases e : j = i
  · subst e
    rw [if_pos rfl, pdk_one, mul_one]
    intro t ht
    by_cases e2 : t = j
    · rw [if_pos e2]
    · rw [if_neg e2]
      exact Fld.mul_inv _ (fun h => e2 (hx j t hj ht (eq_of_sub h)).symm)
  · rw [if_neg e, pdk_zero hj, mul_zero]
    rw [if_neg e, sub_self, zero_mul]
theorem ev_thS {x y : Nat → K} {m j : Nat} (hx : Dif x m) (hj : j < m) : ∀ i, i ≤ m → ev (thS x y m i) (x j) = if j < i then y j else 0
  | 0, _ => by rw [if_neg (by omega)]; rfl
  | i + 1, hi => by
    show ev (trim (padd (thS x y m i) (thB x (y i) i m))) (x j) = _
    rw [ev_trim, ev_padd, ev_thS hx hj i (by omega), ev_thB_at hx (by omega) hj]
    by_cases e : j = i
    · subst e; rw [if_neg (by omega), if_pos rfl, if_pos (by omega), zero_add]
    · rw [if_neg e, add_zero]
      by_cases h : j < i
      · rw [if_pos h, if_pos (by omega)]
      · rw [if_neg h, if_neg (by omega)]
theorem ev_thS_all {x y : Nat → K} {m j : Nat} (hx : Dif x m) (hj : j < m) : ev (thS x y m m) (x j) = y j := by
  rw [ev_thS hx hj m (Nat.le_refl _), if_pos hj]
end

/- ───── increasing places in lexicographic order ───── -/
/-- increasing places below n -/
def Inc (k n : Nat) (s : Nat → Nat) : Prop := (∀ j, j < k → s j < n) ∧ ∀ i j, i < j → j < k → s i < s j
def Lx (k : Nat) (s t : Nat → Nat) : Prop := ∃ d, d < k ∧ (∀ j, j < d → s j = t j) ∧ s d < t d
theorem Lx.total (s t : Nat → Nat) : ∀ k, Lx k s t ∨ (∀ j, j < k → s j = t j) ∨ Lx k t s
  | 0 => .inr (.inl fun j hj => by omega)
  | k + 1 => by
    rcases Lx.total s t k with ⟨d, hd, h1, h2⟩ | h | ⟨d, hd, h1, h2⟩
    · exact .inl ⟨d, by omega, h1, h2⟩
    · rcases Nat.lt_trichotomy (s k) (t k) with e | e | e
      · exact .inl ⟨k, by omega, h, e⟩
      · exact .inr (.inl fun j hj => by
          by_cases ej : j = k
          · subst ej; exact e
          · exact h j (by omega))
      · exact .inr (.inr ⟨k, by omega, fun j hj => (h j hj).symm, e⟩)
    · exact .inr (.inr ⟨d, by omega, h1, h2⟩)
theorem Inc.gap {k n : Nat} {s : Nat → Nat} (h : Inc k n s) {i : Nat} : ∀ m, i + m < k → s i + m ≤ s (i + m)
  | 0, _ => Nat.le_refl _
  | m + 1, hm => by
    have h1 := h.gap (i := i) m (by omega)
    have h2 := h.2 (i + m) (i + (m + 1)) (by omega) hm
    omega
theorem Inc.top {k n : Nat} {s : Nat → Nat} (h : Inc k n s) {i : Nat} (hi : i < k) : s i + (k - i) ≤ n := by
  have h1 := h.gap (i := i) (k - 1 - i) (by omega)
  have h2 := h.1 (i + (k - 1 - i)) (by omega)
  omega
/-- the next places behind s when the place i is the last that can be raised -/
def nxt (s : Nat → Nat) (i : Nat) : Nat → Nat := fun j => if j < i then s j else s i + 1 + (j - i)
theorem nxt_inc {k n : Nat} {s : Nat → Nat} (h : Inc k n s) {i : Nat} (hi : i < k) (hlt : s i + (k - i) < n) : Inc k n (nxt s i) := by
  refine ⟨fun j hj => ?_, fun a b hab hb => ?_⟩
  · unfold nxt; split
    · exact h.1 j hj
    · omega
  · unfold nxt
    by_cases h1 : b < i
    · rw [if_pos (by omega), if_pos h1]; exact h.2 a b hab hb
    · rw [if_neg h1]
      by_cases h2 : a < i
      · rw [if_pos h2]; have := h.2 a i h2 hi; omega
      · rw [if_neg h2]; omega
theorem nxt_lx {k n : Nat} {s t : Nat → Nat} (ht : Inc k n t) {i : Nat} (hi : i < k) (htop : ∀ j, i < j → j < k → s j + (k - j) = n) (h : Lx k t (nxt s i)) : Lx k t s ∨ ∀ j, j < k → t j = s j := by
  obtain ⟨d, hd, h1, h2⟩ := h
  rcases Nat.lt_trichotomy d i with e | e | e
  · refine .inl ⟨d, hd, fun j hj => ?_, ?_⟩
    · have := h1 j hj; unfold nxt at this; rwa [if_pos (by omega)] at this
    · unfold nxt at h2; rwa [if_pos e] at h2
  · subst e
    have h3 : t d ≤ s d := by unfold nxt at h2; rw [if_neg (by omega)] at h2; omega
    have h4 : ∀ j, j < d → t j = s j := fun j hj => by have := h1 j hj; unfold nxt at this; rwa [if_pos hj] at this
    rcases Nat.lt_or_eq_of_le h3 with h5 | h5
    · exact .inl ⟨d, hd, h4, h5⟩
    · rcases Lx.total t s k with h6 | h6 | ⟨c, hc, h7, h8⟩
      · exact .inl h6
      · exact .inr h6
      · exfalso
        have h9 : d < c := by
          apply Nat.lt_of_not_le
          intro h10
          rcases Nat.lt_or_eq_of_le h10 with h11 | h11
          · have := h4 c h11; omega
          · subst h11; omega
        have h10 := htop c h9 hc
        have h11 := ht.top hc
        omega
  · exfalso
    have h3 := h1 i e
    unfold nxt at h3 h2
    rw [if_neg (by omega)] at h3
    rw [if_neg (by omega)] at h2
    have h4 := ht.gap (i := i) (d - i) (by omega)
    rw [show i + (d - i) = d from by omega] at h4
    omega
theorem nxt_end {k n : Nat} {s t : Nat → Nat} (ht : Inc k n t) (htop : ∀ j, j < k → s j + (k - j) = n) : Lx k t s ∨ ∀ j, j < k → t j = s j := by
  rcases Lx.total t s k with h | h | ⟨d, hd, _, h2⟩
  · exact .inl h
  · exact .inr h
  · have h3 := htop d hd
    have h4 := ht.top hd
    omega
/-- the number that the places write down -/
def lxv (n : Nat) (s : Nat → Nat) : Nat → Nat
  | 0 => 0
  | k + 1 => lxv n s k * n + s k
theorem lxv_lt {n : Nat} {s : Nat → Nat} : ∀ {k : Nat}, (∀ j, j < k → s j < n) → lxv n s k < n ^ k
  | 0, _ => by simp [lxv]
  | k + 1, h => by
    have h1 := lxv_lt (k := k) (fun j hj => h j (by omega))
    have h2 := h k (by omega)
    have h3 := Nat.mul_le_mul_right n h1
    rw [Nat.succ_mul] at h3
    rw [lxv, Nat.pow_succ]
    omega
theorem lxv_congr {n : Nat} {s t : Nat → Nat} : ∀ {k : Nat}, (∀ j, j < k → s j = t j) → lxv n s k = lxv n t k
  | 0, _ => rfl
  | k + 1, h => by rw [lxv, lxv, lxv_congr (k := k) (fun j hj => h j (by omega)), h k (by omega)]
theorem lxv_mono {n : Nat} {s t : Nat → Nat} : ∀ {k : Nat}, (∀ j, j < k → s j < n) → Lx k s t → lxv n s k < lxv n t k
  | 0, _, ⟨_, h, _⟩ => by omega
  | k + 1, hs, ⟨d, hd, h1, h2⟩ => by
    rw [lxv, lxv]
    by_cases e : d = k
    · subst e
      rw [lxv_congr h1]; omega
    · have h3 := lxv_mono (k := k) (fun j hj => hs j (by omega)) ⟨d, by omega, h1, h2⟩
      have h4 := hs k (by omega)
      have h5 := Nat.mul_le_mul_right n h3
      rw [Nat.succ_mul] at h5
      omega
theorem nxt_gt {s : Nat → Nat} {k i : Nat} (hi : i < k) : Lx k s (nxt s i) := ⟨i, hi, fun j hj => by unfold nxt; rw [if_pos hj], by unfold nxt; rw [if_neg (by omega)]; omega⟩
/-- the first k places of a list, in rising order -/
theorem pick_inc {l : List Nat} {n k : Nat} (hl : l.Pairwise (· > ·)) (hm : ∀ i ∈ l, i < n) (hk : k ≤ l.length) : ∃ s, Inc k n s ∧ ∀ j, j < k → s j ∈ l := by
  refine ⟨fun j => l.getD (l.length - 1 - j) 0, ⟨fun j hj => ?_, fun i j hij hj => ?_⟩, fun j hj => ?_⟩
  · show l.getD (l.length - 1 - j) 0 < n
    rw [List.getD_eq_getElem?_getD, List.getElem?_eq_getElem (by omega)]
    exact hm _ (List.getElem_mem _)
  · show l.getD (l.length - 1 - i) 0 < l.getD (l.length - 1 - j) 0
    rw [List.getD_eq_getElem?_getD, List.getD_eq_getElem?_getD, List.getElem?_eq_getElem (by omega), List.getElem?_eq_getElem (by omega)]
    exact List.pairwise_iff_getElem.1 hl _ _ (by omega) (by omega) (by omega)
  · show l.getD (l.length - 1 - j) 0 ∈ l
    rw [List.getD_eq_getElem?_getD, List.getElem?_eq_getElem (by omega)]
    exact List.getElem_mem _
section
variable {K : Type} [Fld K]
theorem agr_down (f g : Nat → K) : ∀ n, (agr f g n).Pairwise (· > ·)
  | 0 => List.Pairwise.nil
  | n + 1 => by
    have ih := agr_down f g n
    by_cases h : f n = g n
    · simp only [agr, if_pos h]
      exact List.pairwise_cons.2 ⟨fun i hi => ((agr_mem f g n i).1 hi).1, ih⟩
    · simp only [agr, if_neg h]; exact ih
theorem agr_pick {f g : Nat → K} {n k : Nat} (h : dis f g n + k ≤ n) : ∃ s, Inc k n s ∧ ∀ j, j < k → f (s j) = g (s j) := by
  have hl := agr_len f g n
  obtain ⟨s, h1, h2⟩ := pick_inc (l := agr f g n) (n := n) (k := k) (agr_down f g n) (fun i hi => ((agr_mem f g n i).1 hi).1) (by omega)
  exact ⟨s, h1, fun j hj => ((agr_mem f g n _).1 (h2 j hj)).2⟩
end
end Att

/- Reed-Solomon codes over the prime field, plain: lifting to the extension; the only row within half the least distance. No program in sight. -/
namespace Att
open CRing
def liftE (l : List F) : List Ext := l.map Ext.base
def partA (l : List Ext) : List F := l.map Ext.a
theorem liftE_length (l : List F) : (liftE l).length = l.length := by simp [liftE]
theorem partA_length (l : List Ext) : (partA l).length = l.length := by simp [partA]
theorem co_liftE (l : List F) (i : Nat) : co (liftE l) i = Ext.base (co l i) := by
  unfold co liftE
  rw [List.getD_eq_getElem?_getD, List.getD_eq_getElem?_getD, List.getElem?_map]
  cases l[i]? with
  | none => rfl
  | some x => rfl
theorem co_partA (l : List Ext) (i : Nat) : co (partA l) i = (co l i).a := by
  unfold co partA
  rw [List.getD_eq_getElem?_getD, List.getD_eq_getElem?_getD, List.getElem?_map]
  cases l[i]? with
  | none => rfl
  | some x => rfl
theorem ev_liftE (l : List F) (x : F) : ev (liftE l) (Ext.base x) = Ext.base (ev l x) := by
  induction l with
  | nil => rfl
  | cons a l ih =>
    show ev (liftE l) (Ext.base x) * Ext.base x + Ext.base a = Ext.base (ev l x * x + a)
    rw [ih, Ext.base_add, Ext.base_mul]
theorem ev_partA (l : List Ext) (x : F) : ev (partA l) x = (ev l (Ext.base x)).a := by
  induction l with
  | nil => rfl
  | cons a l ih =>
    show ev (partA l) x * x + a.a = (ev l (Ext.base x) * Ext.base x + a).a
    rw [ih, Ext.add_a, Ext.mul_a]
    show _ = (ev l (Ext.base x)).a * x + Ext.seven * ((ev l (Ext.base x)).b * 0) + a.a
    rw [mul_zero, mul_zero, add_zero]
def partB (l : List Ext) : List F := l.map Ext.b
theorem partB_length (l : List Ext) : (partB l).length = l.length := by simp [partB]
theorem ev_partB (l : List Ext) (x : F) : ev (partB l) x = (ev l (Ext.base x)).b := by
  induction l with
  | nil => rfl
  | cons a l ih =>
    show ev (partB l) x * x + a.b = (ev l (Ext.base x) * Ext.base x + a).b
    rw [ih, Ext.add_b, Ext.mul_b]
    show _ = (ev l (Ext.base x)).a * 0 + (ev l (Ext.base x)).b * x + a.b
    rw [mul_zero, zero_add]
theorem Dif.base {x : Nat → F} {n : Nat} (h : Dif x n) : Dif (fun i => Ext.base (x i)) n := fun i j hi hj e => h i j hi hj (Ext.base_inj e)
/-- the codeword's symbols -/
def cw (l : List F) (u : F) : Nat → F := fun i => ev l (pw u i)
theorem dis_base (f g : Nat → F) (n : Nat) : dis (fun i => Ext.base (f i)) (fun i => Ext.base (g i)) n = dis f g n := by
  induction n with
  | zero => rfl
  | succ n ih =>
    simp only [dis]
    rw [ih]
    congr 1
    by_cases h : f n = g n
    · rw [if_pos h, if_pos (congrArg Ext.base h)]
    · rw [if_neg h, if_neg (fun e => h (Ext.base_inj e))]
/-- a row whose codeword is within half the least distance of the word -/
def Near (n k : Nat) (u : F) (y : Nat → F) (row : List F) : Prop := row.length = k ∧ 2 * dis (cw row u) y n < n - k + 1
theorem Near.unique {n k : Nat} {u : F} {y : Nat → F} {a b : List F} (hx : Dif (pw u) n) (hk : k ≤ n) (ha : Near n k u y a) (hb : Near n k u y b) : a = b := by
  obtain ⟨a1, a2⟩ := ha
  obtain ⟨b1, b2⟩ := hb
  apply list_ext_co (a1.trans b1.symm)
  intro i _
  refine Decidable.byContradiction fun hne => ?_
  have h1 := min_dist (p := a) (q := b) (x := pw u) (n := n) (k := k) hx (Nat.le_of_eq a1) (Nat.le_of_eq b1) (fun h => hne (h i))
  have h2 := dis_tri (cw a u) y (cw b u) n
  have h3 := dis_comm y (cw b u) n
  have h4 : dis (fun i => ev a (pw u i)) (fun i => ev b (pw u i)) n = dis (cw a u) (cw b u) n := rfl
  omega
/-- what a decoder answers: the row and the number of errors, or none -/
def DecIs (n k : Nat) (u : F) (y : Nat → F) (r : List F × Int × Int) : Prop :=
  (∃ row, Near n k u y row ∧ r = (row, ((dis (cw row u) y n : Nat) : Int), 0)) ∨ ((∀ row, ¬ Near n k u y row) ∧ r = ([], 0, 4))
theorem DecIs.unique {n k : Nat} {u : F} {y : Nat → F} {r s : List F × Int × Int} (hx : Dif (pw u) n) (hk : k ≤ n) (hr : DecIs n k u y r) (hs : DecIs n k u y s) : r = s := by
  rcases hr with ⟨a, ha, rfl⟩ | ⟨ha, rfl⟩
  · rcases hs with ⟨b, hb, rfl⟩ | ⟨hb, rfl⟩
    · rw [ha.unique hx hk hb]
    · exact absurd ha (hb a)
  · rcases hs with ⟨b, hb, rfl⟩ | ⟨hb, rfl⟩
    · exact absurd hb (ha b)
    · rfl
/-- the first k coefficients, zeros where there are none -/
def padA (p : List Ext) (k : Nat) : List F := tab k (co (partA p))
theorem padA_length (p : List Ext) (k : Nat) : (padA p k).length = k := tab_length _ _
theorem padA_lift {f : List F} {k : Nat} (hf : f.length = k) : padA (trim (liftE f)) k = f := by
  unfold padA
  refine Eq.trans ?_ (tab_eq f)
  rw [hf]
  unfold tab
  refine List.map_congr_left fun i _ => ?_
  rw [co_partA, co_trim, co_liftE]
  rfl
/-- where the candidate's way ends, its answer gives the row, if there is one -/
theorem Gao.row {n k : Nat} {u : F} {y : Nat → F} {r0 r1 v0 v1 : List Ext} (h : Gao n k (fun i => Ext.base (pw u i)) (fun i => Ext.base (y i)) r0 r1 v0 v1) (hk : k ≤ n) (hs : 2 * r1.length ≤ n + k + 1) (hx : Dif (pw u) n) {row : List F} (hrow : Near n k u y row) :
    (r1 = [] → padA [] k = row) ∧ ∀ li, co v1 (v1.length - 1) * li = 1 → dvR v1 li r1 = [] ∧ (dvQ v1 li r1).length ≤ k ∧ padA (dvQ v1 li r1) k = row := by
  obtain ⟨hl, hd⟩ := hrow
  have he : 2 * dis (fun i => ev (liftE row) (Ext.base (pw u i))) (fun i => Ext.base (y i)) n < n - k + 1 := by
    have e : dis (fun i => ev (liftE row) (Ext.base (pw u i))) (fun i => Ext.base (y i)) n = dis (cw row u) y n := by
      rw [← dis_base]
      exact dis_congr (fun i _ => ev_liftE row (pw u i)) (fun _ _ => rfl)
    rw [e]; exact hd
  have hf : (liftE row).length ≤ k := by rw [liftE_length]; omega
  obtain ⟨h1, h2⟩ := h.answer hk hs hx.base hf he
  have hp := padA_lift hl
  refine ⟨fun e => ?_, fun li hli => ?_⟩
  · rw [← hp, h1 e]
  · obtain ⟨h3, h4⟩ := h2 li hli
    refine ⟨h4, ?_, ?_⟩
    · rw [h3]; exact Nat.le_trans (trim_length_le _) hf
    · rw [h3]; exact hp
/- ───── the decoder that tries all places ───── -/
/-- the row through the word at the places s -/
def thr (u : F) (y : Nat → F) (s : Nat → Nat) (k : Nat) : List F := padA (thS (fun i => Ext.base (pw u (s i))) (fun i => Ext.base (y (s i))) k k) k
theorem thr_length (u : F) (y : Nat → F) (s : Nat → Nat) (k : Nat) : (thr u y s k).length = k := padA_length _ _
theorem ev_padA {p : List Ext} {k : Nat} (h : p.length ≤ k) (x : F) : ev (padA p k) x = (ev p (Ext.base x)).a := by
  rw [← ev_partA]
  refine ev_of_co (fun i => ?_) x
  unfold padA
  rw [co_tab]
  split
  · rfl
  · rw [co_big _ i (by rw [partA_length]; omega)]
theorem thr_at {u : F} {y : Nat → F} {s : Nat → Nat} {n k : Nat} (hx : Dif (pw u) n) (hs : Inc k n s) {j : Nat} (hj : j < k) : cw (thr u y s k) u (s j) = y (s j) := by
  have hd : Dif (fun i => Ext.base (pw u (s i))) k := by
    intro a b ha hb e
    have e2 := hx _ _ (hs.1 a ha) (hs.1 b hb) (Ext.base_inj e)
    rcases Nat.lt_trichotomy a b with h | h | h
    · have := hs.2 a b h hb; omega
    · exact h
    · have := hs.2 b a h ha; omega
  unfold cw thr
  rw [ev_padA (thS_len _ _ _ _ (Nat.le_refl _)), ev_thS_all (y := fun i => Ext.base (y (s i))) hd hj]
  rfl
theorem thr_unique {u : F} {y : Nat → F} {s : Nat → Nat} {n k : Nat} (hx : Dif (pw u) n) (hs : Inc k n s) {row : List F} (hl : row.length = k) (h : ∀ j, j < k → cw row u (s j) = y (s j)) : thr u y s k = row := by
  apply list_ext_co ((thr_length u y s k).trans hl.symm)
  intro i _
  refine interp_unique (n := k) (xs := (List.range k).map fun j => pw u (s j)) (Nat.le_of_eq (thr_length u y s k)) (Nat.le_of_eq hl) (by simp) ?_ ?_ i
  · refine Dif.nodup (n := k) ?_ List.nodup_range (fun i hi => List.mem_range.1 hi)
    intro a b ha hb e
    have e2 := hx _ _ (hs.1 a ha) (hs.1 b hb) e
    rcases Nat.lt_trichotomy a b with h | h | h
    · have := hs.2 a b h hb; omega
    · exact h
    · have := hs.2 b a h ha; omega
  · intro z hz
    obtain ⟨j, hj, rfl⟩ := List.mem_map.1 hz
    have hj := List.mem_range.1 hj
    exact (thr_at hx hs hj).trans (h j hj).symm
theorem thr_congr {u : F} {y : Nat → F} {s t : Nat → Nat} {n k : Nat} (hx : Dif (pw u) n) (hs : Inc k n s) (ht : Inc k n t) (h : ∀ j, j < k → s j = t j) : thr u y s k = thr u y t k :=
  thr_unique hx hs (thr_length _ _ _ _) (fun j hj => by rw [h j hj]; exact thr_at hx ht hj)
/-- the near row goes through some places -/
theorem Near.places {n k : Nat} {u : F} {y : Nat → F} {row : List F} (hx : Dif (pw u) n) (hk : k ≤ n) (h : Near n k u y row) : ∃ s, Inc k n s ∧ thr u y s k = row := by
  obtain ⟨s, h1, h2⟩ := agr_pick (f := cw row u) (g := y) (n := n) (k := k) (by have := h.2; omega)
  exact ⟨s, h1, thr_unique hx h1 h.1 h2⟩
/-- no places that come ahead give a near row -/
def Tried (n k : Nat) (u : F) (y : Nat → F) (s : Nat → Nat) : Prop := ∀ t, Inc k n t → Lx k t s → ¬ Near n k u y (thr u y t k)
theorem Tried.step {n k : Nat} {u : F} {y : Nat → F} {s : Nat → Nat} (hx : Dif (pw u) n) (hs : Inc k n s) (h : Tried n k u y s) (hn : ¬ Near n k u y (thr u y s k)) {i : Nat} (hi : i < k) (htop : ∀ j, i < j → j < k → s j + (k - j) = n) : Tried n k u y (nxt s i) := by
  intro t ht hlx
  rcases nxt_lx ht hi htop hlx with h1 | h1
  · exact h t ht h1
  · rw [thr_congr hx ht hs h1]; exact hn
theorem Tried.none {n k : Nat} {u : F} {y : Nat → F} {s : Nat → Nat} (hx : Dif (pw u) n) (hk : k ≤ n) (hs : Inc k n s) (h : Tried n k u y s) (hn : ¬ Near n k u y (thr u y s k)) (htop : ∀ j, j < k → s j + (k - j) = n) : ∀ row, ¬ Near n k u y row := by
  intro row hrow
  obtain ⟨t, ht, e⟩ := hrow.places hx hk
  rcases nxt_end (s := s) ht htop with h1 | h1
  · exact h t ht h1 (e ▸ hrow)
  · rw [thr_congr hx ht hs h1] at e
    exact hn (e ▸ hrow)
end Att

/- Plain facts for the laws of package reedsolomon: the decoder's answer out of the candidate's, words with errors. -/
namespace Att
open CRing
theorem DecIs.bad {n k : Nat} {u : F} {y : Nat → F} (h : ∀ row, ¬ Near n k u y row) : DecIs n k u y ([], 0, 4) := .inr ⟨h, rfl⟩
/-- the decoder's answer out of the candidate's -/
theorem DecIs.cand {n k : Nat} {u : F} {y : Nat → F} {r0 r1 v0 v1 P : List Ext} {ok : Bool} (hG : Gao n k (fun i => Ext.base (pw u i)) (fun i => Ext.base (y i)) r0 r1 v0 v1) (hk : k ≤ n) (hs : 2 * r1.length ≤ n + k + 1) (hx : Dif (pw u) n)
    (h : (r1 = [] ∧ P = [] ∧ ok = true) ∨ (∃ li, co v1 (v1.length - 1) * li = 1 ∧ P = dvQ v1 li r1 ∧ ok = (decide ((dvR v1 li r1).length = 0) && decide (P.length ≤ k)))) :
    (ok = false → DecIs n k u y ([], 0, 4)) ∧ (ok = true → P.length ≤ k ∧ (2 * dis (cw (padA P k) u) y n < n - k + 1 → DecIs n k u y (padA P k, ((dis (cw (padA P k) u) y n : Nat) : Int), 0)) ∧
      (¬ 2 * dis (cw (padA P k) u) y n < n - k + 1 → DecIs n k u y ([], 0, 4))) := by
  have hrow : ∀ row, Near n k u y row → ok = true ∧ padA P k = row := by
    intro row hr
    obtain ⟨h1, h2⟩ := hG.row hk hs hx hr
    rcases h with ⟨e1, e2, e3⟩ | ⟨li, hli, e2, e3⟩
    · exact ⟨e3, by rw [e2]; exact h1 e1⟩
    · obtain ⟨h3, h4, h5⟩ := h2 li hli
      refine ⟨?_, by rw [e2]; exact h5⟩
      rw [e3, h3, e2]
      simp [h4]
  refine ⟨fun e => DecIs.bad fun row hr => ?_, fun e => ⟨?_, fun hn => .inl ⟨_, ⟨padA_length _ _, hn⟩, rfl⟩, fun hn => DecIs.bad fun row hr => ?_⟩⟩
  · have := (hrow row hr).1
    rw [e] at this
    cases this
  · rcases h with ⟨_, e2, _⟩ | ⟨li, _, _, e3⟩
    · rw [e2]; exact Nat.zero_le _
    · rw [e] at e3
      have := e3.symm
      rw [Bool.and_eq_true, decide_eq_true_eq, decide_eq_true_eq] at this
      exact this.2
  · have := (hrow row hr).2
    rw [← this] at hr
    exact hn hr.2
section
variable {K : Type} [Fld K]
theorem co_set (l : List K) (k : Nat) (x : K) (hk : k < l.length) (i : Nat) : co (l.set k x) i = if i = k then x else co l i := by
  unfold co
  rw [List.getD_eq_getElem?_getD, List.getD_eq_getElem?_getD]
  by_cases h : i = k
  · subst h; rw [if_pos rfl, List.getElem?_set_self hk]; rfl
  · rw [if_neg h, List.getElem?_set_ne (Ne.symm h)]
open Classical in
theorem dis_upd {f f' g : Nat → K} {k : Nat} (he : f k = g k) (hne : f' k ≠ g k) (ho : ∀ i, i ≠ k → f' i = f i) : ∀ n, dis f' g n = dis f g n + if k < n then 1 else 0
  | 0 => by simp [dis]
  | n + 1 => by
    have ih := dis_upd he hne ho n
    simp only [dis]
    rw [ih]
    by_cases h : n = k
    · subst h
      rw [if_neg hne, if_pos he, if_neg (show ¬ n < n by omega), if_pos (show n < n + 1 by omega)]
    · rw [ho n h]
      by_cases h2 : k < n
      · rw [if_pos h2, if_pos (show k < n + 1 by omega)]; omega
      · rw [if_neg h2, if_neg (show ¬ k < n + 1 by omega)]; omega
/-- one more error -/
theorem dis_set {o w : List K} {k n : Nat} {x : K} (hk : k < n) (ho : o.length = n) (he : co o k = co w k) (hx : x ≠ co w k) : dis (co (o.set k x)) (co w) n = dis (co o) (co w) n + 1 := by
  rw [dis_upd (f := co o) (k := k) he (by rw [co_set o k x (by omega), if_pos rfl]; exact hx) (fun i hi => by rw [co_set o k x (by omega), if_neg hi]), if_pos hk]
end
/-- few errors: the decoder finds the row -/
theorem DecIs.near {n k : Nat} {u : F} {y : Nat → F} {r : List F × Int × Int} {row : List F} (hx : Dif (pw u) n) (hk : k ≤ n) (h : DecIs n k u y r) (hr : row.length = k) (hd : 2 * dis (cw row u) y n < n - k + 1) : r = (row, ((dis (cw row u) y n : Nat) : Int), 0) :=
  h.unique hx hk (.inl ⟨row, ⟨hr, hd⟩, rfl⟩)
end Att
