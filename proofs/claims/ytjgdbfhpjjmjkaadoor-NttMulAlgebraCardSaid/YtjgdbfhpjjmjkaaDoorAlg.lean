/- Plain algebra: commutative rings with a small normalizer, sums over ranges, powers, the binomial theorem. No program in sight. -/
namespace Att

class CRing (K : Type) extends Add K, Mul K, Neg K, Sub K, Zero K, One K where
  add_assoc : ∀ a b c : K, a + b + c = a + (b + c)
  add_comm : ∀ a b : K, a + b = b + a
  add_zero : ∀ a : K, a + 0 = a
  add_neg : ∀ a : K, a + -a = 0
  sub_eq : ∀ a b : K, a - b = a + -b
  mul_assoc : ∀ a b c : K, a * b * c = a * (b * c)
  mul_comm : ∀ a b : K, a * b = b * a
  mul_one : ∀ a : K, a * 1 = a
  mul_add : ∀ a b c : K, a * (b + c) = a * b + a * c

namespace CRing
variable {K : Type} [CRing K]

theorem zero_add (a : K) : 0 + a = a := by rw [add_comm, add_zero]
theorem neg_add (a : K) : -a + a = 0 := by rw [add_comm, add_neg]
theorem one_mul (a : K) : 1 * a = a := by rw [mul_comm, mul_one]
theorem add_mul (a b c : K) : (a + b) * c = a * c + b * c := by rw [mul_comm, mul_add, mul_comm c, mul_comm c]
theorem add_left_cancel {a b c : K} (h : a + b = a + c) : b = c := by
  have h' : -a + (a + b) = -a + (a + c) := by rw [h]
  rwa [← add_assoc, ← add_assoc, neg_add, zero_add, zero_add] at h'
theorem add_right_cancel {a b c : K} (h : b + a = c + a) : b = c := by
  rw [add_comm b, add_comm c] at h; exact add_left_cancel h
theorem mul_zero (a : K) : a * 0 = 0 := by
  apply add_left_cancel (a := a * 0); rw [← mul_add, add_zero, add_zero]
theorem zero_mul (a : K) : 0 * a = 0 := by rw [mul_comm, mul_zero]
theorem eq_neg_of {a b : K} (h : a + b = 0) : b = -a := by
  apply add_left_cancel (a := a); rw [h, add_neg]
theorem neg_neg (a : K) : - -a = a := (eq_neg_of (neg_add a)).symm
theorem neg_zero : -(0 : K) = 0 := (eq_neg_of (add_zero 0)).symm
theorem neg_mul (a b : K) : -a * b = -(a * b) := by
  apply eq_neg_of; rw [← add_mul, add_neg, zero_mul]
theorem mul_neg (a b : K) : a * -b = -(a * b) := by rw [mul_comm, neg_mul, mul_comm]
theorem neg_add_rev (a b : K) : -(a + b) = -a + -b := by
  symm; apply eq_neg_of; rw [add_assoc, ← add_assoc b, add_comm b, add_assoc (-a), add_neg, add_zero, add_neg]
theorem add_left_comm (a b c : K) : a + (b + c) = b + (a + c) := by rw [← add_assoc, add_comm a, add_assoc]
theorem mul_left_comm (a b c : K) : a * (b * c) = b * (a * c) := by rw [← mul_assoc, mul_comm a, mul_assoc]
theorem sub_self (a : K) : a - a = 0 := by rw [sub_eq, add_neg]
theorem sub_zero (a : K) : a - 0 = a := by rw [sub_eq, neg_zero, add_zero]
theorem zero_sub (a : K) : 0 - a = -a := by rw [sub_eq, zero_add]
theorem sub_add_cancel (a b : K) : a - b + b = a := by rw [sub_eq, add_assoc, neg_add, add_zero]
theorem add_sub_cancel (a b : K) : a + b - b = a := by rw [sub_eq, add_assoc, add_neg, add_zero]
theorem eq_of_sub {a b : K} (h : a - b = 0) : a = b := by
  have := sub_add_cancel a b; rw [h, zero_add] at this; exact this.symm
theorem sub_eq_zero {a b : K} : a - b = 0 ↔ a = b := ⟨eq_of_sub, fun h => by rw [h, sub_self]⟩

/- natural numbers and integers in a ring -/
def nat : Nat → K
  | 0 => 0
  | n + 1 => nat n + 1
theorem nat_add (m n : Nat) : (nat (m + n) : K) = nat m + nat n := by
  induction n with
  | zero => simp only [Nat.add_zero, nat, add_zero]
  | succ n ih => rw [← Nat.add_assoc]; simp only [nat, ih, add_assoc]
theorem nat_mul (m n : Nat) : (nat (m * n) : K) = nat m * nat n := by
  induction n with
  | zero => simp only [Nat.mul_zero, nat, mul_zero]
  | succ n ih => rw [Nat.mul_succ, nat_add, ih]; simp only [nat, mul_add, mul_one]
theorem nat_one : (nat 1 : K) = 1 := by simp only [nat, zero_add]
def int : Int → K
  | .ofNat n => nat n
  | .negSucc n => -nat (n + 1)
theorem int_subNat (m n : Nat) : (int (Int.subNatNat m n) : K) = nat m - nat n := by
  unfold Int.subNatNat
  split
  · rename_i h
    have : m = (m - n) + n := by omega
    conv => rhs; rw [this, nat_add, add_sub_cancel]
    rfl
  · rename_i k h
    have e : n = k + 1 + m := by omega
    show -nat (k + 1) = _
    rw [e, nat_add (k + 1) m, sub_eq, neg_add_rev, add_left_comm, add_neg, add_zero]
theorem int_add (a b : Int) : (int (a + b) : K) = int a + int b := by
  cases a with
  | ofNat m => cases b with
    | ofNat n => exact nat_add m n
    | negSucc n => show int (Int.subNatNat m (n + 1)) = _; rw [int_subNat, sub_eq]; rfl
  | negSucc m => cases b with
    | ofNat n => show int (Int.subNatNat n (m + 1)) = _; rw [int_subNat, sub_eq, add_comm]; rfl
    | negSucc n =>
      show -nat (m + n + 1 + 1) = -nat (m + 1) + -nat (n + 1)
      rw [← neg_add_rev, ← nat_add]; congr 2; omega
theorem int_neg (a : Int) : (int (-a) : K) = -int a := by
  apply eq_neg_of; rw [← int_add, Int.add_right_neg]; rfl
theorem int_sub (a b : Int) : (int (a - b) : K) = int a - int b := by rw [Int.sub_eq_add_neg, int_add, int_neg, sub_eq]
theorem int_mul (a b : Int) : (int (a * b) : K) = int a * int b := by
  rcases Int.eq_nat_or_neg a with ⟨m, rfl | rfl⟩ <;> rcases Int.eq_nat_or_neg b with ⟨n, rfl | rfl⟩
  · exact nat_mul m n
  · rw [Int.mul_neg, int_neg, int_neg, mul_neg]; exact congrArg _ (nat_mul m n)
  · rw [Int.neg_mul, int_neg, int_neg, neg_mul]; exact congrArg _ (nat_mul m n)
  · rw [Int.neg_mul_neg, int_neg, int_neg, neg_mul, mul_neg, neg_neg]; exact nat_mul m n
theorem int_one : (int 1 : K) = 1 := nat_one
theorem int_zero : (int 0 : K) = 0 := rfl

end CRing

open CRing

/- a normalizer for ring expressions -/
inductive Ex where
  | var (n : Nat)
  | zero
  | one
  | num (z : Int)
  | add (a b : Ex)
  | mul (a b : Ex)
  | neg (a : Ex)
  | sub (a b : Ex)

namespace Ex
instance : Add Ex := ⟨add⟩
instance : Mul Ex := ⟨mul⟩
instance : Neg Ex := ⟨neg⟩
instance : Sub Ex := ⟨sub⟩
instance : Zero Ex := ⟨zero⟩
instance : One Ex := ⟨one⟩
variable {K : Type} [CRing K]

def den (c : List K) : Ex → K
  | var n => c.getD n 0
  | zero => 0
  | one => 1
  | num z => int z
  | add a b => den c a + den c b
  | mul a b => den c a * den c b
  | neg a => - den c a
  | sub a b => den c a - den c b

def denM (c : List K) : List Nat → K
  | [] => 1
  | i :: m => c.getD i 0 * denM c m
def denP (c : List K) : List (Int × List Nat) → K
  | [] => 0
  | t :: p => int t.1 * denM c t.2 + denP c p

def lexLt : List Nat → List Nat → Bool
  | [], [] => false
  | [], _ :: _ => true
  | _ :: _, [] => false
  | i :: m, j :: n => if i < j then true else if j < i then false else lexLt m n

def insM (i : Nat) : List Nat → List Nat
  | [] => [i]
  | j :: m => if i ≤ j then i :: j :: m else j :: insM i m
def mulM : List Nat → List Nat → List Nat
  | [], n => n
  | i :: m, n => insM i (mulM m n)

def insT (z : Int) (m : List Nat) : List (Int × List Nat) → List (Int × List Nat)
  | [] => [(z, m)]
  | t :: p => if t.2 = m then (t.1 + z, m) :: p else if lexLt m t.2 then (z, m) :: t :: p else t :: insT z m p
def addP : List (Int × List Nat) → List (Int × List Nat) → List (Int × List Nat)
  | [], q => q
  | t :: p, q => insT t.1 t.2 (addP p q)
def scaT (z : Int) (m : List Nat) : List (Int × List Nat) → List (Int × List Nat)
  | [] => []
  | t :: p => insT (z * t.1) (mulM m t.2) (scaT z m p)
def mulP : List (Int × List Nat) → List (Int × List Nat) → List (Int × List Nat)
  | [], _ => []
  | t :: p, q => addP (scaT t.1 t.2 q) (mulP p q)
def negP : List (Int × List Nat) → List (Int × List Nat)
  | [] => []
  | t :: p => (-t.1, t.2) :: negP p
def norm : Ex → List (Int × List Nat)
  | var n => [(1, [n])]
  | zero => []
  | one => [(1, [])]
  | num z => [(z, [])]
  | add a b => addP (norm a) (norm b)
  | mul a b => mulP (norm a) (norm b)
  | neg a => negP (norm a)
  | sub a b => addP (norm a) (negP (norm b))
def allZ : List (Int × List Nat) → Bool
  | [] => true
  | t :: p => t.1 == 0 && allZ p

variable (c : List K)
theorem denM_ins (i : Nat) (m : List Nat) : denM c (insM i m) = c.getD i 0 * denM c m := by
  induction m with
  | nil => rfl
  | cons j m ih =>
    unfold insM; split
    · rfl
    · simp only [denM, ih, mul_left_comm]
theorem denM_mul (m n : List Nat) : denM c (mulM m n) = denM c m * denM c n := by
  induction m with
  | nil => simp only [mulM, denM, one_mul]
  | cons i m ih => simp only [mulM, denM_ins, ih, denM, mul_assoc]
theorem denP_ins (z : Int) (m : List Nat) (p) : denP c (insT z m p) = int z * denM c m + denP c p := by
  induction p with
  | nil => rfl
  | cons t p ih =>
    unfold insT; split
    · rename_i h; subst h; simp only [denP, int_add, add_mul, add_assoc, add_left_comm]
    · split
      · rfl
      · simp only [denP, ih, add_left_comm]
theorem denP_add (p q) : denP c (addP p q) = denP c p + denP c q := by
  induction p with
  | nil => simp only [addP, denP, zero_add]
  | cons t p ih => simp only [addP, denP_ins, ih, denP, add_assoc]
theorem denP_sca (z : Int) (m : List Nat) (p) : denP c (scaT z m p) = int z * denM c m * denP c p := by
  induction p with
  | nil => simp only [scaT, denP, mul_zero]
  | cons t p ih => simp only [scaT, denP_ins, ih, denP, int_mul, denM_mul, mul_add, mul_assoc, mul_left_comm]
theorem denP_mul (p q) : denP c (mulP p q) = denP c p * denP c q := by
  induction p with
  | nil => simp only [mulP, denP, zero_mul]
  | cons t p ih => simp only [mulP, denP_add, denP_sca, ih, denP, add_mul]
theorem denP_neg (p) : denP c (negP p) = - denP c p := by
  induction p with
  | nil => simp only [negP, denP, neg_zero]
  | cons t p ih => simp only [negP, denP, ih, int_neg, neg_mul, neg_add_rev]
theorem denP_norm (e : Ex) : denP c (norm e) = den c e := by
  induction e with
  | var n => simp only [norm, denP, denM, den, int_one, mul_one, one_mul, add_zero]
  | zero => rfl
  | one => simp only [norm, denP, denM, den, int_one, mul_one, add_zero]
  | num z => simp only [norm, denP, denM, den, mul_one, add_zero]
  | add a b iha ihb => simp only [norm, den, denP_add, iha, ihb]
  | mul a b iha ihb => simp only [norm, den, denP_mul, iha, ihb]
  | neg a ih => simp only [norm, den, denP_neg, ih]
  | sub a b iha ihb => simp only [norm, den, denP_add, denP_neg, iha, ihb, sub_eq]
theorem denP_allZ (p) (h : allZ p = true) : denP c p = 0 := by
  induction p with
  | nil => rfl
  | cons t p ih =>
    simp only [allZ, Bool.and_eq_true, beq_iff_eq] at h
    simp only [denP, h.1, ih h.2, int_zero, zero_mul, add_zero]
end Ex

/-- two expressions with one normal form have one value -/
theorem ring_of {K : Type} [CRing K] (c : List K) (a b : Ex) (h : Ex.allZ (Ex.norm (a - b)) = true) : a.den c = b.den c := by
  apply eq_of_sub
  exact (Ex.denP_norm c (a - b)).symm.trans (Ex.denP_allZ c _ h)

abbrev v0 : Ex := .var 0
abbrev v1 : Ex := .var 1
abbrev v2 : Ex := .var 2
abbrev v3 : Ex := .var 3
abbrev v4 : Ex := .var 4
abbrev v5 : Ex := .var 5
abbrev v6 : Ex := .var 6
abbrev v7 : Ex := .var 7

section
variable {K : Type} [CRing K]
end

/- powers -/
def pw {K : Type} [CRing K] (a : K) : Nat → K
  | 0 => 1
  | n + 1 => pw a n * a

section
variable {K : Type} [CRing K]
theorem pw_zero (a : K) : pw a 0 = 1 := rfl
theorem pw_succ (a : K) (n : Nat) : pw a (n + 1) = pw a n * a := rfl
theorem pw_one (a : K) : pw a 1 = a := one_mul a
theorem pw_two (a : K) : pw a 2 = a * a := by rw [pw_succ, pw_one]
theorem pw_add (a : K) (m n : Nat) : pw a (m + n) = pw a m * pw a n := by
  induction n with
  | zero => rw [Nat.add_zero, pw_zero, mul_one]
  | succ n ih => rw [← Nat.add_assoc, pw_succ, ih, pw_succ, mul_assoc]
theorem pw_mul (a : K) (m n : Nat) : pw a (m * n) = pw (pw a m) n := by
  induction n with
  | zero => rfl
  | succ n ih => rw [Nat.mul_succ, pw_add, ih, pw_succ]
theorem mul_pw (a b : K) (n : Nat) : pw (a * b) n = pw a n * pw b n := by
  induction n with
  | zero => rw [pw_zero, pw_zero, pw_zero, mul_one]
  | succ n ih => rw [pw_succ, pw_succ, pw_succ, ih, mul_assoc, mul_assoc, mul_left_comm a]
theorem one_pw (n : Nat) : pw (1 : K) n = 1 := by
  induction n with
  | zero => rfl
  | succ n ih => rw [pw_succ, ih, mul_one]
theorem zero_pw (n : Nat) (h : 0 < n) : pw (0 : K) n = 0 := by
  cases n with
  | zero => omega
  | succ n => rw [pw_succ, mul_zero]
theorem neg_one_sq : (-1 : K) * -1 = 1 := by rw [neg_mul, one_mul, neg_neg]
theorem neg_one_odd (m : Nat) : pw (-1 : K) (2 * m + 1) = -1 := by
  rw [pw_succ, pw_mul, pw_two, neg_one_sq, one_pw, one_mul]

/- sums over 0, .., n-1 -/
def sm (n : Nat) (f : Nat → K) : K :=
  match n with
  | 0 => 0
  | n + 1 => sm n f + f n
theorem sm_zero (f : Nat → K) : sm 0 f = 0 := rfl
theorem sm_succ (n : Nat) (f : Nat → K) : sm (n + 1) f = sm n f + f n := rfl
theorem sm_congr {n : Nat} {f g : Nat → K} (h : ∀ i, i < n → f i = g i) : sm n f = sm n g := by
  induction n with
  | zero => rfl
  | succ n ih => rw [sm_succ, sm_succ, ih (fun i hi => h i (by omega)), h n (by omega)]
theorem sm_add (n : Nat) (f g : Nat → K) : sm n (fun i => f i + g i) = sm n f + sm n g := by
  induction n with
  | zero => rw [sm_zero, sm_zero, sm_zero, add_zero]
  | succ n ih => simp only [sm_succ, ih, add_assoc, add_left_comm]
theorem sm_mul (n : Nat) (c : K) (f : Nat → K) : sm n (fun i => c * f i) = c * sm n f := by
  induction n with
  | zero => rw [sm_zero, sm_zero, mul_zero]
  | succ n ih => simp only [sm_succ, ih, mul_add]
theorem sm_mul_right (n : Nat) (c : K) (f : Nat → K) : sm n (fun i => f i * c) = sm n f * c := by
  rw [mul_comm, ← sm_mul]; exact sm_congr fun i _ => mul_comm _ _
theorem sm_zero' (n : Nat) : sm n (fun _ => (0 : K)) = 0 := by
  induction n with
  | zero => rfl
  | succ n ih => rw [sm_succ, ih, add_zero]
theorem sm_eq_zero {n : Nat} {f : Nat → K} (h : ∀ i, i < n → f i = 0) : sm n f = 0 := by
  rw [sm_congr h, sm_zero']
theorem sm_neg (n : Nat) (f : Nat → K) : sm n (fun i => - f i) = - sm n f := by
  induction n with
  | zero => rw [sm_zero, sm_zero, neg_zero]
  | succ n ih => simp only [sm_succ, ih, neg_add_rev]
theorem sm_front (n : Nat) (f : Nat → K) : sm (n + 1) f = f 0 + sm n (fun i => f (i + 1)) := by
  induction n with
  | zero => rw [sm_succ, sm_zero, sm_zero, zero_add, add_zero]
  | succ n ih => rw [sm_succ, ih, sm_succ, add_assoc]
theorem sm_split (m n : Nat) (f : Nat → K) : sm (m + n) f = sm m f + sm n (fun i => f (m + i)) := by
  induction n with
  | zero => rw [Nat.add_zero, sm_zero, add_zero]
  | succ n ih => rw [← Nat.add_assoc, sm_succ, ih, sm_succ, add_assoc]
theorem sm_swap (m n : Nat) (f : Nat → Nat → K) : sm m (fun i => sm n (f i)) = sm n (fun j => sm m (fun i => f i j)) := by
  induction m with
  | zero => exact (sm_eq_zero fun _ _ => rfl).symm
  | succ m ih => rw [sm_succ, ih, ← sm_add]; rfl
theorem sm_rev (n : Nat) (f : Nat → K) : sm n (fun i => f (n - 1 - i)) = sm n f := by
  induction n with
  | zero => rfl
  | succ n ih =>
    rw [sm_front, sm_succ, ← ih, add_comm]
    congr 1
    exact sm_congr fun i hi => by congr 1; omega
theorem sm_single {n : Nat} {f : Nat → K} (k : Nat) (hk : k < n) (h : ∀ i, i < n → i ≠ k → f i = 0) : sm n f = f k := by
  induction n with
  | zero => omega
  | succ n ih =>
    rw [sm_succ]
    by_cases e : k = n
    · subst e; rw [sm_eq_zero (fun i hi => h i (by omega) (by omega)), zero_add]
    · rw [ih (by omega) (fun i hi => h i (by omega)), h n (by omega) (by omega), add_zero]

/- the binomial theorem -/
def ch : Nat → Nat → Nat
  | _, 0 => 1
  | 0, _ + 1 => 0
  | n + 1, k + 1 => ch n k + ch n (k + 1)
theorem ch_zero (n : Nat) : ch n 0 = 1 := by cases n <;> rfl
theorem ch_big : ∀ (n k : Nat), n < k → ch n k = 0
  | 0, _ + 1, _ => rfl
  | n + 1, k + 1, h => by rw [ch, ch_big n k (by omega), ch_big n (k + 1) (by omega)]
theorem ch_self : ∀ (n : Nat), ch n n = 1
  | 0 => rfl
  | n + 1 => by rw [ch, ch_self n, ch_big n (n + 1) (by omega)]
theorem ch_absorb : ∀ (n k : Nat), (k + 1) * ch (n + 1) (k + 1) = (n + 1) * ch n k
  | 0, 0 => rfl
  | 0, k + 1 => by show (k + 2) * (0 + 0) = (0 + 1) * 0; simp
  | n + 1, 0 => by
    have := ch_absorb n 0
    rw [ch_zero] at this
    show (0 + 1) * (ch (n + 1) 0 + ch (n + 1) (0 + 1)) = (n + 2) * ch (n + 1) 0
    rw [ch_zero]; omega
  | n + 1, k + 1 => by
    have h1 := ch_absorb n k
    have h2 := ch_absorb n (k + 1)
    have e1 : ch (n + 2) (k + 2) = ch (n + 1) (k + 1) + ch (n + 1) (k + 2) := rfl
    have e2 : ch (n + 1) (k + 1) = ch n k + ch n (k + 1) := rfl
    rw [e1]
    have h3 : (k + 2) * (ch (n + 1) (k + 1) + ch (n + 1) (k + 2)) = (k + 1) * ch (n + 1) (k + 1) + ch (n + 1) (k + 1) + (k + 2) * ch (n + 1) (k + 2) := by
      rw [Nat.mul_add]; congr 1; rw [show k + 2 = (k + 1) + 1 from rfl, Nat.succ_mul]
    rw [h3, h1, h2]
    have h4 : (n + 1 + 1) * ch (n + 1) (k + 1) = (n + 1) * ch (n + 1) (k + 1) + ch (n + 1) (k + 1) := Nat.succ_mul _ _
    rw [h4]
    have h5 : (n + 1) * ch (n + 1) (k + 1) = (n + 1) * ch n k + (n + 1) * ch n (k + 1) := by rw [e2, Nat.mul_add]
    rw [h5]; omega

theorem binom (a b : K) (n : Nat) : pw (a + b) n = sm (n + 1) fun k => nat (ch n k) * (pw a k * pw b (n - k)) := by
  induction n with
  | zero => rw [sm_succ, sm_zero, zero_add]; show (1 : K) = nat 1 * (1 * 1); rw [nat_one, mul_one, mul_one]
  | succ n ih =>
    rw [pw_succ, ih, mul_add]
    have ea : sm (n + 1) (fun k => nat (ch n k) * (pw a k * pw b (n - k))) * a
        = sm (n + 1) (fun k => nat (ch n k) * (pw a (k + 1) * pw b (n - k))) := by
      rw [← sm_mul_right]; apply sm_congr; intro k _; rw [pw_succ]; simp only [mul_assoc, mul_comm]
    have eb : sm (n + 1) (fun k => nat (ch n k) * (pw a k * pw b (n - k))) * b
        = pw b (n + 1) + sm (n + 1) (fun k => nat (ch n (k + 1)) * (pw a (k + 1) * pw b (n - k))) := by
      rw [← sm_mul_right, sm_front, sm_succ n, ch_big n (n + 1) (by omega)]
      rw [show (nat 0 : K) = 0 from rfl, zero_mul, add_zero]
      congr 1
      · show nat (ch n 0) * (1 * pw b (n - 0)) * b = _; rw [ch_zero, nat_one, one_mul, one_mul]; rfl
      · apply sm_congr; intro k hk
        rw [mul_assoc, mul_assoc, ← pw_succ, show n - (k + 1) + 1 = n - k from by omega]
    rw [ea, eb, sm_front (n + 1)]
    have e0 : nat (ch (n + 1) 0) * (pw a 0 * pw b (n + 1 - 0)) = pw b (n + 1) := by
      rw [ch_zero, nat_one, pw_zero, one_mul, one_mul]; rfl
    rw [e0, add_left_comm, ← sm_add]
    congr 1
    apply sm_congr; intro k _
    rw [show n + 1 - (k + 1) = n - k from by omega, ch, nat_add, add_mul]

/-- the power p is additive where p is a prime that is 0 in the ring -/
theorem frobenius (p : Nat) (h0 : 0 < p) (hp : ∀ x y : Nat, p ∣ x * y → p ∣ x ∨ p ∣ y) (hc : (nat p : K) = 0) (a b : K) :
    pw (a + b) p = pw a p + pw b p := by
  obtain ⟨n, rfl⟩ : ∃ n, p = n + 1 := ⟨p - 1, by omega⟩
  rw [binom, sm_succ, sm_front]
  have hm : sm n (fun i => nat (ch (n + 1) (i + 1)) * (pw a (i + 1) * pw b (n + 1 - (i + 1)))) = (0 : K) := by
    apply sm_eq_zero; intro i hi
    have hd : n + 1 ∣ (i + 1) * ch (n + 1) (i + 1) := ⟨ch n i, ch_absorb n i⟩
    rcases hp _ _ hd with h | ⟨c, hc'⟩
    · exact absurd (Nat.le_of_dvd (by omega) h) (by omega)
    · rw [hc', nat_mul, hc, zero_mul, zero_mul]
  rw [hm, add_zero, ch_zero, ch_self, nat_one, one_mul, one_mul, Nat.sub_self, pw_zero, pw_zero, one_mul, mul_one, Nat.sub_zero, add_comm]
end
end Att
