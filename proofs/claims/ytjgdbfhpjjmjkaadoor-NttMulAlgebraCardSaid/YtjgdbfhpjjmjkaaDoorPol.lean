/- Polynomials over a field as lists of coefficients, lowest first. No program in sight. -/
import Derived.Test.YtjgdbfhpjjmjkaaDoorPrm
namespace Att
open CRing
section
variable {K : Type} [Fld K]

/-- the coefficient n -/
def co (l : List K) (n : Nat) : K := l.getD n 0
theorem co_nil (n : Nat) : co ([] : List K) n = 0 := by simp [co]
theorem co_cons_zero (a : K) (l : List K) : co (a :: l) 0 = a := rfl
theorem co_cons_succ (a : K) (l : List K) (n : Nat) : co (a :: l) (n + 1) = co l n := rfl
theorem co_big (l : List K) (n : Nat) (h : l.length ≤ n) : co l n = 0 := by
  unfold co; rw [List.getD_eq_getElem?_getD, List.getElem?_eq_none h]; rfl
theorem co_get (l : List K) (n : Nat) (h : n < l.length) : co l n = l[n] := by
  unfold co; rw [List.getD_eq_getElem?_getD, List.getElem?_eq_getElem h]; rfl
theorem co_append (l m : List K) (n : Nat) : co (l ++ m) n = if n < l.length then co l n else co m (n - l.length) := by
  unfold co
  simp only [List.getD_eq_getElem?_getD, List.getElem?_append]
  split <;> rfl

/-- the value at x, by Horner's rule -/
def ev (l : List K) (x : K) : K :=
  match l with
  | [] => 0
  | a :: l => ev l x * x + a
theorem ev_nil (x : K) : ev [] x = 0 := rfl
theorem ev_cons (a : K) (l : List K) (x : K) : ev (a :: l) x = ev l x * x + a := rfl
theorem ev_sum (l : List K) (x : K) : ∀ n, l.length ≤ n → ev l x = sm n (fun i => co l i * pw x i) := by
  induction l with
  | nil => intro n _; rw [ev_nil, sm_eq_zero]; intro i _; rw [co_nil, zero_mul]
  | cons a l ih =>
    intro n hn
    obtain ⟨m, rfl⟩ : ∃ m, n = m + 1 := ⟨n - 1, by simp at hn; omega⟩
    rw [ev_cons, ih m (by simp at hn; omega), sm_front, co_cons_zero, pw_zero, mul_one, CRing.add_comm, ← sm_mul_right]
    congr 1
    apply sm_congr; intro i _
    rw [co_cons_succ, pw_succ, mul_assoc]
theorem ev_of_co {l m : List K} (h : ∀ n, co l n = co m n) (x : K) : ev l x = ev m x := by
  rw [ev_sum l x (max l.length m.length) (by omega), ev_sum m x (max l.length m.length) (by omega)]
  exact sm_congr fun i _ => by rw [h]
theorem ev_append (l m : List K) (x : K) : ev (l ++ m) x = ev l x + pw x l.length * ev m x := by
  induction l with
  | nil => rw [List.nil_append, ev_nil, List.length_nil, pw_zero, one_mul, zero_add]
  | cons a l ih =>
    rw [List.cons_append, ev_cons, ih, ev_cons, List.length_cons, pw_succ]
    exact ring_of [ev l x, pw x l.length, ev m x, x, a] ((v0 + v1 * v2) * v3 + v4) (v0 * v3 + v4 + v1 * v3 * v2) rfl

/-- without leading zeros -/
def trim (l : List K) : List K :=
  match l with
  | [] => []
  | a :: l => if trim l = [] ∧ a = 0 then [] else a :: trim l
theorem trim_nil : trim ([] : List K) = [] := rfl
theorem co_trim (l : List K) : ∀ n, co (trim l) n = co l n := by
  induction l with
  | nil => intro n; rfl
  | cons a l ih =>
    intro n
    rw [trim]
    split
    · rename_i h
      cases n with
      | zero => rw [co_nil, co_cons_zero, h.2]
      | succ n => rw [co_nil, co_cons_succ, ← ih n, h.1, co_nil]
    · cases n with
      | zero => rfl
      | succ n => rw [co_cons_succ, co_cons_succ, ih]
theorem trim_length_le (l : List K) : (trim l).length ≤ l.length := by
  induction l with
  | nil => exact Nat.le_refl _
  | cons a l ih =>
    rw [trim]; split
    · exact Nat.zero_le _
    · simp only [List.length_cons]; omega
theorem trim_eq_nil {l : List K} : trim l = [] ↔ ∀ n, co l n = 0 := by
  induction l with
  | nil => exact ⟨fun _ n => co_nil n, fun _ => rfl⟩
  | cons a l ih =>
    rw [trim]
    constructor
    · intro h n
      split at h
      · rename_i h1
        cases n with
        | zero => exact h1.2
        | succ n => exact ih.1 h1.1 n
      · cases h
    · intro h
      rw [if_pos ⟨ih.2 fun n => h (n + 1), h 0⟩]
/-- what is trimmed is told by its coefficients -/
theorem trim_ext : ∀ {l m : List K}, (∀ n, co l n = co m n) → trim l = trim m
  | [], m, h => by rw [trim_nil]; exact (trim_eq_nil.2 fun n => by rw [← h n, co_nil]).symm
  | a :: l, [], h => by rw [trim_nil]; exact trim_eq_nil.2 fun n => by rw [h n, co_nil]
  | a :: l, b :: m, h => by
    have h0 : a = b := h 0
    have h1 : trim l = trim m := trim_ext fun n => h (n + 1)
    rw [trim, trim, h0, h1]
theorem trim_trim (l : List K) : trim (trim l) = trim l := trim_ext (co_trim l)
theorem co_trim_last {l : List K} (h : trim l ≠ []) : co l ((trim l).length - 1) ≠ 0 := by
  induction l with
  | nil => exact absurd rfl h
  | cons a l ih =>
    rw [trim] at h ⊢
    split at h
    · exact absurd rfl h
    · rename_i hn
      rw [if_neg hn]
      by_cases ht : trim l = []
      · rw [ht]
        show co (a :: l) 0 ≠ 0
        exact fun ha => hn ⟨ht, ha⟩
      · have h1 : (trim l).length ≠ 0 := fun e => ht (List.length_eq_zero_iff.1 e)
        rw [List.length_cons, show (trim l).length + 1 - 1 = ((trim l).length - 1) + 1 from by omega, co_cons_succ]
        exact ih ht
theorem ev_trim (l : List K) (x : K) : ev (trim l) x = ev l x := ev_of_co (co_trim l) x
/-- a list whose last coefficient is not zero is trimmed -/
theorem trim_of_last {l : List K} (h : l = [] ∨ co l (l.length - 1) ≠ 0) : trim l = l := by
  induction l with
  | nil => rfl
  | cons a l ih =>
    rcases h with h | h
    · cases h
    · rw [trim]
      by_cases hl : l = []
      · subst hl
        have ha : a ≠ 0 := h
        rw [if_neg (fun e => ha e.2), trim_nil]
      · have h1 : l.length ≠ 0 := fun e => hl (List.length_eq_zero_iff.1 e)
        rw [List.length_cons, show l.length + 1 - 1 = (l.length - 1) + 1 from by omega, co_cons_succ] at h
        rw [ih (.inr h), if_neg (fun e => hl e.1)]
theorem length_le_of_co {l : List K} {n : Nat} (h : ∀ i, n ≤ i → co l i = 0) : (trim l).length ≤ n := by
  by_cases ht : trim l = []
  · rw [ht]; exact Nat.zero_le _
  · rcases Nat.lt_or_ge n (trim l).length with h' | h'
    · exact absurd (h _ (by omega)) (co_trim_last ht)
    · exact h'
theorem co_of_length {l : List K} {n : Nat} (h : (trim l).length ≤ n) (i : Nat) (hi : n ≤ i) : co l i = 0 := by
  rw [← co_trim]; exact co_big _ _ (by omega)

/-- the list of f 0, .., f (n-1) -/
def tab (n : Nat) (f : Nat → K) : List K := (List.range n).map f
omit [Fld K] in
theorem tab_length (n : Nat) (f : Nat → K) : (tab n f).length = n := by simp [tab]
theorem co_tab (n : Nat) (f : Nat → K) (i : Nat) : co (tab n f) i = if i < n then f i else 0 := by
  split
  · rename_i h; rw [co_get _ _ (by rw [tab_length]; exact h)]; simp [tab]
  · rename_i h; exact co_big _ _ (by rw [tab_length]; omega)
omit [Fld K] in
theorem tab_succ (n : Nat) (f : Nat → K) : tab (n + 1) f = tab n f ++ [f n] := by simp [tab, List.range_succ]
theorem tab_eq (l : List K) : tab l.length (co l) = l := by
  apply List.ext_getElem (tab_length _ _)
  intro i h1 h2
  rw [← co_get _ _ h1, co_tab, if_pos (by rw [tab_length] at h1; exact h1), co_get _ _ h2]
theorem list_ext_co {l m : List K} (hl : l.length = m.length) (h : ∀ i, i < l.length → co l i = co m i) : l = m := by
  apply List.ext_getElem hl
  intro i h1 h2
  rw [← co_get _ _ h1, ← co_get _ _ h2]; exact h i h1

/- sums, differences, multiples -/
def padd (l m : List K) : List K := tab (max l.length m.length) fun i => co l i + co m i
def psub (l m : List K) : List K := tab (max l.length m.length) fun i => co l i - co m i
def psca (l : List K) (c : K) : List K := tab l.length fun i => co l i * c
theorem co_padd (l m : List K) (n : Nat) : co (padd l m) n = co l n + co m n := by
  unfold padd; rw [co_tab]; split
  · rfl
  · rw [co_big l n (by omega), co_big m n (by omega), add_zero]
theorem co_psub (l m : List K) (n : Nat) : co (psub l m) n = co l n - co m n := by
  unfold psub; rw [co_tab]; split
  · rfl
  · rw [co_big l n (by omega), co_big m n (by omega), sub_zero]
theorem co_psca (l : List K) (c : K) (n : Nat) : co (psca l c) n = co l n * c := by
  unfold psca; rw [co_tab]; split
  · rfl
  · rw [co_big l n (by omega), zero_mul]
theorem ev_padd (l m : List K) (x : K) : ev (padd l m) x = ev l x + ev m x := by
  have h : (padd l m).length ≤ max l.length m.length := by unfold padd; rw [tab_length]; omega
  rw [ev_sum _ x _ h, ev_sum l x (max l.length m.length) (by omega), ev_sum m x (max l.length m.length) (by omega), ← sm_add]
  exact sm_congr fun i _ => by rw [co_padd, add_mul]
theorem ev_psub (l m : List K) (x : K) : ev (psub l m) x = ev l x - ev m x := by
  have h : (psub l m).length ≤ max l.length m.length := by unfold psub; rw [tab_length]; omega
  rw [ev_sum _ x _ h, ev_sum l x (max l.length m.length) (by omega), ev_sum m x (max l.length m.length) (by omega), sub_eq, ← sm_neg, ← sm_add]
  exact sm_congr fun i _ => by rw [co_psub, sub_eq, add_mul, neg_mul]
theorem ev_psca (l : List K) (c : K) (x : K) : ev (psca l c) x = ev l x * c := by
  have h : (psca l c).length ≤ l.length := by unfold psca; rw [tab_length]; exact Nat.le_refl _
  rw [ev_sum _ x _ h, ev_sum l x l.length (by omega), ← sm_mul_right]
  exact sm_congr fun i _ => by rw [co_psca, mul_assoc, mul_comm c, ← mul_assoc]

/- products -/
def conv (f g : Nat → K) (n : Nat) : K := sm (n + 1) fun i => f i * g (n - i)
def pmul (l m : List K) : List K := tab (l.length + m.length) (conv (co l) (co m))
theorem conv_zero_big (l m : List K) (n : Nat) (h : l.length + m.length ≤ n + 1) : conv (co l) (co m) n = 0 := by
  apply sm_eq_zero; intro i hi
  by_cases h1 : i < l.length
  · rw [co_big m (n - i) (by omega), mul_zero]
  · rw [co_big l i (by omega), zero_mul]
theorem co_pmul (l m : List K) (n : Nat) : co (pmul l m) n = conv (co l) (co m) n := by
  unfold pmul; rw [co_tab]; split
  · rfl
  · exact (conv_zero_big l m n (by omega)).symm
theorem conv_comm (f g : Nat → K) (n : Nat) : conv f g n = conv g f n := by
  unfold conv
  rw [← sm_rev (n + 1)]
  apply sm_congr; intro i hi
  rw [mul_comm]; congr 2 <;> omega
theorem conv_add (f g h : Nat → K) (n : Nat) : conv f (fun i => g i + h i) n = conv f g n + conv f h n := by
  unfold conv
  rw [← sm_add]
  exact sm_congr fun i _ => mul_add _ _ _
theorem conv_congr {f f' g g' : Nat → K} {n : Nat} (h1 : ∀ i, i ≤ n → f i = f' i) (h2 : ∀ i, i ≤ n → g i = g' i) : conv f g n = conv f' g' n := by
  unfold conv
  exact sm_congr fun i hi => by rw [h1 i (by omega), h2 (n - i) (by omega)]
/-- the sum over a triangle, both ways -/
theorem sm_tri (n : Nat) (f : Nat → Nat → K) : sm n (fun i => sm (i + 1) (fun j => f j (i - j))) = sm n (fun j => sm (n - j) (fun k => f j k)) := by
  induction n with
  | zero => rfl
  | succ n ih =>
    rw [sm_succ, ih]
    have e : sm (n + 1) (fun j => sm (n + 1 - j) (fun k => f j k)) = sm (n + 1) (fun j => sm (n - j) (fun k => f j k) + f j (n - j)) :=
      sm_congr fun j hj => by rw [show n + 1 - j = (n - j) + 1 from by omega, sm_succ]
    rw [e, sm_add]
    congr 1
    rw [sm_succ, Nat.sub_self, sm_zero, add_zero]
theorem conv_assoc (f g h : Nat → K) (n : Nat) : conv (conv f g) h n = conv f (conv g h) n := by
  unfold conv
  have e1 : sm (n + 1) (fun i => sm (i + 1) (fun j => f j * g (i - j)) * h (n - i)) = sm (n + 1) (fun i => sm (i + 1) (fun j => f j * (g (i - j) * h (n - j - (i - j))))) :=
    sm_congr fun i hi => by
      rw [← sm_mul_right]
      exact sm_congr fun j hj => by rw [mul_assoc]; congr 3; omega
  rw [e1, sm_tri (n + 1) (fun j k => f j * (g k * h (n - j - k)))]
  apply sm_congr; intro j hj
  rw [← sm_mul, show n + 1 - j = n - j + 1 from by omega]
theorem ev_pmul (l m : List K) (x : K) : ev (pmul l m) x = ev l x * ev m x := by
  have h : (pmul l m).length ≤ l.length + m.length := by unfold pmul; rw [tab_length]; exact Nat.le_refl _
  have e : ev (pmul l m) x = sm (l.length + m.length) (fun i => sm (i + 1) (fun j => (co l j * pw x j) * (co m (i - j) * pw x (i - j)))) := by
    rw [ev_sum _ x _ h]
    apply sm_congr; intro i _
    rw [co_pmul]; unfold conv
    rw [← sm_mul_right]
    apply sm_congr; intro j hj
    have e : pw x i = pw x j * pw x (i - j) := by rw [← pw_add]; congr 1; omega
    rw [e]
    exact ring_of [co l j, co m (i - j), pw x j, pw x (i - j)] (v0 * v1 * (v2 * v3)) (v0 * v2 * (v1 * v3)) rfl
  rw [e, sm_tri (l.length + m.length) (fun j k => (co l j * pw x j) * (co m k * pw x k)), ev_sum l x (l.length + m.length) (by omega), ← sm_mul_right]
  apply sm_congr; intro j hj
  rw [sm_mul]
  by_cases hl : j < l.length
  · rw [ev_sum m x (l.length + m.length - j) (by omega)]
  · rw [co_big l j (by omega)]; simp only [zero_mul]

/-- degrees add up -/
theorem conv_top (f g : Nat → K) (a b : Nat) (hf : ∀ i, a < i → f i = 0) (hg : ∀ i, b < i → g i = 0) : conv f g (a + b) = f a * g b := by
  unfold conv
  rw [sm_single a (by omega)]
  · congr 2; omega
  · intro i _ hne
    rcases Nat.lt_or_gt_of_ne hne with h | h
    · rw [hg _ (by omega), mul_zero]
    · rw [hf _ h, zero_mul]
theorem trim_pmul_length {l m : List K} (hl : trim l ≠ []) (hm : trim m ≠ []) : (trim (pmul l m)).length = (trim l).length + (trim m).length - 1 := by
  have l0 : (trim l).length ≠ 0 := fun e => hl (List.length_eq_zero_iff.1 e)
  have m0 : (trim m).length ≠ 0 := fun e => hm (List.length_eq_zero_iff.1 e)
  have hle : (trim (pmul l m)).length ≤ (trim l).length + (trim m).length - 1 := by
    apply length_le_of_co
    intro i hi
    rw [co_pmul]
    rw [conv_congr (f' := co (trim l)) (g' := co (trim m)) (fun j _ => (co_trim l j).symm) (fun j _ => (co_trim m j).symm)]
    exact conv_zero_big _ _ _ (by omega)
  have htop : co (pmul l m) (((trim l).length - 1) + ((trim m).length - 1)) ≠ 0 := by
    rw [co_pmul, conv_top]
    · exact mul_ne_zero (co_trim_last hl) (co_trim_last hm)
    · intro i hi; exact co_of_length (n := (trim l).length) (Nat.le_refl _) i (by omega)
    · intro i hi; exact co_of_length (n := (trim m).length) (Nat.le_refl _) i (by omega)
  rcases Nat.lt_or_ge (trim (pmul l m)).length ((trim l).length + (trim m).length - 1) with h | h
  · exact absurd (co_of_length (n := (trim (pmul l m)).length) (Nat.le_refl _) _ (by omega)) htop
  · omega
theorem trim_pmul_nil {l m : List K} (h : trim l = [] ∨ trim m = []) : trim (pmul l m) = [] := by
  rw [trim_eq_nil]
  intro n
  rw [co_pmul]; unfold conv
  apply sm_eq_zero; intro i _
  rcases h with h | h
  · rw [trim_eq_nil.1 h, zero_mul]
  · rw [trim_eq_nil.1 h, mul_zero]

/- division by X - x -/
/-- quotient and remainder -/
def divr (l : List K) (x : K) : List K × K :=
  match l with
  | [] => ([], 0)
  | a :: l => match l with
    | [] => ([], a)
    | _ :: _ => ((divr l x).2 :: (divr l x).1, a + (divr l x).2 * x)
theorem divr_cons (a b : K) (l : List K) (x : K) : divr (a :: b :: l) x = ((divr (b :: l) x).2 :: (divr (b :: l) x).1, a + (divr (b :: l) x).2 * x) := rfl
theorem divr_length (l : List K) (x : K) : (divr l x).1.length = l.length - 1 := by
  induction l with
  | nil => rfl
  | cons a l ih => cases l with
    | nil => rfl
    | cons b l => rw [divr_cons]; simp only [List.length_cons] at ih ⊢; omega
theorem divr_rem (l : List K) (x : K) : (divr l x).2 = ev l x := by
  induction l with
  | nil => rfl
  | cons a l ih => cases l with
    | nil => show a = 0 * x + a; rw [zero_mul, zero_add]
    | cons b l => rw [divr_cons, ih, ev_cons]; exact CRing.add_comm _ _
/-- the coefficients: co l = co q shifted - x co q, + r at 0 -/
theorem divr_co (l : List K) (x : K) : ∀ n, co l n = (if n = 0 then (divr l x).2 else co (divr l x).1 (n - 1)) - x * co (divr l x).1 n := by
  induction l with
  | nil =>
    intro n
    show co [] n = (if n = 0 then (0 : K) else co [] (n - 1)) - x * co [] n
    rw [co_nil, co_nil, mul_zero, sub_zero]; split <;> rfl
  | cons a l ih => cases l with
    | nil =>
      intro n
      show co [a] n = (if n = 0 then a else co [] (n - 1)) - x * co [] n
      rw [co_nil, co_nil, mul_zero, sub_zero]
      cases n with
      | zero => rfl
      | succ n => rfl
    | cons b l =>
      intro n
      rw [divr_cons]
      cases n with
      | zero =>
        show a = a + (divr (b :: l) x).2 * x - x * (divr (b :: l) x).2
        exact ring_of [a, (divr (b :: l) x).2, x] v0 (v0 + v1 * v2 - v2 * v1) rfl
      | succ n =>
        rw [co_cons_succ, ih n, co_cons_succ, if_neg (Nat.succ_ne_zero n)]
        cases n with
        | zero => rw [if_pos rfl]; rfl
        | succ n => rw [if_neg (Nat.succ_ne_zero n)]; rfl
theorem divr_mul (l : List K) (x y : K) : ev l y = ev (divr l x).1 y * (y - x) + ev l x := by
  induction l with
  | nil => show (0 : K) = 0 * (y - x) + 0; rw [zero_mul, add_zero]
  | cons a l ih => cases l with
    | nil =>
      show 0 * y + a = 0 * (y - x) + (0 * x + a)
      exact ring_of [a, x, y] (0 * v2 + v0) (0 * (v2 - v1) + (0 * v1 + v0)) rfl
    | cons b l =>
      rw [divr_cons, ev_cons a, ih, ev_cons a, divr_rem]
      show _ = ev (ev (b :: l) x :: (divr (b :: l) x).1) y * (y - x) + (ev (b :: l) x * x + a)
      rw [ev_cons (ev (b :: l) x)]
      exact ring_of [ev (divr (b :: l) x).1 y, y, x, ev (b :: l) x, a] ((v0 * (v1 - v2) + v3) * v1 + v4) ((v0 * v1 + v3) * (v1 - v2) + (v3 * v2 + v4)) rfl

/-- a list of length n that vanishes at n different elements is zero -/
theorem roots_all : ∀ (n : Nat) (l : List K) (xs : List K), l.length ≤ n → xs.length = n → xs.Nodup → (∀ x ∈ xs, ev l x = 0) → ∀ i, co l i = 0
  | 0, l, _, hl, _, _, _ => by
    have : l = [] := List.length_eq_zero_iff.1 (by omega)
    subst this; exact co_nil
  | n + 1, l, xs, hl, hx, hn, h => by
    match xs, hx with
    | x :: xs, hx =>
      have hx0 := h x (by simp)
      have hq := roots_all n (divr l x).1 xs (by rw [divr_length]; omega) (by simpa using hx) (List.nodup_cons.1 hn).2 (by
        intro y hy
        have h1 := h y (by simp [hy])
        rw [divr_mul l x y, hx0, add_zero] at h1
        rcases mul_eq_zero.1 h1 with h2 | h2
        · exact h2
        · exact absurd (eq_of_sub h2) (fun e => (List.nodup_cons.1 hn).1 (e ▸ hy)))
      intro i
      rw [divr_co l x i, hq i, mul_zero, sub_zero, divr_rem, hx0, hq (i - 1)]
      split <;> rfl
/-- two lists of length at most n with equal values at n different elements have equal coefficients -/
theorem interp_unique {n : Nat} {l m : List K} {xs : List K} (hl : l.length ≤ n) (hm : m.length ≤ n) (hx : xs.length = n) (hn : xs.Nodup) (h : ∀ x ∈ xs, ev l x = ev m x) (i : Nat) : co l i = co m i := by
  have e := roots_all n (psub l m) xs (by unfold psub; rw [tab_length]; omega) hx hn (fun x hx => by rw [ev_psub, h x hx, sub_self]) i
  rw [co_psub] at e
  exact eq_of_sub e
/-- a list that is not zero has fewer different roots than its trimmed length -/
theorem root_bound {l : List K} (h : trim l ≠ []) {xs : List K} (hn : xs.Nodup) (hx : ∀ x ∈ xs, ev l x = 0) : xs.length < (trim l).length := by
  rcases Nat.lt_or_ge xs.length (trim l).length with h' | h'
  · exact h'
  · have e := roots_all xs.length (trim l) xs h' rfl hn (fun x hx' => by rw [ev_trim]; exact hx x hx')
    exact absurd (trim_eq_nil.2 fun n => by rw [← co_trim]; exact e n) h
end
end Att
