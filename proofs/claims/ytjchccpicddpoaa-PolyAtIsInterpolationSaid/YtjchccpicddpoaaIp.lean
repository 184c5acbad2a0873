/- Interpolation at the nodes 0, 1, ... No program in sight. -/
import Derived.Test.YtjchccpicddpoaaPw7
import Derived.Test.YtjchccpicddpoaaNd
namespace Go.Proofs.Ytjchccpicddpoaa
open Att Att.CRing
/- ───── division by X - x, of a multiple ───── -/
theorem tab_front {K : Type} (n : Nat) (f : Nat → K) : tab (n + 1) f = f 0 :: tab n (fun i => f (i + 1)) := by
  simp [tab, List.range_succ_eq_map, List.map_map, Function.comp_def]
theorem dq_eq (x : Ext) : ∀ l : List Ext, dq l x = (divr l x).1
  | [] => rfl
  | [_] => rfl
  | a :: b :: l => by
    rw [divr_cons, divr_rem, ← dq_eq x (b :: l)]
    unfold dq
    simp only [List.length_cons, Nat.add_sub_cancel]
    rw [tab_front]; rfl
/-- X - x -/
def lin (x : Ext) : List Ext := [-x, 1]
theorem co_pmul_congr {a a' b b' : List Ext} (h1 : ∀ n, co a n = co a' n) (h2 : ∀ n, co b n = co b' n) (n : Nat) : co (pmul a b) n = co (pmul a' b') n := by
  rw [co_pmul, co_pmul]; exact conv_congr (fun i _ => h1 i) (fun i _ => h2 i)
theorem co_pmul_right (a b c : List Ext) (n : Nat) : co (pmul (pmul a b) c) n = co (pmul (pmul a c) b) n := by
  have e (p q r : List Ext) : co (pmul (pmul p q) r) n = conv (co p) (conv (co q) (co r)) n := by
    rw [co_pmul, conv_congr (f' := conv (co p) (co q)) (g' := co r) (fun i _ => co_pmul p q i) (fun _ _ => rfl), conv_assoc]
  rw [e, e]
  exact conv_congr (fun _ _ => rfl) (fun i _ => conv_comm _ _ i)
theorem co_lin (q : List Ext) (x : Ext) (n : Nat) : co (pmul q (lin x)) n = (if n = 0 then 0 else co q (n - 1)) - x * co q n := by
  rw [co_pmul, conv_comm]
  unfold conv
  cases n with
  | zero =>
    rw [sm_succ, sm_zero, zero_add, if_pos rfl, zero_sub]
    show -x * co q 0 = _
    rw [neg_mul]
  | succ n =>
    rw [sm_front, sm_front, sm_eq_zero (f := fun i => co (lin x) (i + 1 + 1) * co q (n + 1 - (i + 1 + 1))) (fun i _ => by
      rw [co_big (lin x) _ (show (lin x).length ≤ i + 1 + 1 from by show 2 ≤ i + 1 + 1; omega), zero_mul]), add_zero, if_neg (Nat.succ_ne_zero n)]
    show -x * co q (n + 1) + 1 * co q (n + 1 - (0 + 1)) = _
    rw [show n + 1 - (0 + 1) = n from by omega, one_mul, neg_mul, sub_eq, CRing.add_comm]
theorem co_div_lin {l q : List Ext} {x : Ext} (h : ∀ n, co l n = co (pmul q (lin x)) n) (n : Nat) : co (dq l x) n = co q n := by
  rw [dq_eq]
  have key : ∀ d n, (divr l x).1.length + q.length ≤ n + d → co (divr l x).1 n = co q n := by
    intro d
    induction d with
    | zero => intro n hn; rw [co_big _ _ (by omega), co_big _ _ (by omega)]
    | succ d ih =>
      intro n hn
      have h1 := divr_co l x (n + 1)
      rw [h (n + 1), co_lin, if_neg (Nat.succ_ne_zero n), if_neg (Nat.succ_ne_zero n), Nat.add_sub_cancel, ih (n + 1) (by omega), sub_eq, sub_eq] at h1
      exact (add_right_cancel h1).symm
  exact key _ n (Nat.le_add_left _ _)
theorem ev_lin (x y : Ext) : ev (lin x) y = y - x := by
  show ((0 : Ext) * y + 1) * y + -x = _
  exact ring_of [x, y] ((0 * v1 + 1) * v1 + -v0) (v1 - v0) rfl
/- ───── products ───── -/
def pd (n : Nat) (f : Nat → Ext) : Ext := match n with
  | 0 => 1
  | n + 1 => pd n f * f n
theorem pd_congr {n : Nat} {f g : Nat → Ext} (h : ∀ i, i < n → f i = g i) : pd n f = pd n g := by
  induction n with
  | zero => rfl
  | succ n ih => unfold pd; rw [ih fun i hi => h i (by omega), h n (by omega)]
theorem pd_split (m n : Nat) (f : Nat → Ext) : pd (m + n) f = pd m f * pd n (fun i => f (m + i)) := by
  induction n with
  | zero => show pd m f = pd m f * 1; rw [mul_one]
  | succ n ih => show pd (m + n) f * f (m + n) = pd m f * (pd n (fun i => f (m + i)) * f (m + n)); rw [ih, mul_assoc]
theorem pd_front (n : Nat) (f : Nat → Ext) : pd (n + 1) f = f 0 * pd n (fun i => f (i + 1)) := by
  rw [Nat.add_comm, pd_split]
  show 1 * f 0 * _ = _
  rw [one_mul]
  congr 1
  exact pd_congr fun i _ => by rw [Nat.add_comm]
theorem pd_zero {n i : Nat} {f : Nat → Ext} (hi : i < n) (h : f i = 0) : pd n f = 0 := by
  obtain ⟨m, rfl⟩ : ∃ m, n = i + (m + 1) := ⟨n - i - 1, by omega⟩
  rw [pd_split, pd_front, Nat.add_zero, h, zero_mul, mul_zero]
/- ───── the polynomials of the nodes ───── -/
def nde (k : Nat) : Ext := int (k : Int)
theorem nod_eq (i k : Nat) : nod i k = nde i - nde k := int_sub _ _
/-- the factors of the node polynomial but for node i -/
def wof (i : Nat) (x : Ext) (k : Nat) : Ext := if k = i then 1 else x - nde k
theorem wpr_eq (i : Nat) : ∀ n, wpr i n = pd n (wof i (nde i))
  | 0 => rfl
  | n + 1 => by
    show (if n = i then wpr i n else wpr i n * nod i n) = pd n (wof i (nde i)) * wof i (nde i) n
    rw [wpr_eq i n]
    unfold wof
    split
    · rw [mul_one]
    · rw [nod_eq]
def allP : Nat → List Ext
  | 0 => [int 1]
  | n + 1 => trim (pmul (allP n) [int (-(n : Int)), int 1])
def exi (i : Nat) : Nat → List Ext
  | 0 => [1]
  | k + 1 => if k = i then exi i k else pmul (exi i k) (lin (nde k))
theorem lin_eq (n : Nat) : ([int (-(n : Int)), int 1] : List Ext) = lin (nde n) := by rw [int_neg, int_one]; rfl
theorem allP_len (n : Nat) : (allP n).length ≤ n + 1 := by
  induction n with
  | zero => exact Nat.le_refl _
  | succ n ih =>
    unfold allP
    refine length_le_of_co fun i hi => ?_
    rw [co_pmul]
    exact conv_zero_big _ _ _ (by simp only [List.length_cons, List.length_nil]; omega)
theorem allP_exi {i n : Nat} (h : i < n) : ∀ t, co (allP n) t = co (pmul (exi i n) (lin (nde i))) t := by
  have below : ∀ n, n ≤ i → ∀ t, co (allP n) t = co (exi i n) t := by
    intro n
    induction n with
    | zero => intro _ t; unfold allP exi; rw [int_one]
    | succ n ih =>
      intro hn t
      unfold allP exi
      rw [co_trim, if_neg (by omega), lin_eq]
      exact co_pmul_congr (ih (by omega)) (fun _ => rfl) t
  induction n with
  | zero => omega
  | succ n ih =>
    intro t
    unfold allP exi
    rw [co_trim, lin_eq]
    by_cases hni : n = i
    · subst hni
      rw [if_pos rfl]
      exact co_pmul_congr (below n (Nat.le_refl _)) (fun _ => rfl) t
    · rw [if_neg hni, co_pmul_right]
      exact co_pmul_congr (ih (by omega)) (fun _ => rfl) t
theorem ev_exi (i : Nat) (x : Ext) : ∀ n, ev (exi i n) x = pd n (wof i x)
  | 0 => by show (0 : Ext) * x + 1 = 1; rw [zero_mul, zero_add]
  | n + 1 => by
    show ev (if n = i then exi i n else pmul (exi i n) (lin (nde n))) x = pd n (wof i x) * wof i x n
    unfold wof
    split
    · rw [mul_one, ev_exi i x n]; rfl
    · rw [ev_pmul, ev_lin, ev_exi i x n]; rfl
theorem exi_len {i n : Nat} (h : i < n) : (trim (exi i n)).length ≤ n := by
  have h1 : ∀ n, (trim (exi i n)).length ≤ n + 1 ∧ (i < n → (trim (exi i n)).length ≤ n) := by
    intro n
    induction n with
    | zero => exact ⟨trim_length_le _, fun h => absurd h (by omega)⟩
    | succ n ih =>
      unfold exi
      have step : ∀ m, (trim (exi i n)).length ≤ m → (trim (pmul (exi i n) (lin (nde n)))).length ≤ m + 1 := by
        intro m hm
        refine length_le_of_co fun j hj => ?_
        rw [co_pmul, conv_congr (f' := co (trim (exi i n))) (g' := co (lin (nde n))) (fun j _ => (co_trim _ j).symm) (fun _ _ => rfl)]
        exact conv_zero_big _ _ _ (by show (trim (exi i n)).length + 2 ≤ j + 1; omega)
      by_cases hni : n = i
      · rw [if_pos hni]
        exact ⟨by omega, fun _ => ih.1⟩
      · rw [if_neg hni]
        exact ⟨step _ ih.1, fun hi => step _ (ih.2 (by omega))⟩
  exact (h1 n).2 h
/-- what the program's Interpolate builds, with f for the inverse -/
def outP (f : Ext → Ext) (v : List Ext) (n : Nat) : Nat → List Ext
  | 0 => []
  | i + 1 => trim (padd (outP f v n i) (trim (psca (trim (dq (allP n) (nde i))) (f (wpr i n) * co v i))))
/-- the value at x, as At reckons it -/
def atS (f : Ext → Ext) (v : List Ext) (n : Nat) (x : Ext) : Nat → Ext
  | 0 => 0
  | i + 1 => atS f v n x i + co v i * f (wpr i n) * (pd i (fun k => x - nde k) * pd (n - (i + 1)) (fun k => x - nde (i + 1 + k)))
theorem wof_split {i n : Nat} (h : i < n) (x : Ext) : pd n (wof i x) = pd i (fun k => x - nde k) * pd (n - (i + 1)) (fun k => x - nde (i + 1 + k)) := by
  obtain ⟨m, rfl⟩ : ∃ m, n = i + 1 + m := ⟨n - i - 1, by omega⟩
  rw [pd_split, show i + 1 + m - (i + 1) = m from by omega]
  congr 1
  · show pd i (wof i x) * wof i x i = _
    rw [show wof i x i = 1 from if_pos rfl, mul_one]
    exact pd_congr fun k hk => if_neg (by omega)
  · exact pd_congr fun k _ => if_neg (by omega)
theorem ev_outP (f : Ext → Ext) (v : List Ext) (n : Nat) (x : Ext) : ∀ i, i ≤ n → ev (outP f v n i) x = atS f v n x i
  | 0, _ => rfl
  | i + 1, h => by
    unfold outP atS
    rw [ev_trim, ev_padd, ev_outP f v n x i (by omega), ev_trim, ev_psca, ev_trim, ev_of_co (co_div_lin (allP_exi (show i < n by omega))), ev_exi, wof_split (show i < n by omega)]
    congr 1
    rw [mul_comm, mul_comm (f _)]
theorem outP_len (f : Ext → Ext) (v : List Ext) (n : Nat) : ∀ i, i ≤ n → (outP f v n i).length ≤ n
  | 0, _ => Nat.zero_le _
  | i + 1, h => by
    unfold outP
    refine length_le_of_co fun j hj => ?_
    rw [co_padd, co_big _ _ (Nat.le_trans (outP_len f v n i (by omega)) hj), co_trim, co_psca, co_trim, co_div_lin (allP_exi (show i < n by omega)), co_of_length (exi_len (show i < n by omega)) j hj, zero_mul, add_zero]
theorem outP_trim (f : Ext → Ext) (v : List Ext) (n : Nat) : ∀ i, trim (outP f v n i) = outP f v n i
  | 0 => rfl
  | _ + 1 => trim_trim _
theorem nde_ne {i k : Nat} (h : i ≠ k) (hi : i ≤ 1000000) (hk : k ≤ 1000000) : nde i ≠ nde k := fun e => nod_ne h hi hk (by rw [nod_eq, e, sub_self])
theorem atS_node {f : Ext → Ext} (hf : ∀ x, x ≠ 0 → x * f x = 1) (v : List Ext) {n j : Nat} (hn : n ≤ 1000000) (hj : j < n) : ∀ i, i ≤ n → atS f v n (nde j) i = if j < i then co v j else 0
  | 0, _ => by rw [if_neg (by omega)]; rfl
  | i + 1, h => by
    unfold atS
    rw [atS_node hf v hn hj i (by omega), ← wof_split (show i < n by omega)]
    by_cases hij : i = j
    · subst hij
      rw [if_neg (by omega), if_pos (by omega), zero_add, ← wpr_eq, mul_assoc, mul_comm (f _), hf _ (wpr_ne (by omega) hn), mul_one]
    · rw [pd_zero hj (by unfold wof; rw [if_neg (Ne.symm hij), sub_self]), mul_zero, add_zero]
      by_cases hlt : j < i
      · rw [if_pos hlt, if_pos (by omega)]
      · rw [if_neg hlt, if_neg (by omega)]
theorem ev_out_node {f : Ext → Ext} (hf : ∀ x, x ≠ 0 → x * f x = 1) (v : List Ext) {n j : Nat} (hn : n ≤ 1000000) (hj : j < n) : ev (outP f v n n) (nde j) = co v j := by
  rw [ev_outP f v n _ n (Nat.le_refl _), atS_node hf v hn hj n (Nat.le_refl _), if_pos hj]
theorem nodes_nodup {n : Nat} (hn : n ≤ 1000000) : (tab n nde).Nodup := by
  induction n with
  | zero => exact List.nodup_nil
  | succ n ih =>
    rw [tab_succ, List.nodup_append]
    refine ⟨ih (by omega), by simp, ?_⟩
    intro a ha b hb
    simp only [tab, List.mem_map, List.mem_range] at ha
    obtain ⟨k, hk, rfl⟩ := ha
    simp only [List.mem_singleton] at hb
    subst hb
    exact nde_ne (by omega) (by omega) (by omega)
/-- two lists of length at most n with the same values at n nodes have the same coefficients -/
theorem nodes_unique {n : Nat} (hn : n ≤ 1000000) {l m : List Ext} (hl : l.length ≤ n) (hm : m.length ≤ n) (h : ∀ j, j < n → ev l (nde j) = ev m (nde j)) (i : Nat) : co l i = co m i := by
  refine interp_unique hl hm (tab_length n nde) (nodes_nodup hn) ?_ i
  intro x hx
  simp only [tab, List.mem_map, List.mem_range] at hx
  obtain ⟨k, hk, rfl⟩ := hx
  exact h k hk
/- ───── the reference ───── -/
def basR (f : Ext → Ext) (y : Ext) (i : Nat) : Nat → List Ext
  | 0 => [y]
  | k + 1 => if k = i then basR f y i k else trim (pmul (basR f y i k) [int (-(k : Int)) * f (nod i k), f (nod i k)])
def outR (f : Ext → Ext) (v : List Ext) (n : Nat) : Nat → List Ext
  | 0 => []
  | i + 1 => trim (padd (outR f v n i) (basR f (co v i) i n))
theorem basR_len1 (f : Ext → Ext) (y : Ext) (i : Nat) : ∀ k, (basR f y i k).length ≤ k + 1 ∧ (i < k → (basR f y i k).length ≤ k) := by
  intro k
  induction k with
  | zero => exact ⟨Nat.le_refl _, fun h => absurd h (by omega)⟩
  | succ k ih =>
    unfold basR
    have step : ∀ m, (basR f y i k).length ≤ m → (trim (pmul (basR f y i k) [int (-(k : Int)) * f (nod i k), f (nod i k)])).length ≤ m + 1 := by
      intro m hm
      refine length_le_of_co fun j hj => ?_
      rw [co_pmul]
      exact conv_zero_big _ _ _ (by simp only [List.length_cons, List.length_nil]; omega)
    by_cases hki : k = i
    · rw [if_pos hki]
      exact ⟨by omega, fun _ => ih.1⟩
    · rw [if_neg hki]
      exact ⟨step _ ih.1, fun hi => step _ (ih.2 (by omega))⟩
theorem ev_basR (f : Ext → Ext) (y : Ext) (i : Nat) (x : Ext) : ∀ k, ev (basR f y i k) x = y * pd k (fun j => if j = i then 1 else (x - nde j) * f (nod i j))
  | 0 => by show (0 : Ext) * x + y = y * 1; rw [zero_mul, zero_add, mul_one]
  | k + 1 => by
    unfold basR pd
    split
    · rw [mul_one, ev_basR f y i x k]
    · rw [ev_trim, ev_pmul, ev_basR f y i x k, int_neg]
      show _ * (((0 : Ext) * x + f (nod i k)) * x + -nde k * f (nod i k)) = _
      generalize pd k _ = p
      exact ring_of [y, p, x, f (nod i k), nde k] (v0 * v1 * ((0 * v2 + v3) * v2 + -v4 * v3)) (v0 * (v1 * ((v2 - v4) * v3))) rfl
theorem pd_one {n : Nat} {f : Nat → Ext} (h : ∀ i, i < n → f i = 1) : pd n f = 1 := by
  induction n with
  | zero => rfl
  | succ n ih => unfold pd; rw [ih fun i hi => h i (by omega), h n (by omega), mul_one]
theorem outR_len (f : Ext → Ext) (v : List Ext) (n : Nat) : ∀ i, i ≤ n → (outR f v n i).length ≤ n
  | 0, _ => Nat.zero_le _
  | i + 1, h => by
    unfold outR
    refine length_le_of_co fun j hj => ?_
    rw [co_padd, co_big _ _ (Nat.le_trans (outR_len f v n i (by omega)) hj), co_big _ _ (Nat.le_trans ((basR_len1 f (co v i) i n).2 (by omega)) hj), add_zero]
theorem ev_outR_node {f : Ext → Ext} (hf : ∀ x, x ≠ 0 → x * f x = 1) (v : List Ext) {n j : Nat} (hn : n ≤ 1000000) (hj : j < n) : ∀ i, i ≤ n → ev (outR f v n i) (nde j) = if j < i then co v j else 0
  | 0, _ => by rw [if_neg (by omega)]; rfl
  | i + 1, h => by
    unfold outR
    rw [ev_trim, ev_padd, ev_outR_node hf v hn hj i (by omega), ev_basR]
    by_cases hij : i = j
    · subst hij
      rw [if_neg (by omega), if_pos (by omega), zero_add, pd_one, mul_one]
      intro k hk
      by_cases hki : k = i
      · exact if_pos hki
      · rw [if_neg hki, ← nod_eq]
        exact hf _ (nod_ne (Ne.symm hki) (by omega) (by omega))
    · rw [pd_zero hj (by rw [if_neg (Ne.symm hij), sub_self, zero_mul]), mul_zero, add_zero]
      by_cases hlt : j < i
      · rw [if_pos hlt, if_pos (by omega)]
      · rw [if_neg hlt, if_neg (by omega)]
theorem outR_trim (f : Ext → Ext) (v : List Ext) (n : Nat) : ∀ i, trim (outR f v n i) = outR f v n i
  | 0 => rfl
  | _ + 1 => trim_trim _
theorem out_same {f : Ext → Ext} (hf : ∀ x, x ≠ 0 → x * f x = 1) (v : List Ext) {n : Nat} (hn : n ≤ 1000000) : outP f v n n = outR f v n n := by
  rw [← outP_trim, ← outR_trim]
  refine trim_ext (nodes_unique hn (outP_len f v n n (Nat.le_refl _)) (outR_len f v n n (Nat.le_refl _)) ?_)
  intro j hj
  rw [ev_out_node hf v hn hj, ev_outR_node hf v hn hj n (Nat.le_refl _), if_pos hj]
end Go.Proofs.Ytjchccpicddpoaa
