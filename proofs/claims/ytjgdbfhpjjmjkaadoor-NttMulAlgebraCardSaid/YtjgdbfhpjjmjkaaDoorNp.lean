/- The plain laws of the transform: what Forward, Inverse, Extend and Mul answer. No program in sight. -/
import Derived.Test.YtjgdbfhpjjmjkaaDoorNw10
namespace Go.Proofs.YtjgdbfhpjjmjkaaDoor
open Go.RowKit Att Att.CRing
theorem list_map_tab (n : Nat) (f g : Nat → F) (z : F) (h : ∀ i, i < n → f i * z = g i) : (tab n f).map (· * z) = tab n g := by
  unfold tab
  rw [List.map_map]
  exact List.map_congr_left fun i hi => h i (List.mem_range.1 hi)
theorem nat_pow_ne (k : Nat) (hk : k ≤ 32) : (nat (2 ^ k) : F) ≠ 0 := by
  intro h
  rw [Zm.nat_eq, Zm.of_eq_zero, P_eq] at h
  have h1 : 2 ^ k ≤ 2 ^ 32 := Nat.pow_le_pow_right (by omega) hk
  have h2 := Nat.le_of_dvd (Nat.two_pow_pos k) h
  omega
theorem co_valP (l : List F) (u : F) (n i : Nat) (hi : i < n) : co (valP l u n) i = ev l (pw u i) := by
  unfold valP; rw [co_tab, if_pos hi]
theorem valP_tab {l : List F} {n : Nat} (h : l.length ≤ n) (u : F) : valP l u n = tab n (dft n u (co l)) := by
  unfold valP
  congr 1
  funext i
  exact (dft_ev l n h u i).symm
theorem tab_congr {n : Nat} {f g : Nat → F} (h : ∀ i, i < n → f i = g i) : tab n f = tab n g := by
  unfold tab; exact List.map_congr_left fun i hi => h i (List.mem_range.1 hi)
/-- the inverse of the values of a polynomial: its coefficients, and zeros -/
theorem inv_valP {l : List F} {k : Nat} (hl : l.length ≤ 2 ^ k) (hk : k ≤ 16) : invOf (valP l (root k) (2 ^ k)) = (padF l (2 ^ k), 0) := by
  have hlen : (valP l (root k) (2 ^ k)).length = 2 ^ k := valP_length _ _ _
  rw [invOf_pow hlen hk, valP_tab (Nat.le_of_eq hlen)]
  congr 1
  unfold padF
  refine list_map_tab _ _ _ _ fun i hi => ?_
  have e : dft (2 ^ k) (Fld.inv (root k)) (co (valP l (root k) (2 ^ k))) i = nat (2 ^ k) * co l i := by
    rw [dft_congr (b := dft (2 ^ k) (root k) (co l)) (fun j hj => by rw [co_valP _ _ _ _ hj, dft_ev l _ hl])]
    exact dft_dft (root_prim k (by omega)) (co l) i hi
  rw [e, mul_comm (nat (2 ^ k)), mul_assoc]
  show co l i * (nat (2 ^ k) * Fld.inv (int ((2 ^ k : Nat) : Int))) = co l i
  rw [show (int ((2 ^ k : Nat) : Int) : F) = nat (2 ^ k) from rfl, Fld.mul_inv _ (nat_pow_ne k (by omega)), mul_one]
theorem padF_self (l : List F) : padF l l.length = l := by unfold padF; exact tab_eq l
theorem inv_fwd {l : List F} {k : Nat} (hl : l.length = 2 ^ k) (hk : k ≤ 16) : invOf (fwdOf l).1 = (l, 0) := by
  rw [fwdOf_pow hl hk]
  show invOf (valP l (root k) (2 ^ k)) = _
  rw [inv_valP (Nat.le_of_eq hl) hk, ← hl, padF_self]
theorem co_map_mul (l : List F) (z : F) (i : Nat) : co (l.map (· * z)) i = co l i * z := by
  unfold co
  rw [List.getD_eq_getElem?_getD, List.getD_eq_getElem?_getD, List.getElem?_map]
  cases l[i]? with
  | none => exact (CRing.zero_mul z).symm
  | some x => rfl
theorem invOf_length {l : List F} {k : Nat} (hl : l.length = 2 ^ k) (hk : k ≤ 16) : (invOf l).1.length = 2 ^ k := by
  rw [invOf_pow hl hk]
  show ((valP l _ _).map _).length = _
  rw [List.length_map, valP_length]
theorem fwd_inv {l : List F} {k : Nat} (hl : l.length = 2 ^ k) (hk : k ≤ 16) : fwdOf (invOf l).1 = (l, 0) := by
  have hlen := invOf_length hl hk
  rw [fwdOf_pow hlen hk]
  congr 1
  rw [valP_tab (Nat.le_of_eq hlen)]
  refine Eq.trans ?_ (tab_eq l)
  rw [hl]
  refine tab_congr fun i hi => ?_
  have e : ∀ j, j < 2 ^ k → co (invOf l).1 j = dft (2 ^ k) (Fld.inv (root k)) (co l) j * Fld.inv (int ((2 ^ k : Nat) : Int)) := by
    intro j hj
    rw [invOf_pow hl hk]
    show co ((valP l (Fld.inv (root k)) (2 ^ k)).map (· * Fld.inv (int ((2 ^ k : Nat) : Int)))) j = _
    rw [co_map_mul, co_valP _ _ _ _ hj, dft_ev l _ (Nat.le_of_eq hl)]
  rw [dft_congr e, dft_mul, dft_dft' (root_prim k (by omega)) (co l) i hi, mul_comm (nat (2 ^ k)), mul_assoc]
  rw [show (int ((2 ^ k : Nat) : Int) : F) = nat (2 ^ k) from rfl, Fld.mul_inv _ (nat_pow_ne k (by omega)), mul_one]
/- ───── products ───── -/
/-- the product's coefficients: as many as the factors' less one -/
def mulL (l k : List F) : List F := tab (l.length + k.length - 1) (conv (co l) (co k))
theorem mulL_length (l k : List F) : (mulL l k).length = l.length + k.length - 1 := tab_length _ _
theorem co_mulL (l k : List F) (n : Nat) : co (mulL l k) n = conv (co l) (co k) n := by
  unfold mulL
  rw [co_tab]
  by_cases h : n < l.length + k.length - 1
  · rw [if_pos h]
  · rw [if_neg h, conv_zero_big l k n (by omega)]
theorem ev_mulL (l k : List F) (x : F) : ev (mulL l k) x = ev l x * ev k x := by
  rw [← ev_pmul]
  exact ev_of_co (fun n => by rw [co_mulL, co_pmul]) x
noncomputable def mulOf (l k : List F) : List F × Int :=
  if l.length = 0 ∨ k.length = 0 then ([], 0) else if l.length + k.length - 1 ≤ 65536 then (mulL l k, 0) else ([], 2)
theorem mulOf_nil {l k : List F} (h : l.length = 0 ∨ k.length = 0) : mulOf l k = ([], 0) := if_pos h
theorem mulOf_ok {l k : List F} (h1 : l.length ≠ 0) (h2 : k.length ≠ 0) (h : l.length + k.length - 1 ≤ 65536) : mulOf l k = (mulL l k, 0) := by
  unfold mulOf; rw [if_neg (by omega), if_pos h]
theorem mulOf_big {l k : List F} (h1 : l.length ≠ 0) (h2 : k.length ≠ 0) (h : 65536 < l.length + k.length - 1) : mulOf l k = ([], 2) := by
  unfold mulOf; rw [if_neg (by omega), if_neg (by omega)]
theorem padF_take {l : List F} {n N : Nat} (h : l.length = n) (hN : n ≤ N) : (padF l N).take n = l := by
  apply List.ext_getElem?
  intro i
  by_cases hi : i < n
  · rw [List.getElem?_take_of_lt hi]
    unfold padF tab
    rw [List.getElem?_map, List.getElem?_range (by omega)]
    show some (co l i) = _
    rw [co_get l i (by omega), List.getElem?_eq_getElem]
  · rw [List.getElem?_eq_none (by rw [List.length_take]; omega), List.getElem?_eq_none (by omega)]
/-- two rows of values, the first i products written -/
def mxF (X Y : List F) (i : Nat) : List F := tab X.length fun x => if x < i then co X x * co Y x else co X x
theorem mxF_len (X Y : List F) (i : Nat) : (mxF X Y i).length = X.length := tab_length _ _
theorem mxF_zero (X Y : List F) : mxF X Y 0 = X := by
  refine Eq.trans ?_ (tab_eq X)
  unfold mxF tab
  exact List.map_congr_left fun x _ => if_neg (by omega)
theorem mxF_get (X Y : List F) {i : Nat} (hi : i < X.length) : (mxF X Y i)[i]? = some (co X i) := by
  unfold mxF tab
  rw [List.getElem?_map, List.getElem?_range hi]
  simp
theorem mxF_set (X Y : List F) {i : Nat} (hi : i < X.length) : (mxF X Y i).set i (co X i * co Y i) = mxF X Y (i + 1) := by
  apply List.ext_getElem?
  intro x
  by_cases hxi : x = i
  · subst hxi
    rw [List.getElem?_set_self (by rw [mxF_len]; exact hi)]
    unfold mxF tab
    rw [List.getElem?_map, List.getElem?_range hi]
    simp
  · rw [List.getElem?_set_ne (Ne.symm hxi)]
    unfold mxF tab
    by_cases hx : x < X.length
    · rw [List.getElem?_map, List.getElem?_map, List.getElem?_range hx]
      simp only [Option.map_some]
      congr 1
      by_cases h : x < i
      · rw [if_pos h, if_pos (by omega)]
      · rw [if_neg h, if_neg (by omega)]
    · rw [List.getElem?_eq_none (by simp; omega), List.getElem?_eq_none (by simp; omega)]
theorem mxF_end (l k : List F) (u : F) (n : Nat) : mxF (valP l u n) (valP k u n) n = valP (mulL l k) u n := by
  unfold mxF
  rw [valP_length]
  unfold valP
  refine tab_congr fun i hi => ?_
  rw [if_pos hi, co_tab, co_tab, if_pos hi, if_pos hi, ev_mulL]
end Go.Proofs.YtjgdbfhpjjmjkaaDoor
