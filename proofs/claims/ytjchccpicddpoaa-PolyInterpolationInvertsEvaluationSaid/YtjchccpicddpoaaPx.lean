/- The fixed examples of law03, by reckoning. -/
import Derived.Test.YtjchccpicddpoaaPw18
import Derived.Test.YtjchccpicddpoaaPw19
namespace Go.Proofs.Ytjchccpicddpoaa
open Go.RowKit Att Att.CRing
/-- a row of integers in the field -/
def li (l : List Int) : List Ext := l.map int
theorem sx1 : trim (pmul (li [1, 1]) (li [1, -1])) = li [1, 0, -1] := by kernel_rfl
theorem sx3 : trim (dq (li [-1, 0, 1]) (int 2)) = li [2, 1] := by kernel_rfl
theorem sx4 : ev (li [-1, 0, 1]) (int 2) = int 3 := by kernel_rfl
theorem sx5 : rts (li [-1, 0, 1]) (li [0, 1, -1, 2, 1]) 5 = [1, 2, 4] := by kernel_rfl
theorem sx6 : rts [] (li [5]) 1 = [0] := by kernel_rfl
theorem sx7 : (trim (li [4, 0, 7, 0])).length = 3 := by kernel_rfl
theorem sx8 : trim (li [4, 0, 0]) = li [4] := by kernel_rfl
theorem sx9 : ev (li [1, 2, 3]) (int 10) = int 321 := by kernel_rfl
theorem sx11 : trim (psub (li [1, 2]) (li [1, 2])) = [] := by kernel_rfl
theorem sx12 : trim (padd (li [1, 2]) (li [1])) = li [2, 2] := by kernel_rfl
theorem sx13 : trim (psca (li [1, 2]) (int (-2))) = li [-2, -4] := by kernel_rfl
theorem sx_inter {I : List Ext → List Ext} (hl : ∀ l : List Ext, (I l).length ≤ l.length) (ht : ∀ l : List Ext, trim (I l) = I l) (he : ∀ (l : List Ext) (j : Nat), l.length ≤ 100000 → j < l.length → ev (I l) (nde j) = co l j)
    {l m : List Ext} (h3 : l.length ≤ 100000) (hm : m.length ≤ l.length) (hv : ∀ j, j < l.length → ev m (nde j) = co l j) : I l = trim m := by
  rw [← ht]
  exact trim_ext (nodes_unique (n := l.length) (by omega) (hl l) hm fun j hj => by rw [he l j h3 hj, hv j hj])
theorem sx2v : ∀ j, j < 3 → ev (li [1, 0, 1]) (nde j) = co (li [1, 2, 5]) j
  | 0, _ => by kernel_rfl
  | 1, _ => by kernel_rfl
  | 2, _ => by kernel_rfl
  | j + 3, h => absurd h (by omega)
theorem sx10v : ∀ j, j < 3 → ev (li [0, 0, 1]) (nde j) = co (li [0, 1, 4]) j
  | 0, _ => by kernel_rfl
  | 1, _ => by kernel_rfl
  | 2, _ => by kernel_rfl
  | j + 3, h => absurd h (by omega)
theorem sx2 {I : List Ext → List Ext} (hl : ∀ l : List Ext, (I l).length ≤ l.length) (ht : ∀ l : List Ext, trim (I l) = I l) (he : ∀ (l : List Ext) (j : Nat), l.length ≤ 100000 → j < l.length → ev (I l) (nde j) = co l j) : I (li [1, 2, 5]) = li [1, 0, 1] := by
  refine (sx_inter hl ht he (l := li [1, 2, 5]) (m := li [1, 0, 1]) (by simp [li]) (by simp [li]) sx2v).trans (by kernel_rfl)
theorem sx10 {I : List Ext → List Ext} (hl : ∀ l : List Ext, (I l).length ≤ l.length) (ht : ∀ l : List Ext, trim (I l) = I l) (he : ∀ (l : List Ext) (j : Nat), l.length ≤ 100000 → j < l.length → ev (I l) (nde j) = co l j) : ev (I (li [0, 1, 4])) (int (-3)) = int 9 := by
  rw [sx_inter hl ht he (l := li [0, 1, 4]) (m := li [0, 0, 1]) (by simp [li]) (by simp [li]) sx10v]
  kernel_rfl
end Go.Proofs.Ytjchccpicddpoaa
