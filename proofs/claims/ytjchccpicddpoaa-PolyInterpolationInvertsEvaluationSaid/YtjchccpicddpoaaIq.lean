/- Interpolation: linear in the values, unchanged by further values, inverse to evaluation. No program in sight. -/
import Derived.Test.YtjchccpicddpoaaPl
namespace Go.Proofs.Ytjchccpicddpoaa
open Att Att.CRing
/-- the values of q at the nodes below n -/
def vals (q : List Ext) (n : Nat) : List Ext := tab n fun i => ev q (nde i)
section
variable {I : List Ext → List Ext} (hl : ∀ l : List Ext, (I l).length ≤ l.length) (ht : ∀ l : List Ext, trim (I l) = I l) (he : ∀ (l : List Ext) (j : Nat), l.length ≤ 100000 → j < l.length → ev (I l) (nde j) = co l j)
include hl ht he
theorem iq_inv {q : List Ext} {n : Nat} (h : q.length ≤ n) (hn : n ≤ 100000) : I (vals q n) = trim q := by
  have e : (vals q n).length = n := tab_length _ _
  refine sx_inter hl ht he (by omega) (by omega) ?_
  intro j hj
  unfold vals
  rw [co_tab, if_pos (by omega)]
theorem iq_sum {a b : List Ext} (ha : a.length = 6) (hb : b.length = 6) (y : Ext) : ev (I (tab 6 fun i => co a i + co b i)) y = ev (I a) y + ev (I b) y := by
  have e : (tab 6 fun i => co a i + co b i).length = 6 := tab_length _ _
  have h1 := hl a
  have h2 := hl b
  rw [sx_inter hl ht he (l := tab 6 fun i => co a i + co b i) (m := padd (I a) (I b)) (by omega) (by unfold padd; rw [tab_length]; omega) ?_, ev_trim, ev_padd]
  intro j hj
  rw [ev_padd, he a j (by omega) (by omega), he b j (by omega) (by omega), co_tab, if_pos (by omega)]
theorem iq_long {a : List Ext} (ha : a.length = 6) : I (a ++ tab 4 fun i => ev (I a) (nde (6 + i))) = I a := by
  have e : (a ++ tab 4 fun i => ev (I a) (nde (6 + i))).length = 10 := by rw [List.length_append, ha, tab_length]
  have h1 := hl a
  refine (sx_inter hl ht he (by omega) (m := I a) (by omega) ?_).trans (ht a)
  intro j hj
  rw [co_append]
  split
  · rename_i h; exact he a j (by omega) h
  · rename_i h
    rw [co_tab, if_pos (by omega), ha, show 6 + (j - 6) = j from by omega]
end
end Go.Proofs.Ytjchccpicddpoaa
