/- Nodes and the products of their differences. No program in sight. -/
import Derived.Test.YtjchccpicddpoaaPol
import Derived.Test.YtjchccpicddpoaaExt
namespace Go.Proofs.Ytjchccpicddpoaa
open Att Att.CRing
/-- node i minus node k -/
def nod (i k : Nat) : Ext := int ((i : Int) - (k : Int))
/-- the product of the differences of node i and the nodes below k, but for i -/
def wpr (i : Nat) : Nat → Ext
  | 0 => 1
  | k + 1 => if k = i then wpr i k else wpr i k * nod i k
theorem nod_ne {i k : Nat} (h : i ≠ k) (hi : i ≤ 1000000) (hk : k ≤ 1000000) : nod i k ≠ 0 := by
  intro e
  have h1 : (nod i k).a.i = 0 := by rw [e]; rfl
  unfold nod at h1
  rw [← Ext.base_int] at h1
  have h2 : ((int ((i : Int) - (k : Int)) : F)).i = 0 := h1
  rw [i_int] at h2
  omega
theorem wpr_ne {i : Nat} (hi : i ≤ 1000000) : ∀ {k : Nat}, k ≤ 1000000 → wpr i k ≠ 0
  | 0, _ => fun h => absurd (congrArg (fun x : Ext => x.a.i) h) (by show ¬ ((1 : Int) = 0); decide)
  | k + 1, hk => by
    unfold wpr
    split
    · exact wpr_ne hi (by omega)
    · rename_i h
      exact mul_ne_zero (wpr_ne hi (by omega)) (nod_ne (Ne.symm h) hi (by omega))
end Go.Proofs.Ytjchccpicddpoaa
