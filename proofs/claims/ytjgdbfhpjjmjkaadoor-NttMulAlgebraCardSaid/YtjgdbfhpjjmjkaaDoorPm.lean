/- The product of two polynomials as the double loop computes it. No program in sight. -/
import Derived.Test.YtjgdbfhpjjmjkaaDoorPol
namespace Att
open CRing
section
variable {K : Type} [Fld K]
def accF (l k : List K) (i j t : Nat) : K := sm i (fun a => if a ≤ t then co l a * co k (t - a) else 0) + (if i ≤ t ∧ t - i < j then co l i * co k (t - i) else 0)
def accL (N : Nat) (l k : List K) (i j : Nat) : List K := tab N (accF l k i j)
theorem accL_len (N : Nat) (l k : List K) (i j : Nat) : (accL N l k i j).length = N := tab_length _ _
theorem accL_zero (N : Nat) (l k : List K) : accL N l k 0 0 = List.replicate N 0 := by
  unfold accL tab
  apply List.ext_getElem?
  intro t
  by_cases h : t < N
  · rw [List.getElem?_map, List.getElem?_range h, List.getElem?_replicate, if_pos h]
    simp only [Option.map_some, accF, sm_zero, Nat.not_lt_zero, and_false, if_false, add_zero]
  · rw [List.getElem?_eq_none (by simp; omega), List.getElem?_eq_none (by simp; omega)]
theorem accF_next (l k : List K) (i m : Nat) (hm : k.length ≤ m) (t : Nat) : accF l k (i + 1) 0 t = accF l k i m t := by
  unfold accF
  rw [sm_succ, if_neg (show ¬ (i + 1 ≤ t ∧ t - (i + 1) < 0) from by omega), add_zero]
  congr 1
  by_cases h : i ≤ t
  · by_cases h2 : t - i < m
    · rw [if_pos h, if_pos ⟨h, h2⟩]
    · rw [if_pos h, if_neg (fun h3 => h2 h3.2), co_big k (t - i) (by omega), mul_zero]
  · rw [if_neg h, if_neg (fun h3 => h h3.1)]
theorem accL_next (N : Nat) (l k : List K) (i : Nat) : accL N l k (i + 1) 0 = accL N l k i k.length := by
  unfold accL tab
  exact List.map_congr_left (fun t _ => accF_next l k i _ (Nat.le_refl _) t)
theorem accL_get {N : Nat} (l k : List K) (i j : Nat) (h : i + j < N) : (accL N l k i j)[i + j]? = some (accF l k i j (i + j)) := by
  unfold accL tab
  rw [List.getElem?_map, List.getElem?_range h]; rfl
theorem accL_set {N : Nat} (l k : List K) (i j : Nat) (h : i + j < N) : (accL N l k i j).set (i + j) (accF l k i j (i + j) + co l i * co k j) = accL N l k i (j + 1) := by
  apply List.ext_getElem?
  intro t
  by_cases ht : t = i + j
  · subst ht
    rw [List.getElem?_set_self (by rw [accL_len]; exact h)]
    unfold accL tab
    rw [List.getElem?_map, List.getElem?_range h]
    simp only [Option.map_some, accF]
    rw [if_neg (show ¬ (i ≤ i + j ∧ i + j - i < j) from by omega), if_pos (show i ≤ i + j ∧ i + j - i < j + 1 from by omega), add_zero, show i + j - i = j from by omega]
  · rw [List.getElem?_set_ne (Ne.symm ht)]
    unfold accL tab
    by_cases h2 : t < N
    · rw [List.getElem?_map, List.getElem?_map, List.getElem?_range h2]
      simp only [Option.map_some, accF]
      congr 3
      exact propext ⟨fun h3 => ⟨h3.1, by omega⟩, fun h3 => ⟨h3.1, by omega⟩⟩
    · rw [List.getElem?_eq_none (by simp; omega), List.getElem?_eq_none (by simp; omega)]
theorem accF_end (l k : List K) (t : Nat) : accF l k l.length 0 t = conv (co l) (co k) t := by
  unfold accF conv
  rw [if_neg (show ¬ (l.length ≤ t ∧ t - l.length < 0) from by omega), add_zero]
  by_cases h : l.length ≤ t + 1
  · rw [show t + 1 = l.length + (t + 1 - l.length) from by omega, sm_split]
    rw [sm_eq_zero (f := fun i => co l (l.length + i) * co k (t - (l.length + i))) (fun i _ => by rw [co_big l _ (by omega), zero_mul]), add_zero]
    exact sm_congr fun a ha => if_pos (by omega)
  · rw [show l.length = (t + 1) + (l.length - (t + 1)) from by omega, sm_split]
    rw [sm_eq_zero (f := fun i => if t + 1 + i ≤ t then co l (t + 1 + i) * co k (t - (t + 1 + i)) else 0) (fun i _ => if_neg (by omega)), add_zero]
    exact sm_congr fun a ha => if_pos (by omega)
theorem accL_end {N : Nat} (l k : List K) (h : l.length + k.length ≤ N + 1) : trim (accL N l k l.length 0) = trim (pmul l k) :=
  trim_ext (fun t => by
    unfold accL
    rw [co_tab, co_pmul]
    split
    · exact accF_end l k t
    · exact (conv_zero_big l k t (by omega)).symm)
end
end Att
