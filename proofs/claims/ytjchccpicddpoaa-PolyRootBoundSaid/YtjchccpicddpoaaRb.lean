/- Roots and degrees. No program in sight. -/
import Derived.Test.YtjchccpicddpoaaPl
namespace Go.Proofs.Ytjchccpicddpoaa
open Att Att.CRing
/-- the product of X - l_i, i below k -/
def rp (l : List Ext) : Nat → List Ext
  | 0 => [int 1]
  | k + 1 => trim (pmul (rp l k) [-(co l k), int 1])
theorem rp_co (l : List Ext) : ∀ k, co (rp l k) k = 1 ∧ ∀ i, k < i → co (rp l k) i = 0
  | 0 => ⟨int_one, fun i hi => co_big _ _ (by show 1 ≤ i; omega)⟩
  | k + 1 => by
    obtain ⟨h1, h2⟩ := rp_co l k
    unfold rp
    refine ⟨?_, fun i hi => ?_⟩
    · rw [co_trim, lin_of, co_lin, if_neg (Nat.succ_ne_zero k), Nat.add_sub_cancel, h1, h2 _ (Nat.lt_succ_self k), mul_zero, sub_zero]
    · rw [co_trim, lin_of, co_lin, if_neg (by omega), h2 _ (by omega), h2 _ (by omega), mul_zero, sub_zero]
theorem rp_len (l : List Ext) : ∀ k, (rp l k).length ≤ k + 1
  | 0 => Nat.le_refl _
  | k + 1 => by
    have h := (rp_co l (k + 1)).2
    unfold rp at h ⊢
    exact length_le_of_co fun i hi => by rw [← co_trim]; exact h i (by omega)
theorem rp_deg (l : List Ext) (k : Nat) : ((trim (rp l k)).length : Int) - 1 = (k : Int) := by
  obtain ⟨h1, h2⟩ := rp_co l k
  have h3 : (trim (rp l k)).length ≤ k + 1 := length_le_of_co fun i hi => h2 i (by omega)
  have h4 : ¬ (trim (rp l k)).length ≤ k := fun h => by
    have := co_of_length h k (Nat.le_refl _)
    rw [h1] at this
    exact absurd (congrArg (fun x : Ext => x.a.i) this) (by show ¬ ((1 : Int) = 0); decide)
  omega
theorem ev_rp (l : List Ext) (x : Ext) : ∀ k, ev (rp l k) x = pd k (fun i => x - co l i)
  | 0 => by show (0 : Ext) * x + int 1 = 1; rw [zero_mul, zero_add, int_one]
  | k + 1 => by unfold rp; rw [ev_trim, lin_of, ev_pmul, ev_lin, ev_rp l x k]; rfl
theorem pd_ne {n : Nat} {f : Nat → Ext} (h : ∀ i, i < n → f i ≠ 0) : pd n f ≠ 0 := by
  induction n with
  | zero => exact fun e => absurd (congrArg (fun x : Ext => x.a.i) e) (by show ¬ ((1 : Int) = 0); decide)
  | succ n ih => exact mul_ne_zero (ih fun i hi => h i (by omega)) (h n (by omega))
theorem nodup_co {l : List Ext} (hn : l.Nodup) {i j : Nat} (hi : i < l.length) (hj : j < l.length) (h : co l i = co l j) : i = j := by
  rw [co_get _ _ hi, co_get _ _ hj] at h
  have hp := List.pairwise_iff_getElem.1 hn
  rcases Nat.lt_trichotomy i j with h' | h' | h'
  · exact absurd h (hp i j hi hj h')
  · exact h'
  · exact absurd h.symm (hp j i hj hi h')
theorem rp_zero {l : List Ext} (hn : l.Nodup) {k i : Nat} (hi : i < l.length) : ev (rp l k) (co l i) = 0 ↔ i < k := by
  rw [ev_rp]
  constructor
  · intro h
    rcases Nat.lt_or_ge i k with h' | h'
    · exact h'
    · exact absurd h (pd_ne fun j hj e => by have := nodup_co hn hi (show j < l.length by omega) (eq_of_sub e); omega)
  · intro h
    exact pd_zero h (sub_self _)
theorem rts_rp {l : List Ext} (hn : l.Nodup) (k : Nat) : ∀ n, n ≤ l.length → (rts (rp l k) l n).length = min n k
  | 0, _ => by simp [rts]
  | n + 1, h => by
    have ih := rts_rp hn k n (by omega)
    by_cases hz : ev (rp l k) (co l n) = 0
    · have h2 := (rp_zero hn (k := k) (show n < l.length by omega)).1 hz
      rw [rts_yes hz, List.length_append, ih]
      show min n k + 1 = min (n + 1) k
      omega
    · have h2 : ¬ n < k := fun h' => hz ((rp_zero hn (k := k) (show n < l.length by omega)).2 h')
      rw [rts_no hz, ih]
      omega
theorem rts_bound {p l : List Ext} (hn : l.Nodup) (hp : trim p ≠ []) : (rts p l l.length).length < (trim p).length := by
  have e : l.filter (fun x => decide (ev p x = 0)) = ((List.range l.length).filter (fun i => decide (ev p (co l i) = 0))).map (co l) := by
    conv => lhs; rw [← tab_eq l]
    unfold tab
    rw [List.filter_map]; rfl
  have e2 : (rts p l l.length).length = (l.filter (fun x => decide (ev p x = 0))).length := by rw [e]; simp [rts]
  rw [e2]
  refine root_bound hp (hn.sublist List.filter_sublist) ?_
  intro x hx
  simpa using (List.mem_filter.1 hx).2
theorem psub_len (p q : List Ext) : (trim (psub p q)).length ≤ max (trim p).length (trim q).length :=
  length_le_of_co fun i hi => by
    rw [co_psub, co_of_length (n := (trim p).length) (Nat.le_refl _) i (by omega), co_of_length (n := (trim q).length) (Nat.le_refl _) i (by omega), sub_zero]
end Go.Proofs.Ytjchccpicddpoaa
