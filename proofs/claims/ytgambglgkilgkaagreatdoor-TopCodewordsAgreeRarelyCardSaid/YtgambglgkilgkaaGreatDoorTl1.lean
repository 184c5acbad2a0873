/- The plain law: codewords of rows of extension field elements agree rarely. -/
import Derived.Test.YtgambglgkilgkaaGreatDoorRw3
namespace Go.Proofs.YtgambglgkilgkaaGreatDoor
open Go.RowKit Att Att.CRing
/-- the codeword of a row -/
noncomputable def Ue (X : List Ext) (u : F) (N : Nat) : List Ext := tab N fun i => ev X (Ext.base (pw u i))
theorem Ue_length (X : List Ext) (u : F) (N : Nat) : (Ue X u N).length = N := tab_length _ _
theorem zip_code (X : List Ext) (u : F) (N : Nat) : zipE (valP (partA X) u N) (valP (partB X) u N) = Ue X u N := by
  unfold zipE Ue
  rw [valP_length]
  unfold tab
  apply List.map_congr_left
  intro i hi
  have hi := List.mem_range.1 hi
  unfold valP
  rw [co_tab, co_tab, if_pos hi, if_pos hi, ev_partA, ev_partB]
theorem encE_four (X : List Ext) (s : Nat) (hs : s ≤ 3) (hX : X.length = 2 ^ s) : encE X 4 = (Ue X (root (s + 2)) (2 ^ (s + 2)), 0) := by
  have hv : vrow X.length 4 := ⟨s, 2, by omega, by omega, hX, rfl, by omega⟩
  unfold encE
  rw [if_pos hv, show (4 : Int) = (2 : Int) ^ 2 from rfl, encOf_pow (k := s) (m := 2) (by rw [partA_length, hX]) (by omega) (by omega) (by omega), encOf_pow (k := s) (m := 2) (by rw [partB_length, hX]) (by omega) (by omega) (by omega)]
  rw [zip_code]
theorem agr_all {K : Type} [Fld K] {f g : Nat → K} : ∀ {n : Nat}, (∀ i, i < n → f i = g i) → (agr f g n).length = n
  | 0, _ => rfl
  | n + 1, h => by
    unfold agr
    rw [if_pos (h n (Nat.lt_succ_self _)), List.length_cons, agr_all fun i hi => h i (Nat.lt_succ_of_lt hi)]
/-- THE LAW -/
theorem agree_rarely (X Y : List Ext) (u : F) (N : Nat) (hu : Dif (pw u) N) :
    ((trim (psub X Y)).length = 0 ∧ (agr (co (Ue X u N)) (co (Ue Y u N)) N).length = N) ∨ (0 < (trim (psub X Y)).length ∧ (agr (co (Ue X u N)) (co (Ue Y u N)) N).length + 1 ≤ (trim (psub X Y)).length) := by
  have hX : ∀ i, i < N → co (Ue X u N) i = ev X (Ext.base (pw u i)) := fun i hi => by unfold Ue; rw [co_tab, if_pos hi]
  have hY : ∀ i, i < N → co (Ue Y u N) i = ev Y (Ext.base (pw u i)) := fun i hi => by unfold Ue; rw [co_tab, if_pos hi]
  have hD : Dif (fun i => Ext.base (pw u i)) N := fun i j hi hj h => hu i j hi hj (congrArg Ext.a h)
  have hz : ∀ x, ev (trim (psub X Y)) x = ev X x - ev Y x := fun x => by rw [ev_trim, ev_psub]
  rcases Nat.eq_zero_or_pos (trim (psub X Y)).length with h0 | h0
  · refine .inl ⟨h0, agr_all fun i hi => ?_⟩
    rw [hX i hi, hY i hi]
    have h := hz (Ext.base (pw u i))
    rw [List.eq_nil_of_length_eq_zero h0] at h
    exact sub_eq_zero.1 h.symm
  · refine .inr ⟨h0, ?_⟩
    refine Nat.lt_of_not_le fun hle => ?_
    have := many_zero (D := psub X Y) hD (agr_nodup _ _ N) (fun i hi => ((agr_mem _ _ N i).1 hi).1) (fun i hi => by
      obtain ⟨h1, h2⟩ := (agr_mem _ _ N i).1 hi
      rw [hX i h1, hY i h1] at h2
      show ev (psub X Y) (Ext.base (pw u i)) = 0
      rw [ev_psub, h2, sub_self]) hle
    rw [this] at h0
    exact absurd h0 (by simp)
end Go.Proofs.YtgambglgkilgkaaGreatDoor
