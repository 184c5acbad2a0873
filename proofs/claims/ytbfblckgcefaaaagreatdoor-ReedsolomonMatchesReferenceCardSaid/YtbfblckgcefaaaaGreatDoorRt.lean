/- Plain facts for the laws of package reedsolomon. -/
import Derived.Test.YtbfblckgcefaaaaGreatDoorRw11
namespace Go.Proofs.YtbfblckgcefaaaaGreatDoor
open Go.RowKit Att Att.CRing
theorem get_valP {l : List F} {u : F} {n i : Nat} (hi : i < n) : (valP l u n)[i]? = some (ev l (pw u i)) := by
  unfold valP tab
  rw [List.getElem?_map, List.getElem?_range hi]
  rfl
theorem dis_word {p : List F} {y : Nat → F} {u : F} {N : Nat} : dis (cw p u) y N = dis y (co (valP p u N)) N := by
  rw [dis_comm]
  exact dis_congr (fun _ _ => rfl) (fun i hi => (co_valP _ _ _ _ hi).symm)
theorem dec_ok {N K : Nat} {u : F} {p o : List F} {r : List F × Int × Int} (hx : Dif (pw u) N) (hk : K ≤ N) (hD : DecIs N K u (co o) r) (lp : p.length = K) (h : 2 * dis (co o) (co (valP p u N)) N < N - K + 1) :
    r = (p, ((dis (co o) (co (valP p u N)) N : Nat) : Int), 0) := by
  rw [← dis_word] at h ⊢
  exact hD.near hx hk lp h
/-- few errors: the word is a codeword's only where there are none -/
theorem code_few {N K : Nat} {u : F} {p o : List F} (hx : Dif (pw u) N) (hk : K ≤ N) (lp : p.length = K) (h : dis (co o) (co (valP p u N)) N < N - K + 1) : isCode N K u (co o) ↔ dis (co o) (co (valP p u N)) N = 0 := by
  rw [← dis_word] at h ⊢
  constructor
  · rintro ⟨row, hr, he⟩
    have e : dis (cw p u) (co o) N = dis (cw p u) (cw row u) N := dis_congr (fun _ _ => rfl) (fun i hi => (he i hi).symm)
    rw [e] at h ⊢
    refine dis_zero.2 fun i _ => ?_
    refine ev_of_co (fun j => ?_) _
    refine Decidable.byContradiction fun hne => ?_
    have := min_dist (p := p) (q := row) (x := pw u) (n := N) (k := K) hx (Nat.le_of_eq lp) (Nat.le_of_eq hr) (fun h => hne (h j))
    have h4 : dis (fun i => ev p (pw u i)) (fun i => ev row (pw u i)) N = dis (cw p u) (cw row u) N := rfl
    rw [h4] at this
    omega
  · intro e
    exact ⟨p, lp, fun i hi => (dis_zero.1 e) i hi⟩
theorem decIs_zero {N K : Nat} {u : F} {y : Nat → F} {r : List F × Int × Int} (hx : Dif (pw u) N) (hk : K ≤ N) (hD : DecIs N K u y r) : (r.2.2 = 0 ∧ r.2.1 = 0) ↔ isCode N K u y := by
  rcases hD with ⟨row, hn, rfl⟩ | ⟨hn, rfl⟩
  · constructor
    · rintro ⟨_, h⟩
      have h0 : dis (cw row u) y N = 0 := by
        have : ((dis (cw row u) y N : Nat) : Int) = 0 := h
        omega
      exact ⟨row, hn.1, fun i hi => dis_zero.1 h0 i hi⟩
    · rintro ⟨row', h1, h2⟩
      have h0 : dis (cw row' u) y N = 0 := dis_zero.2 h2
      have hn' : Near N K u y row' := ⟨h1, by rw [h0]; omega⟩
      have e := hn.unique hx hk hn'
      subst e
      refine ⟨rfl, ?_⟩
      show ((dis (cw row u) y N : Nat) : Int) = 0
      rw [h0]; rfl
  · constructor
    · rintro ⟨h, _⟩
      have : (4 : Int) = 0 := h
      omega
    · rintro ⟨row', h1, h2⟩
      have h0 : dis (cw row' u) y N = 0 := dis_zero.2 h2
      exact absurd ⟨h1, by rw [h0]; omega⟩ (hn row')
theorem code_own {N K : Nat} {u : F} {p : List F} (lp : p.length = K) : isCode N K u (co (valP p u N)) := ⟨p, lp, fun _ hi => (co_valP _ _ _ _ hi).symm⟩
theorem ev_lin {a b c : List F} {n : Nat} (ha : a.length = n) (hb : b.length = n) (s : F) (hc : c = tab n fun i => s * co a i + co b i) (x : F) : ev c x = s * ev a x + ev b x := by
  rw [ev_sum c x n (by rw [hc, tab_length]; exact Nat.le_refl _), ev_sum a x n (by omega), ev_sum b x n (by omega), ← sm_mul, ← sm_add]
  refine sm_congr fun i hi => ?_
  rw [hc, co_tab, if_pos hi]
  exact ring_of [s, co a i, co b i, pw x i] ((v0 * v1 + v2) * v3) (v0 * (v1 * v3) + v2 * v3) rfl
end Go.Proofs.YtbfblckgcefaaaaGreatDoor
