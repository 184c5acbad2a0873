/- What the laws of ntt share: Made of a power of two in the form of a flow; a row of one element; plain facts. -/
import Derived.Test.YtjgdbfhpjjmjkaaDoorNw13
namespace Go.Proofs.YtjgdbfhpjjmjkaaDoor
open Go.RowKit Att Att.CRing
theorem k_made4 {l : List Int} {k : Int} {most s : Nat} (_hl : l.length ≤ 9223372036854775807) (h0 : 0 ≤ k) (h1 : k ≤ 255) (hm : most ≤ 10) (hs : (s : Int) = k % ((most : Int) + 1)) : ∀ u v t w, isW l u w → isV (.int .u8 k) v w → isV (.int .i64 most) t w →
    Calls Tryd.prog 23 #[u, v, t] w (Ans (fv (padF (redL l) (2 ^ s))) w) := by
  rintro u v t w ⟨A, n, c, rfl, h⟩ rfl rfl
  refine (x_made4 A n c l k most w h h0 h1 hm).mono ?_
  rintro e w' ⟨s', hs1, hs2, rfl, hB, g⟩
  obtain rfl : s' = s := by omega
  have hp : 2 ^ s' ≤ 1024 := Nat.le_trans (Nat.pow_le_pow_right (n := 2) (by omega) (show s' ≤ 10 by omega)) (by decide)
  have hs := hB.sf (by rw [padF_length]; omega)
  rw [padF_length] at hs
  exact ⟨_, rfl, g.below, _, _, _, rfl, hs⟩
theorem k_reduce {z : Int} (h : In64 z) {x : F} (e : int z = x) : ∀ u w, isV (.int .u64 z) u w → Calls Tryd.prog 24 #[u] w (Ans (fun v _ _ => v = .int .u64 (Zm.i (x))) w) := by
  rintro u w rfl
  refine (@r_reduce z h w).mono ?_
  rintro e w' ⟨rfl, rfl⟩
  rw [← e]
  exact ⟨_, rfl, Up.refl _, rfl⟩
theorem k_made1 {l : List Int} (hl : l.length ≤ 1000000) : ∀ u w, isW l u w → Calls Tryd.prog 13 #[u] w (Ans (fv (redL l)) w) := by
  rintro u w ⟨A, n, c, rfl, h⟩
  refine (r_made1 A n c l w h (by rw [← h.len]; exact hl)).mono ?_
  rintro e w' ⟨v, rfl, ho, g⟩
  exact ⟨v, rfl, g.below, ho.is⟩
section
variable {ops : Array Oper} {W : World} {o : Oper} {Γ : List Ent} {a : Act}
theorem ex_oneF {s : Operand} {x : F} (hx : Arg ops W o Γ a s (isV (.int .u64 (Zm.i (x))))) (hop : o.op = .buildSlice 22 1 #[(0, s)]) (hw : ∀ V, Region.wanted o (yielded ops (fill Γ V a).tmps) = true) : ExS Tryd.prog ops W o Γ a (fv [x]) := by
  refine ⟨?_⟩
  intro V N X hΓ g hX K hK
  have h1 : (fill Γ V a).eval s = .int .u64 (Zm.i (x)) := hx V N X hΓ _ (Up.gr W g) hX
  obtain ⟨i0, hi, hz0, hz1, hz2⟩ := info_parts u64Info
  have hr := run_buildSlice (P := Tryd.prog) (gr W g) 22 34 1 #[(0, .int .u64 (Zm.i (x)))] #[.int .u64 (Zm.i (x))] i0 _ Tryd.underlying22 hi hz0 (by rw [hz1]; decide) (by rw [hz1]; decide) (by rw [hz1]; kernel_rfl)
  simp only [wpList]
  rw [if_pos (hw V)]
  left
  unfold Oper.wp execOp
  have e : (#[(0, s)] : Array (Nat × Operand)).map (fun (i, y) => (i, (fill Γ V a).eval y)) = #[(0, .int .u64 (Zm.i (x)))] := by simp [h1]
  simp only [hop, Sem.run_bind]
  rw [e, hr]
  simp only [Result.andThen_ok]
  exact hK _ _ (Gn.al _).below ⟨_, _, _, rfl, (BF.one x).sf (by simp)⟩
end
/-- a transform that succeeds -/
theorem fwd_ok {l : List F} {k : Nat} (hl : l.length = 2 ^ k) (hk : k ≤ 16) : ∃ b, fwdOf l = (b, 0) ∧ b.length = 2 ^ k ∧ invOf b = (l, 0) ∧ b = valP l (root k) (2 ^ k) := by
  refine ⟨valP l (root k) (2 ^ k), fwdOf_pow hl hk, valP_length _ _ _, ?_, rfl⟩
  have h := inv_fwd hl hk
  rwa [fwdOf_pow hl hk] at h
theorem inv_ok {l : List F} {k : Nat} (hl : l.length = 2 ^ k) (hk : k ≤ 16) : ∃ d, invOf l = (d, 0) ∧ d.length = 2 ^ k ∧ fwdOf d = (l, 0) := by
  have h := fwd_inv hl hk
  have h2 := invOf_length hl hk
  refine ⟨(invOf l).1, ?_, h2, h⟩
  rw [invOf_pow hl hk]
theorem ev_map2 {a b c : List F} {n : Nat} (ha : a.length = n) (hb : b.length = n) (s : F) (hc : c = tab n fun i => co a i + s * co b i) (x : F) : ev c x = ev a x + s * ev b x := by
  rw [ev_sum c x n (by rw [hc, tab_length]; exact Nat.le_refl _), ev_sum a x n (by omega), ev_sum b x n (by omega), ← sm_mul, ← sm_add]
  refine sm_congr fun i hi => ?_
  rw [hc, co_tab, if_pos hi, add_mul, mul_assoc]
theorem get_valP {l : List F} {u : F} {n i : Nat} (hi : i < n) : (valP l u n)[i]? = some (ev l (pw u i)) := by
  unfold valP tab; rw [List.getElem?_map, List.getElem?_range hi]; rfl
end Go.Proofs.YtjgdbfhpjjmjkaaDoor
