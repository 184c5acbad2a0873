/- The rule of XRg2 for a body that writes blocks made in earlier rounds (a row that grows by append). -/
import Derived.Test.YtgambglgkilgkaaGreatDoorGq
namespace Go
open Go.RowKit
variable {P : Program}
theorem gb_of {W W' : World} (h : Below W.heap.size W W') (r : Option Nat) : W.grownBy W' r := ⟨h.os, h.tape, h.output, h.size, fun k hk _ => h.block k hk⟩
theorem gb_put (W : World) (l : Nat) (o : Obj) : W.grownBy (W.putObj l o) (some l) := ⟨rfl, rfl, rfl, by simp, fun k _ hk => World.putObj_heap_other (fun e => hk (by rw [e]))⟩
/-- how a round's body ends -/
def rgPost3 (n : Nat) (I' : World → Prop) (Kp : World → World → Prop) (W : World) : Exit → Act → World → Prop
  | .normal, _, W' => (W.heap.size ≤ W'.heap.size ∧ W'.heap[n]? = W.heap[n]? ∧ W'.heap[n + 1]? = W.heap[n + 1]?) ∧ I' W' ∧ Kp W W'
  | _, _, _ => False
/-- THE STATEMENT -/
theorem wp_range3 {g : Operand} {ps : Array Tmp} {assign body : Code} {Q : Exit → Act → World → Prop} {a : Act} {w : World} {m : Nat}
    {gf : Nat} {lb : Array Value} (hg : a.eval g = .func (.func gf) #[] lb) (eg : ∀ args w, (callFunc gf args).run P w = .ok (.enter gf args) w)
    {xs : Nat → Array Value} {N : Nat} {H : World → Prop} {Step Kp : World → World → Prop} (hit : IterOk P gf lb xs N H Step Kp) (hps : ∀ k, (xs k).size = ps.size)
    (hH : ∀ W, Below w.heap.size w W → H W)
    (hKp : ∀ A C D E, Below w.heap.size A C → Kp C D → Below w.heap.size D E → Kp A E)
    (I : Nat → World → Prop) (hI : ∀ k W W', I k W → W.grownBy W' (some (w.heap.size + 1)) → I k W') (h0 : I 0 w)
    (hstep : ∀ W W', Step W W' → KeepsBeyond w.heap.size W W') (hIs : ∀ k W W', I k W → Step W W' → I k W')
    (a₁ : Nat → World → Act) (wa : Nat → World → World) (hwa : ∀ k W, Below W.heap.size W (wa k W))
    (hassign : ∀ (l k : Nat) (W : World) (K : Act → World → Prop), K (a₁ k W) (wa k W) →
      assign.wpIn (Fence.wide.inRound l) m P (Exit.then K (fun _ _ _ => False)) { tmps := (ps.zip (xs k)).foldl (fun t (p, v) => t.setIfInBounds p v) a.tmps, defers := [] } W)
    (hbody : ∀ (l k : Nat) (W W2 : World), I k W2 → k < N → w.heap.size + 1 < W.heap.size → (wa k W).heap.size ≤ W2.heap.size → (∀ j, W.heap.size ≤ j → j < (wa k W).heap.size → W2.heap[j]? = (wa k W).heap[j]?) →
      body.wpIn (Fence.wide.inRound l) m P (rgPost3 w.heap.size (I (k + 1)) Kp W2) (a₁ k W) W2)
    (hdone : ∀ (D : Nat) (W : World), w.heap.size ≤ D → I N W → w.heap.size ≤ W.heap.size → W.heap[D]? = some (.deferred (some [])) →
      Q .normal { a with defers := { target := .collected D, args := #[] } :: a.defers } W) :
    (Code.rangeFunc g ps assign body).wpIn Fence.wide (m + 2) P Q a w := by
  refine wpIn_rangeFunc ?_
  intro fn hfn
  show ∃ l mark w₁ d w₁' f args w₂, (Instr.enterLoop fn a.tmps ps assign body none).run P w = .ok (l, mark) w₁ ∧ _
  obtain ⟨rec, hrec⟩ : ∃ rec : LoopState → Option Code → Loop, rec = fun st pe => { state := st, pending := pe, fn, tmps := a.tmps, params := ps, assign, body, defers := w.heap.size } := ⟨_, rfl⟩
  obtain ⟨W1, hW1⟩ : ∃ W1, (w.alloc (.deferred (some []))).alloc (.loop (rec .ready none)) = W1 := ⟨_, rfl⟩
  have hL1 : W1.heap[w.heap.size + 1]? = some (.loop (rec .ready none)) := by
    rw [← hW1]; have := World.alloc_heap_new (w.alloc (.deferred (some []))) (.loop (rec .ready none)); rwa [World.size_alloc] at this
  have hK1 : W1.heap[w.heap.size]? = some (.deferred (some [])) := by
    rw [← hW1]; exact (Below.heap_alloc _ _ _ (by simp)).trans (World.alloc_heap_new w _)
  have hb1 : Below w.heap.size w W1 := by rw [← hW1]; exact ((Below.refl _ w).alloc (Nat.le_refl _) _).alloc (by simp) _
  refine ⟨w.heap.size + 1, [{ target := .collected w.heap.size, args := #[] }], W1, { target := .fn (.func gf) lb, args := #[.func (.yield (w.heap.size + 1)) #[] #[]] }, W1, gf,
    #[.func (.yield (w.heap.size + 1)) #[] #[]] ++ lb, W1, ?_, ?_, fun _ _ => trivial, ?_, fun _ => by omega, ?_⟩
  · rw [← hW1, hrec]; exact run_enterLoop_outer _ _ _ _ _
  · simp only [resolve, hg]
    simp [go_sem]
  · simp [invoke, go_sem, eg]
  · refine (hit m (w.heap.size + 1)
      (fun k W => I k W ∧ w.heap.size ≤ W.heap.size ∧ W.heap[w.heap.size + 1]? = some (.loop (rec .ready none)) ∧ W.heap[w.heap.size]? = some (.deferred (some []))) ?_ ?_ W1 (hH W1 hb1)
      ⟨hI 0 w W1 h0 (gb_of hb1 _), hb1.size, hL1, hK1⟩).mono ?_
    · rintro k W W' ⟨hi, hs, hl, hk⟩ hst
      have hq := hstep W W' hst
      exact ⟨hIs k W W' hi hst, Nat.le_trans hs hq.size, (hq.same _ (by omega) (Array.getElem?_eq_some_iff.1 hl).1).trans hl, (hq.same _ (Nat.le_refl _) (Array.getElem?_eq_some_iff.1 hk).1).trans hk⟩
    · rintro k W hlen ⟨hi, hs, hl, hk⟩
      have hlt : w.heap.size + 1 < W.heap.size := (Array.getElem?_eq_some_iff.1 hl).1
      have hy := run_yield (P := P) (args := xs k) hl (by rw [hrec]; exact hps k)
      rw [hrec] at hy
      have hla : (wa k W).heap[w.heap.size + 1]? = some (.loop (rec .ready none)) := ((hwa k W).block _ hlt).trans hl
      have hka : (wa k W).heap[w.heap.size]? = some (.deferred (some [])) := ((hwa k W).block _ (by omega)).trans hk
      have hia := hI k _ _ hi (gb_of (hwa k W) _)
      have hba : Below w.heap.size W (wa k W) := (hwa k W).mono hs
      refine ⟨fn, _, assign, body, hy, roundIn_of_wpIn hfn (hassign _ k W _ ⟨_, run_beginRound hla (by rw [hrec]), ?_⟩)⟩
      have hlt0 := hlt
      have hsa := (hwa k W).size
      generalize hwv : wa k W = Wa at hla hka hia hba hsa ⊢
      replace hlt : w.heap.size + 1 < Wa.heap.size := by omega
      have hl2 : (Wa.putObj (w.heap.size + 1) (.loop { rec .ready none with state := .busy })).heap[w.heap.size + 1]? = some (.loop { rec .ready none with state := .busy }) := World.putObj_heap_same hlt
      have hk2 : (Wa.putObj (w.heap.size + 1) (.loop { rec .ready none with state := .busy })).heap[w.heap.size]? = some (.deferred (some [])) := (World.putObj_heap_other (by omega)).trans hka
      have hb2 : Below w.heap.size Wa (Wa.putObj (w.heap.size + 1) (.loop { rec .ready none with state := .busy })) := below_putObj Wa _ _ (by omega)
      refine wpIn_mono (hbody _ k W _ (hI k _ _ hia (gb_put Wa _ _)) hlen hlt0 (by rw [hwv]; simp) (fun j hj hjl => by rw [hwv] at hjl ⊢; exact World.putObj_heap_other (by omega))) ?_
      rintro e a3 W3 hp
      cases e with
      | normal =>
        obtain ⟨hq, hi3, hp3⟩ := hp
        have hl3 := hq.2.2.trans hl2
        have hk3 := hq.2.1.trans hk2
        have hr := run_endRound (P := P) none hl3
        rw [hrec] at hr
        have hb3 : Below w.heap.size W3 (W3.putObj (w.heap.size + 1) (.loop (rec .ready none))) := below_putObj W3 _ _ (by omega)
        refine ⟨_, _, hr, rfl, ⟨?_, ?_, ?_, ?_⟩, ?_⟩
        · have := hI (k + 1) _ _ hi3 (gb_put W3 (w.heap.size + 1) (.loop (rec .ready none))); rw [hrec] at this; exact this
        · have := hq.1; simp at this ⊢; omega
        · have := World.putObj_heap_same (o := .loop (rec .ready none)) (Array.getElem?_eq_some_iff.1 hl3).1; rw [hrec] at this ⊢; exact this
        · exact (World.putObj_heap_other (by omega)).trans hk3
        · have := hKp _ _ _ _ (hba.trans hb2) hp3 hb3; rw [hrec] at this; exact this
      | _ => exact hp.elim
    · rintro e W2 ⟨⟨v, rfl⟩, hi, hs, hl, hk⟩
      refine ⟨none, _, by have := run_endLoop (P := P) hl (by rw [hrec]; simp); rw [hrec] at this; exact this, ?_⟩
      exact hdone _ _ (Nat.le_refl _) (hI N _ _ hi (gb_put W2 _ _)) (by simpa using hs) ((World.putObj_heap_other (by omega)).trans hk)
end Go
