/- A range over a function whose rounds are known ahead: an iterator may keep a state of its own in a cell; the loop's body never leaves early. The law of the statement, at the fence that asks nothing. -/
import Derived.RangeFuncNested
import Derived.RangeFuncBound
import Derived.RangeFuncCalls
import Derived.RangeFuncLeaves
import Derived.Shelf.Abstract
import Derived.Shelf.RegionOpen
import Derived.WalkKit
import Derived.OwnWalkIn
import Derived.TacticsInMore
import Derived.LoopNIn
import Derived.LoopIn
import Derived.Test.YtjgdbfhpjjmjkaaDoorGr
namespace Go
open Go.RowKit
variable {P : Program}

/-- what lies at or beyond B lies on -/
structure KeepsBeyond (B : Nat) (W W' : World) : Prop where
  size : W.heap.size ≤ W'.heap.size
  same : ∀ k, B ≤ k → k < W.heap.size → W'.heap[k]? = W.heap[k]?
theorem KeepsBeyond.refl (B : Nat) (W : World) : KeepsBeyond B W W := ⟨Nat.le_refl _, fun _ _ _ => rfl⟩
theorem KeepsBeyond.trans {B : Nat} {A C D : World} (h : KeepsBeyond B A C) (k : KeepsBeyond B C D) : KeepsBeyond B A D :=
  ⟨Nat.le_trans h.size k.size, fun i hi hl => (k.same i hi (Nat.lt_of_lt_of_le hl h.size)).trans (h.same i hi hl)⟩
theorem KeepsBeyond.setCell {B : Nat} {W : World} {p : Addr} (h : p.block < B) (v : Value) : KeepsBeyond B W (W.setCell p v) :=
  ⟨by simp, fun k hk _ => Below.heap_setCell W p v k (by omega)⟩
theorem KeepsBeyond.gr {B : Nat} (W : World) (g : Grow W) : KeepsBeyond B W (gr W g) := ⟨g.below.size, fun k _ hl => g.below.block k hl⟩
theorem KeepsBeyond.drewN {B : Nat} (W : World) (n : Nat) : KeepsBeyond B W (W.drewN n) := ⟨Nat.le_refl _, fun _ _ _ => rfl⟩
theorem below_putObj {B : Nat} (W : World) (l : Nat) (o : Obj) (h : B ≤ l) : Below B W (W.putObj l o) :=
  ⟨rfl, rfl, rfl, by simp, fun k hk => World.putObj_heap_other (by omega)⟩

/-- AN ITERATOR'S CONTRACT: 'xs k' are the values of the round k, N rounds in all. H: what it asks of memory where it is called. Step: what it does to memory between two rounds. Kp: what a round must keep. -/
def IterOk (P : Program) (f : FuncId) (lb : Array Value) (xs : Nat → Array Value) (N : Nat) (H : World → Prop) (Step Kp : World → World → Prop) : Prop :=
  ∀ (m l : Nat) (J : Nat → World → Prop), (∀ k W W', J k W → Step W W' → J k W') →
    (∀ k W, k < N → J k W → YieldAt Fence.wide m P l (xs k) W fun e W' => e = .returned (.bool true) ∧ J (k + 1) W' ∧ Kp W W') →
    ∀ W, H W → J 0 W → CallsIn Fence.wide (m + 1) P f (#[.func (.yield l) #[] #[]] ++ lb) W fun e W' => (∃ v, e = .returned v) ∧ J N W'

/-- how a round's body ends -/
def rgPost (B : Nat) (I' : World → Prop) (Kp : World → World → Prop) (W : World) : Exit → Act → World → Prop
  | .normal, _, W' => KeepsBeyond B W W' ∧ I' W' ∧ Kp W W'
  | _, _, _ => False

/-- THE STATEMENT -/
theorem wp_range {g : Operand} {ps : Array Tmp} {assign body : Code} {Q : Exit → Act → World → Prop} {a : Act} {w : World} {m : Nat}
    {gf : Nat} {lb : Array Value} (hg : a.eval g = .func (.func gf) #[] lb) (eg : ∀ args w, (callFunc gf args).run P w = .ok (.enter gf args) w)
    {xs : Nat → Array Value} {N : Nat} {H : World → Prop} {Step Kp : World → World → Prop} (hit : IterOk P gf lb xs N H Step Kp) (hps : ∀ k, (xs k).size = ps.size)
    (hH : ∀ W, Below w.heap.size w W → H W)
    (hKp : ∀ A C D E, Below w.heap.size A C → Kp C D → Below w.heap.size D E → Kp A E)
    (I : Nat → World → Prop) (hI : ∀ k W W', I k W → Below w.heap.size W W' → I k W') (h0 : I 0 w)
    (hstep : ∀ W W', Step W W' → KeepsBeyond w.heap.size W W') (hIs : ∀ k W W', I k W → Step W W' → I k W')
    (a₁ : Nat → Act)
    (hassign : ∀ (l k : Nat) (W : World) (K : Act → World → Prop), K (a₁ k) W →
      assign.wpIn (Fence.wide.inRound l) m P (Exit.then K (fun _ _ _ => False)) { tmps := (ps.zip (xs k)).foldl (fun t (p, v) => t.setIfInBounds p v) a.tmps, defers := [] } W)
    (hbody : ∀ (l k : Nat) (W : World), I k W → k < N → w.heap.size ≤ W.heap.size → body.wpIn (Fence.wide.inRound l) m P (rgPost w.heap.size (I (k + 1)) Kp W) (a₁ k) W)
    (hdone : ∀ (D : Nat) (W : World), w.heap.size ≤ D → I N W → w.heap.size ≤ W.heap.size → W.heap[D]? = some (.deferred (some [])) →
      Q .normal { a with defers := { target := .collected D, args := #[] } :: a.defers } W) :
    (Code.rangeFunc g ps assign body).wpIn Fence.wide (m + 2) P Q a w := by
  refine wpIn_rangeFunc ?_
  intro fn hfn
  show ∃ l mark w₁ d w₁' f args w₂, (Instr.enterLoop fn a.tmps ps assign body none).run P w = .ok (l, mark) w₁ ∧ _
  obtain ⟨rec, hrec⟩ : ∃ rec : LoopState → Option Code → Loop, rec = fun st pe => { state := st, pending := pe, fn, tmps := a.tmps, params := ps, assign, body, defers := w.heap.size } := ⟨_, rfl⟩
  obtain ⟨W1, hW1⟩ : ∃ W1, (w.alloc (.deferred (some []))).alloc (.loop (rec .ready none)) = W1 := ⟨_, rfl⟩
  have hL1 : W1.heap[w.heap.size + 1]? = some (.loop (rec .ready none)) := by
    rw [← hW1]; have := World.alloc_heap_new (w.alloc (.deferred (some []))) (.loop (rec .ready none)); rwa [World.size_alloc] at this
  have hK1 : W1.heap[w.heap.size]? = some (.deferred (some [])) := by
    rw [← hW1]; exact (Below.heap_alloc _ _ _ (by simp)).trans (World.alloc_heap_new w _)
  have hb1 : Below w.heap.size w W1 := by rw [← hW1]; exact ((Below.refl _ w).alloc (Nat.le_refl _) _).alloc (by simp) _
  refine ⟨w.heap.size + 1, [{ target := .collected w.heap.size, args := #[] }], W1, { target := .fn (.func gf) lb, args := #[.func (.yield (w.heap.size + 1)) #[] #[]] }, W1, gf,
    #[.func (.yield (w.heap.size + 1)) #[] #[]] ++ lb, W1, ?_, ?_, fun _ _ => trivial, ?_, fun _ => by omega, ?_⟩
  · rw [← hW1, hrec]; exact run_enterLoop_outer _ _ _ _ _
  · simp only [resolve, hg]
    simp [go_sem]
  · simp [invoke, go_sem, eg]
  · refine (hit m (w.heap.size + 1)
      (fun k W => I k W ∧ w.heap.size ≤ W.heap.size ∧ W.heap[w.heap.size + 1]? = some (.loop (rec .ready none)) ∧ W.heap[w.heap.size]? = some (.deferred (some []))) ?_ ?_ W1 (hH W1 hb1)
      ⟨hI 0 w W1 h0 hb1, hb1.size, hL1, hK1⟩).mono ?_
    · rintro k W W' ⟨hi, hs, hl, hk⟩ hst
      have hq := hstep W W' hst
      exact ⟨hIs k W W' hi hst, Nat.le_trans hs hq.size, (hq.same _ (by omega) (Array.getElem?_eq_some_iff.1 hl).1).trans hl, (hq.same _ (Nat.le_refl _) (Array.getElem?_eq_some_iff.1 hk).1).trans hk⟩
    · rintro k W hlen ⟨hi, hs, hl, hk⟩
      have hlt : w.heap.size + 1 < W.heap.size := (Array.getElem?_eq_some_iff.1 hl).1
      have hy := run_yield (P := P) (args := xs k) hl (by rw [hrec]; exact hps k)
      rw [hrec] at hy
      refine ⟨fn, _, assign, body, hy, roundIn_of_wpIn hfn (hassign _ k W _ ⟨_, run_beginRound hl (by rw [hrec]), ?_⟩)⟩
      have hl2 : (W.putObj (w.heap.size + 1) (.loop { rec .ready none with state := .busy })).heap[w.heap.size + 1]? = some (.loop { rec .ready none with state := .busy }) := World.putObj_heap_same hlt
      have hk2 : (W.putObj (w.heap.size + 1) (.loop { rec .ready none with state := .busy })).heap[w.heap.size]? = some (.deferred (some [])) := (World.putObj_heap_other (by omega)).trans hk
      have hb2 : Below w.heap.size W (W.putObj (w.heap.size + 1) (.loop { rec .ready none with state := .busy })) := below_putObj W _ _ (by omega)
      refine wpIn_mono (hbody _ k _ (hI k _ _ hi hb2) hlen (by simpa using hs)) ?_
      rintro e a3 W3 hp
      cases e with
      | normal =>
        obtain ⟨hq, hi3, hp3⟩ := hp
        have hl3 := (hq.same _ (by omega) (Array.getElem?_eq_some_iff.1 hl2).1).trans hl2
        have hk3 := (hq.same _ (Nat.le_refl _) (Array.getElem?_eq_some_iff.1 hk2).1).trans hk2
        have hr := run_endRound (P := P) none hl3
        rw [hrec] at hr
        have hb3 : Below w.heap.size W3 (W3.putObj (w.heap.size + 1) (.loop (rec .ready none))) := below_putObj W3 _ _ (by omega)
        refine ⟨_, _, hr, rfl, ⟨?_, ?_, ?_, ?_⟩, ?_⟩
        · have := hI (k + 1) _ _ hi3 hb3; rw [hrec] at this; exact this
        · have := hq.size; simp at this ⊢; omega
        · have := World.putObj_heap_same (o := .loop (rec .ready none)) (Array.getElem?_eq_some_iff.1 hl3).1; rw [hrec] at this ⊢; exact this
        · exact (World.putObj_heap_other (by omega)).trans hk3
        · have := hKp _ _ _ _ hb2 hp3 hb3; rw [hrec] at this; exact this
      | _ => exact hp.elim
    · rintro e W2 ⟨⟨v, rfl⟩, hi, hs, hl, hk⟩
      refine ⟨none, _, by have := run_endLoop (P := P) hl (by rw [hrec]; simp); rw [hrec] at this; exact this, ?_⟩
      exact hdone _ _ (Nat.le_refl _) (hI N _ _ hi (below_putObj W2 _ _ (by omega))) (by simpa using hs) ((World.putObj_heap_other (by omega)).trans hk)
end Go
