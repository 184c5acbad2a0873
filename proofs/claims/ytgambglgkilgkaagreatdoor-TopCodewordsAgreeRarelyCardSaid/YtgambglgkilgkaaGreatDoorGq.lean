/- The walks of DivRoot. -/
import Derived.Test.YtgambglgkilgkaaGreatDoorGp
import Derived.Test.YtgambglgkilgkaaGreatDoorGf
import Derived.BigFrameIn
import Derived.RegionIn
import Derived.BigRegionIn
import Derived.RangeFuncCalls
import Derived.Shelf.RegionOpen
namespace Go.Proofs.YtgambglgkilgkaaGreatDoor
open Go.RowKit Att Att.CRing
/-- a slice and an element are returned -/
def RetSlE (w : World) (l : List Ext) (r : Ext) (e : Ending) (w' : World) : Prop := ∃ A n c, e = .returned (.tuple #[.slice A n c, .agg #[.int .u64 (Zm.i (Ext.a (r))), .int .u64 (Zm.i (Ext.b (r)))]]) ∧ Sl w' A n c l ∧ Gn w w'
/-- the quotient by X - x, untrimmed -/
def dq (l : List Ext) (x : Ext) : List Ext := tab (l.length - 1) fun i => ev (l.drop (i + 1)) x
theorem dq_len (l : List Ext) (x : Ext) : (dq l x).length = l.length - 1 := tab_length _ _
theorem dq_get {l : List Ext} (x : Ext) {i : Nat} (h : i + 1 < l.length) : (dq l x)[i]? = some (ev (l.drop (i + 1)) x) := by
  unfold dq tab; rw [List.getElem?_map, List.getElem?_range (by omega)]; rfl
/-- a row that is filled from its end -/
def Bi (res : List Ext) (k : Nat) : List Ext := List.replicate k 0 ++ res.drop k
theorem Bi_length (res : List Ext) {k : Nat} (h : k ≤ res.length) : (Bi res k).length = res.length := by simp [Bi]; omega
theorem Bi_start (res : List Ext) : Bi res res.length = List.replicate res.length 0 := by simp [Bi]
theorem Bi_end (res : List Ext) : Bi res 0 = res := by simp [Bi]
theorem Bi_get (res : List Ext) {k : Nat} : (Bi res (k + 1))[k]? = some 0 := by
  unfold Bi
  rw [List.getElem?_append_left (by simp), List.getElem?_replicate, if_pos (by omega)]
theorem Bi_set {res : List Ext} {k : Nat} {x : Ext} (h : res[k]? = some x) : (Bi res (k + 1)).set k x = Bi res k := by
  have hk : k < res.length := (List.getElem?_eq_some_iff.1 h).1
  have hx : res[k] = x := Option.some.inj ((List.getElem?_eq_getElem hk).symm.trans h)
  unfold Bi
  rw [List.drop_eq_getElem_cons hk, hx, List.replicate_succ', List.append_assoc, List.set_append_right _ _ (by simp)]
  simp
def slRel (B : Nat) (l : List Ext) : Rel := fun v _ y => Ow y B v l
theorem end_sl {W : World} {B : Nat} {Γ : List Ent} {V : Nat → Value} {N : Nat → Nat} {X : Nat → World} (h : ∀ e ∈ Γ, e.rel (V e.slot) (N e.slot) (X e.slot) ∧ Up W (X e.slot) ∧ W.heap.size ≤ N e.slot)
    {w : World} (hX : ∀ e ∈ Γ, Up (X e.slot) w) {s : Nat} {l : List Ext} (hs : ⟨s, slRel B l⟩ ∈ Γ) : Ow w B (V s) l := Ow.up (h _ hs).1 (Gn.of (hX _ hs))
theorem Ow.far {w : World} {base : Nat} {v : Value} {l : List Ext} (h : Ow w base v l) {w' : World} (hk : ∀ k, base ≤ k → k < w.heap.size → w'.heap[k]? = w.heap[k]?) : Ow w' base v l := by
  rcases h with ⟨h1, h2 | ⟨g, cap, cur, hv, hb, hg, hn, hc, hsz, htake⟩⟩
  · exact ⟨h1, .inl h2⟩
  · exact ⟨h1, .inr ⟨g, cap, cur, hv, hb, (hk g hb (blk_lt hg)).trans hg, hn, hc, hsz, htake⟩⟩
/-- the boxes x, r and v of DivRoot, and its row -/
structure Dv (w wr : World) (x r v : Ext) (q : List Ext) : Prop where
  g : Gn w wr
  x : wr.heap[w.heap.size]? = some (.cells #[.int .u64 (Zm.i (Ext.a x)), .int .u64 (Zm.i (Ext.b x))] 30)
  r : wr.heap[w.heap.size + 1]? = some (.cells #[.int .u64 (Zm.i (Ext.a r)), .int .u64 (Zm.i (Ext.b r))] 30)
  q : Blk wr (w.heap.size + 1 + 1) q
  v : wr.heap[w.heap.size + 1 + 1 + 1]? = some (.cells #[.int .u64 (Zm.i (Ext.a v)), .int .u64 (Zm.i (Ext.b v))] 30)
theorem Dv.up {w wr w2 : World} {x r v : Ext} {q : List Ext} (h : Dv w wr x r v q) (g : Gn wr w2) : Dv w w2 x r v q := ⟨h.g.trans g, g.block h.x, g.block h.r, h.q.up g, g.block h.v⟩
theorem Dv.setV {w wr : World} {x r v : Ext} {q : List Ext} (h : Dv w wr x r v q) (u : Ext) : Dv w (set2 wr (w.heap.size + 1 + 1 + 1) u) x r u q :=
  ⟨set2_below h.g (by omega) u, set2_keep _ h.x (by omega), set2_keep _ h.r (by omega), (set2_other (by omega) u).trans h.q, set2_same h.v u⟩
theorem Dv.setR {w wr : World} {x r v : Ext} {q : List Ext} (h : Dv w wr x r v q) (u : Ext) : Dv w (set2 wr (w.heap.size + 1) u) x u v q :=
  ⟨set2_below h.g (by omega) u, set2_keep _ h.x (by omega), set2_same h.r u, (set2_other (by omega) u).trans h.q, set2_keep _ h.v (by omega)⟩
theorem Dv.setQ {w wr : World} {x r v : Ext} {q : List Ext} (h : Dv w wr x r v q) {i : Nat} (hi : i < q.length) (u : Ext) : Dv w (setE wr (w.heap.size + 1 + 1) i u) x r v (q.set i u) :=
  ⟨setE_below h.g (by omega) u, (setE_other (by omega) u).trans h.x, (setE_other (by omega) u).trans h.r, h.q.set hi u, (setE_other (by omega) u).trans h.v⟩

end Go.Proofs.YtgambglgkilgkaaGreatDoor

/- The walk of poly.DivRoot. -/
namespace Go.Proofs.YtgambglgkilgkaaGreatDoor
open Go.RowKit Att Att.CRing
/-- a made row of zeros -/
def mkRel (m : Nat) : Rel := fun v n y => ∃ b, v = .slice (some ⟨b, 0, none⟩) m m ∧ n ≤ b ∧ Blk y b (List.replicate m 0)
theorem ex_mk {ops : Array Oper} {W : World} {Γ : List Ent} {a : Act} (d : Nat) (l c : Operand) (ty : TypeId) (pos : String) (aft : Array Edge) (m : Nat) (hl : ∀ V, (fill Γ V a).eval l = .int .i64 m) (hc : ∀ V, (fill Γ V a).eval c = .int .i64 m) (hm : m ≤ 1099511627776) :
    ExStep Tryz.prog ops W ⟨some d, .makeSlice 22 l c, ty, pos, aft, none⟩ Γ a (mkRel m) := by
  intro V N X hΓ g hX K hK
  refine wpList_mk l c m (hl V) (hc V) hm ?_
  refine wpList_nil ?_
  exact hK _ _ (Gn.al _).below ⟨_, rfl, Nat.le_refl _, hnew _ _⟩
theorem end_mkbox {W : World} {Γ : List Ent} {V : Nat → Value} {N : Nat → Nat} {X : Nat → World} (h : ∀ e ∈ Γ, e.rel (V e.slot) (N e.slot) (X e.slot) ∧ Up W (X e.slot) ∧ W.heap.size ≤ N e.slot)
    (hd : ∀ e ∈ Γ, ∀ e' ∈ Γ, e.slot ≠ e'.slot → (X e.slot).heap.size ≤ N e'.slot ∨ (X e'.slot).heap.size ≤ N e.slot)
    {w : World} (hX : ∀ e ∈ Γ, Up (X e.slot) w) (s t m : Nat) (hs : ⟨s, mkRel m⟩ ∈ Γ) (ht : ⟨t, newBox⟩ ∈ Γ) (hne : s ≠ t) :
    ∃ b c, (V s = .slice (some ⟨b, 0, none⟩) m m ∧ V t = .pointer (some ⟨c, 0, none⟩)) ∧ b ≠ c ∧ W.heap.size ≤ b ∧ W.heap.size ≤ c ∧ Blk w b (List.replicate m 0) ∧ w.heap[c]? = some zeroExt := by
  have h0 := h _ hs
  dsimp only at h0
  obtain ⟨⟨b, b1, b2, b3⟩, _, b4⟩ := h0
  obtain ⟨c, c1, c2, c3, c4, c5⟩ := end_box h hX ht
  have b5 := blk_lt b3
  refine ⟨b, c, ⟨b1, c1⟩, ?_, Nat.le_trans b4 b2, c2, b3.up (Gn.of (hX _ hs)), c3⟩
  have := hd _ hs _ ht hne
  dsimp only at this
  omega
/-- the boxes x, r and v of DivRoot, and its row -/
structure Dw (w wr : World) (bq bv : Nat) (x r v : Ext) (q : List Ext) : Prop where
  g : Gn w wr
  x : wr.heap[w.heap.size]? = some (.cells #[.int .u64 (Zm.i (Ext.a x)), .int .u64 (Zm.i (Ext.b x))] 30)
  r : wr.heap[w.heap.size + 1]? = some (.cells #[.int .u64 (Zm.i (Ext.a r)), .int .u64 (Zm.i (Ext.b r))] 30)
  q : Blk wr bq q
  v : wr.heap[bv]? = some (.cells #[.int .u64 (Zm.i (Ext.a v)), .int .u64 (Zm.i (Ext.b v))] 30)
  hq : w.heap.size + 1 < bq
  hv : w.heap.size + 1 < bv
  ne : bq ≠ bv
theorem Dw.up {w wr w2 : World} {bq bv : Nat} {x r v : Ext} {q : List Ext} (h : Dw w wr bq bv x r v q) (g : Gn wr w2) : Dw w w2 bq bv x r v q := ⟨h.g.trans g, g.block h.x, g.block h.r, h.q.up g, g.block h.v, h.hq, h.hv, h.ne⟩
theorem Dw.setV {w wr : World} {bq bv : Nat} {x r v : Ext} {q : List Ext} (h : Dw w wr bq bv x r v q) (u : Ext) : Dw w (set2 wr bv u) bq bv x r u q :=
  have h1 := h.hq; have h2 := h.hv; have h3 := h.ne
  ⟨set2_below h.g (by omega) u, set2_keep _ h.x (by omega), set2_keep _ h.r (by omega), (set2_other (by omega) u).trans h.q, set2_same h.v u, h1, h2, h3⟩
theorem Dw.setR {w wr : World} {bq bv : Nat} {x r v : Ext} {q : List Ext} (h : Dw w wr bq bv x r v q) (u : Ext) : Dw w (set2 wr (w.heap.size + 1) u) bq bv x u v q :=
  have h1 := h.hq; have h2 := h.hv; have h3 := h.ne
  ⟨set2_below h.g (by omega) u, set2_keep _ h.x (by omega), set2_same h.r u, (set2_other (by omega) u).trans h.q, set2_keep _ h.v (by omega), h1, h2, h3⟩
theorem Dw.setQ {w wr : World} {bq bv : Nat} {x r v : Ext} {q : List Ext} (h : Dw w wr bq bv x r v q) {i : Nat} (hi : i < q.length) (u : Ext) : Dw w (setE wr bq i u) bq bv x r v (q.set i u) :=
  have h1 := h.hq; have h2 := h.hv; have h3 := h.ne
  ⟨setE_below h.g (by omega) u, (setE_other (by omega) u).trans h.x, (setE_other (by omega) u).trans h.r, h.q.set hi u, (setE_other (by omega) u).trans h.v, h1, h2, h3⟩

end Go.Proofs.YtgambglgkilgkaaGreatDoor

/- The range over slices.Backward, and poly.Eval. -/
namespace Go.Proofs.YtgambglgkilgkaaGreatDoor
open Go.RowKit Att Att.CRing

/-- what the walk back through a slice asks of memory: the box of the slice, and the world of old -/
structure BkH (B : Nat) (sv : Value) (w W : World) : Prop where
  lt : B < W.heap.size
  c : W.cell? ⟨B, 0, none⟩ = some sv
  b : Below w.heap.size w W
def BkKp (B : Nat) (w W W' : World) : Prop := B < W'.heap.size ∧ W'.cell? ⟨B, 0, none⟩ = W.cell? ⟨B, 0, none⟩ ∧ Below w.heap.size W W'

attribute [local go_sem] Oper.semAt_some
end Go.Proofs.YtgambglgkilgkaaGreatDoor

/- The rule of XRg for a range whose loop variables lie in cells: the assignment may make memory. -/
namespace Go
open Go.RowKit
variable {P : Program}
/-- THE STATEMENT -/
theorem wp_range2 {g : Operand} {ps : Array Tmp} {assign body : Code} {Q : Exit → Act → World → Prop} {a : Act} {w : World} {m : Nat}
    {gf : Nat} {lb : Array Value} (hg : a.eval g = .func (.func gf) #[] lb) (eg : ∀ args w, (callFunc gf args).run P w = .ok (.enter gf args) w)
    {xs : Nat → Array Value} {N : Nat} {H : World → Prop} {Step Kp : World → World → Prop} (hit : IterOk P gf lb xs N H Step Kp) (hps : ∀ k, (xs k).size = ps.size)
    (hH : ∀ W, Below w.heap.size w W → H W)
    (hKp : ∀ A C D E, Below w.heap.size A C → Kp C D → Below w.heap.size D E → Kp A E)
    (I : Nat → World → Prop) (hI : ∀ k W W', I k W → Below w.heap.size W W' → I k W') (h0 : I 0 w)
    (hstep : ∀ W W', Step W W' → KeepsBeyond w.heap.size W W') (hIs : ∀ k W W', I k W → Step W W' → I k W')
    (a₁ : Nat → World → Act) (wa : Nat → World → World) (hwa : ∀ k W, Below W.heap.size W (wa k W))
    (hassign : ∀ (l k : Nat) (W : World) (K : Act → World → Prop), K (a₁ k W) (wa k W) →
      assign.wpIn (Fence.wide.inRound l) m P (Exit.then K (fun _ _ _ => False)) { tmps := (ps.zip (xs k)).foldl (fun t (p, v) => t.setIfInBounds p v) a.tmps, defers := [] } W)
    (hbody : ∀ (l k : Nat) (W W2 : World), I k W2 → k < N → w.heap.size + 1 < W.heap.size → (wa k W).heap.size ≤ W2.heap.size → (∀ j, W.heap.size ≤ j → j < (wa k W).heap.size → W2.heap[j]? = (wa k W).heap[j]?) →
      body.wpIn (Fence.wide.inRound l) m P (rgPost w.heap.size (I (k + 1)) Kp W2) (a₁ k W) W2)
    (hdone : ∀ (D : Nat) (W : World), w.heap.size ≤ D → I N W → w.heap.size ≤ W.heap.size → W.heap[D]? = some (.deferred (some [])) →
      Q .normal { a with defers := { target := .collected D, args := #[] } :: a.defers } W) :
    (Code.rangeFunc g ps assign body).wpIn Fence.wide (m + 2) P Q a w := by
  refine wpIn_rangeFunc ?_
  intro fn hfn
  show ∃ l mark w₁ d w₁' f args w₂, (Instr.enterLoop fn a.tmps ps assign body none).run P w = .ok (l, mark) w₁ ∧ _
  obtain ⟨rec, hrec⟩ : ∃ rec : LoopState → Option Code → Loop, rec = fun st pe => { state := st, pending := pe, fn, tmps := a.tmps, params := ps, assign, body, defers := w.heap.size } := ⟨_, rfl⟩
  obtain ⟨W1, hW1⟩ : ∃ W1, (w.alloc (.deferred (some []))).alloc (.loop (rec .ready none)) = W1 := ⟨_, rfl⟩
  have hL1 : W1.heap[w.heap.size + 1]? = some (.loop (rec .ready none)) := by
    rw [← hW1]; have := World.alloc_heap_new (w.alloc (.deferred (some []))) (.loop (rec .ready none)); rwa [World.size_alloc] at this
  have hK1 : W1.heap[w.heap.size]? = some (.deferred (some [])) := by
    rw [← hW1]; exact (Below.heap_alloc _ _ _ (by simp)).trans (World.alloc_heap_new w _)
  have hb1 : Below w.heap.size w W1 := by rw [← hW1]; exact ((Below.refl _ w).alloc (Nat.le_refl _) _).alloc (by simp) _
  refine ⟨w.heap.size + 1, [{ target := .collected w.heap.size, args := #[] }], W1, { target := .fn (.func gf) lb, args := #[.func (.yield (w.heap.size + 1)) #[] #[]] }, W1, gf,
    #[.func (.yield (w.heap.size + 1)) #[] #[]] ++ lb, W1, ?_, ?_, fun _ _ => trivial, ?_, fun _ => by omega, ?_⟩
  · rw [← hW1, hrec]; exact run_enterLoop_outer _ _ _ _ _
  · simp only [resolve, hg]
    simp [go_sem]
  · simp [invoke, go_sem, eg]
  · refine (hit m (w.heap.size + 1)
      (fun k W => I k W ∧ w.heap.size ≤ W.heap.size ∧ W.heap[w.heap.size + 1]? = some (.loop (rec .ready none)) ∧ W.heap[w.heap.size]? = some (.deferred (some []))) ?_ ?_ W1 (hH W1 hb1)
      ⟨hI 0 w W1 h0 hb1, hb1.size, hL1, hK1⟩).mono ?_
    · rintro k W W' ⟨hi, hs, hl, hk⟩ hst
      have hq := hstep W W' hst
      exact ⟨hIs k W W' hi hst, Nat.le_trans hs hq.size, (hq.same _ (by omega) (Array.getElem?_eq_some_iff.1 hl).1).trans hl, (hq.same _ (Nat.le_refl _) (Array.getElem?_eq_some_iff.1 hk).1).trans hk⟩
    · rintro k W hlen ⟨hi, hs, hl, hk⟩
      have hlt : w.heap.size + 1 < W.heap.size := (Array.getElem?_eq_some_iff.1 hl).1
      have hy := run_yield (P := P) (args := xs k) hl (by rw [hrec]; exact hps k)
      rw [hrec] at hy
      have hla : (wa k W).heap[w.heap.size + 1]? = some (.loop (rec .ready none)) := ((hwa k W).block _ hlt).trans hl
      have hka : (wa k W).heap[w.heap.size]? = some (.deferred (some [])) := ((hwa k W).block _ (by omega)).trans hk
      have hia := hI k _ _ hi ((hwa k W).mono hs)
      have hba : Below w.heap.size W (wa k W) := (hwa k W).mono hs
      refine ⟨fn, _, assign, body, hy, roundIn_of_wpIn hfn (hassign _ k W _ ⟨_, run_beginRound hla (by rw [hrec]), ?_⟩)⟩
      have hlt0 := hlt
      have hsa := (hwa k W).size
      generalize hwv : wa k W = Wa at hla hka hia hba hsa ⊢
      replace hlt : w.heap.size + 1 < Wa.heap.size := by omega
      have hl2 : (Wa.putObj (w.heap.size + 1) (.loop { rec .ready none with state := .busy })).heap[w.heap.size + 1]? = some (.loop { rec .ready none with state := .busy }) := World.putObj_heap_same hlt
      have hk2 : (Wa.putObj (w.heap.size + 1) (.loop { rec .ready none with state := .busy })).heap[w.heap.size]? = some (.deferred (some [])) := (World.putObj_heap_other (by omega)).trans hka
      have hb2 : Below w.heap.size Wa (Wa.putObj (w.heap.size + 1) (.loop { rec .ready none with state := .busy })) := below_putObj Wa _ _ (by omega)
      refine wpIn_mono (hbody _ k W _ (hI k _ _ hia hb2) hlen hlt0 (by rw [hwv]; simp) (fun j hj hjl => by rw [hwv] at hjl ⊢; exact World.putObj_heap_other (by omega))) ?_
      rintro e a3 W3 hp
      cases e with
      | normal =>
        obtain ⟨hq, hi3, hp3⟩ := hp
        have hl3 := (hq.same _ (by omega) (Array.getElem?_eq_some_iff.1 hl2).1).trans hl2
        have hk3 := (hq.same _ (Nat.le_refl _) (Array.getElem?_eq_some_iff.1 hk2).1).trans hk2
        have hr := run_endRound (P := P) none hl3
        rw [hrec] at hr
        have hb3 : Below w.heap.size W3 (W3.putObj (w.heap.size + 1) (.loop (rec .ready none))) := below_putObj W3 _ _ (by omega)
        refine ⟨_, _, hr, rfl, ⟨?_, ?_, ?_, ?_⟩, ?_⟩
        · have := hI (k + 1) _ _ hi3 hb3; rw [hrec] at this; exact this
        · have := hq.size; simp at this ⊢; omega
        · have := World.putObj_heap_same (o := .loop (rec .ready none)) (Array.getElem?_eq_some_iff.1 hl3).1; rw [hrec] at this ⊢; exact this
        · exact (World.putObj_heap_other (by omega)).trans hk3
        · have := hKp _ _ _ _ (hba.trans hb2) hp3 hb3; rw [hrec] at this; exact this
      | _ => exact hp.elim
    · rintro e W2 ⟨⟨v, rfl⟩, hi, hs, hl, hk⟩
      refine ⟨none, _, by have := run_endLoop (P := P) hl (by rw [hrec]; simp); rw [hrec] at this; exact this, ?_⟩
      exact hdone _ _ (Nat.le_refl _) (hI N _ _ hi (below_putObj W2 _ _ (by omega))) (by simpa using hs) ((World.putObj_heap_other (by omega)).trans hk)
end Go

/- poly.Eval. -/
namespace Go.Proofs.YtgambglgkilgkaaGreatDoor
open Go.RowKit Att Att.CRing
attribute [local go_sem] Oper.semAt_some

/-- the world in the rounds of poly.Eval -/
structure Pv (w W : World) (x v : Ext) : Prop where
  g : Below w.heap.size w W
  big : w.heap.size + 3 ≤ W.heap.size
  x : W.heap[w.heap.size]? = some (.cells #[.int .u64 (Zm.i (Ext.a x)), .int .u64 (Zm.i (Ext.b x))] 30)
  r : W.heap[w.heap.size + 1]? = some (.cells #[.int .u64 0, .int .u64 0] 30)
  v : W.heap[w.heap.size + 1 + 1]? = some (.cells #[.int .u64 (Zm.i (Ext.a v)), .int .u64 (Zm.i (Ext.b v))] 30)
theorem Pv.below {w W W' : World} {x v : Ext} (h : Pv w W x v) (hb : Below (w.heap.size + 3) W W') : Pv w W' x v :=
  ⟨h.g.trans (hb.mono (by omega)), Nat.le_trans h.big hb.size, (hb.block _ (by omega)).trans h.x, (hb.block _ (by omega)).trans h.r, (hb.block _ (by omega)).trans h.v⟩
theorem Pv.gr {w W : World} {x v : Ext} (h : Pv w W x v) (g : Grow W) : Pv w (gr W g) x v := h.below ((gr_below W g).mono h.big)
theorem Pv.setV {w W : World} {x v : Ext} (h : Pv w W x v) (u : Ext) : Pv w (set2 W (w.heap.size + 1 + 1) u) x u :=
  ⟨(set2_below (Gn.of h.g) (by omega) u).below, by simpa [set2] using h.big, set2_keep _ h.x (by omega), set2_keep _ h.r (by omega), set2_same h.v u⟩

theorem pv_close {w W2 Wx : World} {x v : Ext} (h : Pv w W2 x v) (hB2 : w.heap.size + 3 < W2.heap.size) (hb : Below W2.heap.size W2 Wx) (u u' : Ext) (hu : u' = u) :
    KeepsBeyond (w.heap.size + 4) W2 (set2 Wx (w.heap.size + 1 + 1) u) ∧ Pv w (set2 Wx (w.heap.size + 1 + 1) u) x u' ∧ BkKp (w.heap.size + 3) w W2 (set2 Wx (w.heap.size + 1 + 1) u) := by
  subst hu
  have hs := hb.size
  refine ⟨⟨by simpa [set2] using hs, fun k hk hl => (set2_other (by omega) _).trans (hb.block k hl)⟩, (h.below (hb.mono h.big)).setV u', ?_, ?_, ?_⟩
  · simp [set2]; omega
  · exact (World.cell?_of_block (set2_other (by dsimp only; omega) _)).trans (hb.cell (by dsimp only; omega))
  · unfold set2; exact ((hb.mono (by have := h.big; omega)).setCell (by dsimp only; omega) _).setCell (by dsimp only; omega) _

end Go.Proofs.YtgambglgkilgkaaGreatDoor
