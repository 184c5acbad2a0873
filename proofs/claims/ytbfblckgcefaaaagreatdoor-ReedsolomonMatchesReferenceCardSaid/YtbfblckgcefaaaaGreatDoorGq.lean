/- The walks of DivRoot. -/
import Derived.Test.YtbfblckgcefaaaaGreatDoorGp
import Derived.Test.YtbfblckgcefaaaaGreatDoorGf
import Derived.BigFrameIn
import Derived.RegionIn
import Derived.BigRegionIn
import Derived.RangeFuncCalls
import Derived.Shelf.RegionOpen
namespace Go.Proofs.YtbfblckgcefaaaaGreatDoor
open Go.RowKit Att Att.CRing
/-- a slice and an element are returned -/
def RetSlE (w : World) (l : List Ext) (r : Ext) (e : Ending) (w' : World) : Prop := ∃ A n c, e = .returned (.tuple #[.slice A n c, .agg #[.int .u64 (Zm.i (Ext.a (r))), .int .u64 (Zm.i (Ext.b (r)))]]) ∧ Sl w' A n c l ∧ Gn w w'
/-- the quotient by X - x, untrimmed -/
def dq (l : List Ext) (x : Ext) : List Ext := tab (l.length - 1) fun i => ev (l.drop (i + 1)) x
theorem dq_len (l : List Ext) (x : Ext) : (dq l x).length = l.length - 1 := tab_length _ _
theorem dq_get {l : List Ext} (x : Ext) {i : Nat} (h : i + 1 < l.length) : (dq l x)[i]? = some (ev (l.drop (i + 1)) x) := by
  unfold dq tab; rw [List.getElem?_map, List.getElem?_range (by omega)]; rfl
/-- a row that is filled from its end -/
def Bi (res : List Ext) (k : Nat) : List Ext := List.replicate k 0 ++ res.drop k
theorem Bi_length (res : List Ext) {k : Nat} (h : k ≤ res.length) : (Bi res k).length = res.length := by simp [Bi]; omega
theorem Bi_start (res : List Ext) : Bi res res.length = List.replicate res.length 0 := by simp [Bi]
theorem Bi_end (res : List Ext) : Bi res 0 = res := by simp [Bi]
theorem Bi_get (res : List Ext) {k : Nat} : (Bi res (k + 1))[k]? = some 0 := by
  unfold Bi
  rw [List.getElem?_append_left (by simp), List.getElem?_replicate, if_pos (by omega)]
theorem Bi_set {res : List Ext} {k : Nat} {x : Ext} (h : res[k]? = some x) : (Bi res (k + 1)).set k x = Bi res k := by
  have hk : k < res.length := (List.getElem?_eq_some_iff.1 h).1
  have hx : res[k] = x := Option.some.inj ((List.getElem?_eq_getElem hk).symm.trans h)
  unfold Bi
  rw [List.drop_eq_getElem_cons hk, hx, List.replicate_succ', List.append_assoc, List.set_append_right _ _ (by simp)]
  simp
def slRel (B : Nat) (l : List Ext) : Rel := fun v _ y => Ow y B v l
theorem end_sl {W : World} {B : Nat} {Γ : List Ent} {V : Nat → Value} {N : Nat → Nat} {X : Nat → World} (h : ∀ e ∈ Γ, e.rel (V e.slot) (N e.slot) (X e.slot) ∧ Up W (X e.slot) ∧ W.heap.size ≤ N e.slot)
    {w : World} (hX : ∀ e ∈ Γ, Up (X e.slot) w) {s : Nat} {l : List Ext} (hs : ⟨s, slRel B l⟩ ∈ Γ) : Ow w B (V s) l := Ow.up (h _ hs).1 (Gn.of (hX _ hs))
theorem Ow.far {w : World} {base : Nat} {v : Value} {l : List Ext} (h : Ow w base v l) {w' : World} (hk : ∀ k, base ≤ k → k < w.heap.size → w'.heap[k]? = w.heap[k]?) : Ow w' base v l := by
  rcases h with ⟨h1, h2 | ⟨g, cap, cur, hv, hb, hg, hn, hc, hsz, htake⟩⟩
  · exact ⟨h1, .inl h2⟩
  · exact ⟨h1, .inr ⟨g, cap, cur, hv, hb, (hk g hb (blk_lt hg)).trans hg, hn, hc, hsz, htake⟩⟩
/-- the boxes x, r and v of DivRoot, and its row -/
structure Dv (w wr : World) (x r v : Ext) (q : List Ext) : Prop where
  g : Gn w wr
  x : wr.heap[w.heap.size]? = some (.cells #[.int .u64 (Zm.i (Ext.a x)), .int .u64 (Zm.i (Ext.b x))] 41)
  r : wr.heap[w.heap.size + 1]? = some (.cells #[.int .u64 (Zm.i (Ext.a r)), .int .u64 (Zm.i (Ext.b r))] 41)
  q : Blk wr (w.heap.size + 1 + 1) q
  v : wr.heap[w.heap.size + 1 + 1 + 1]? = some (.cells #[.int .u64 (Zm.i (Ext.a v)), .int .u64 (Zm.i (Ext.b v))] 41)
theorem Dv.up {w wr w2 : World} {x r v : Ext} {q : List Ext} (h : Dv w wr x r v q) (g : Gn wr w2) : Dv w w2 x r v q := ⟨h.g.trans g, g.block h.x, g.block h.r, h.q.up g, g.block h.v⟩
theorem Dv.setV {w wr : World} {x r v : Ext} {q : List Ext} (h : Dv w wr x r v q) (u : Ext) : Dv w (set2 wr (w.heap.size + 1 + 1 + 1) u) x r u q :=
  ⟨set2_below h.g (by omega) u, set2_keep _ h.x (by omega), set2_keep _ h.r (by omega), (set2_other (by omega) u).trans h.q, set2_same h.v u⟩
theorem Dv.setR {w wr : World} {x r v : Ext} {q : List Ext} (h : Dv w wr x r v q) (u : Ext) : Dv w (set2 wr (w.heap.size + 1) u) x u v q :=
  ⟨set2_below h.g (by omega) u, set2_keep _ h.x (by omega), set2_same h.r u, (set2_other (by omega) u).trans h.q, set2_keep _ h.v (by omega)⟩
theorem Dv.setQ {w wr : World} {x r v : Ext} {q : List Ext} (h : Dv w wr x r v q) {i : Nat} (hi : i < q.length) (u : Ext) : Dv w (setE wr (w.heap.size + 1 + 1) i u) x r v (q.set i u) :=
  ⟨setE_below h.g (by omega) u, (setE_other (by omega) u).trans h.x, (setE_other (by omega) u).trans h.r, h.q.set hi u, (setE_other (by omega) u).trans h.v⟩

end Go.Proofs.YtbfblckgcefaaaaGreatDoor

/- The walk of poly.DivRoot. -/
namespace Go.Proofs.YtbfblckgcefaaaaGreatDoor
open Go.RowKit Att Att.CRing
/-- a made row of zeros -/
def mkRel (m : Nat) : Rel := fun v n y => ∃ b, v = .slice (some ⟨b, 0, none⟩) m m ∧ n ≤ b ∧ Blk y b (List.replicate m 0)
theorem ex_mk {ops : Array Oper} {W : World} {Γ : List Ent} {a : Act} (d : Nat) (l c : Operand) (ty : TypeId) (pos : String) (aft : Array Edge) (m : Nat) (hl : ∀ V, (fill Γ V a).eval l = .int .i64 m) (hc : ∀ V, (fill Γ V a).eval c = .int .i64 m) (hm : m ≤ 1099511627776) :
    ExStep Tryz.prog ops W ⟨some d, .makeSlice 38 l c, ty, pos, aft, none⟩ Γ a (mkRel m) := by
  intro V N X hΓ g hX K hK
  refine wpList_mk l c m (hl V) (hc V) hm ?_
  refine wpList_nil ?_
  exact hK _ _ (Gn.al _).below ⟨_, rfl, Nat.le_refl _, hnew _ _⟩
theorem end_mkbox {W : World} {Γ : List Ent} {V : Nat → Value} {N : Nat → Nat} {X : Nat → World} (h : ∀ e ∈ Γ, e.rel (V e.slot) (N e.slot) (X e.slot) ∧ Up W (X e.slot) ∧ W.heap.size ≤ N e.slot)
    (hd : ∀ e ∈ Γ, ∀ e' ∈ Γ, e.slot ≠ e'.slot → (X e.slot).heap.size ≤ N e'.slot ∨ (X e'.slot).heap.size ≤ N e.slot)
    {w : World} (hX : ∀ e ∈ Γ, Up (X e.slot) w) (s t m : Nat) (hs : ⟨s, mkRel m⟩ ∈ Γ) (ht : ⟨t, newBox⟩ ∈ Γ) (hne : s ≠ t) :
    ∃ b c, (V s = .slice (some ⟨b, 0, none⟩) m m ∧ V t = .pointer (some ⟨c, 0, none⟩)) ∧ b ≠ c ∧ W.heap.size ≤ b ∧ W.heap.size ≤ c ∧ Blk w b (List.replicate m 0) ∧ w.heap[c]? = some zeroExt := by
  have h0 := h _ hs
  dsimp only at h0
  obtain ⟨⟨b, b1, b2, b3⟩, _, b4⟩ := h0
  obtain ⟨c, c1, c2, c3, c4, c5⟩ := end_box h hX ht
  have b5 := blk_lt b3
  refine ⟨b, c, ⟨b1, c1⟩, ?_, Nat.le_trans b4 b2, c2, b3.up (Gn.of (hX _ hs)), c3⟩
  have := hd _ hs _ ht hne
  dsimp only at this
  omega
/-- the boxes x, r and v of DivRoot, and its row -/
structure Dw (w wr : World) (bq bv : Nat) (x r v : Ext) (q : List Ext) : Prop where
  g : Gn w wr
  x : wr.heap[w.heap.size]? = some (.cells #[.int .u64 (Zm.i (Ext.a x)), .int .u64 (Zm.i (Ext.b x))] 41)
  r : wr.heap[w.heap.size + 1]? = some (.cells #[.int .u64 (Zm.i (Ext.a r)), .int .u64 (Zm.i (Ext.b r))] 41)
  q : Blk wr bq q
  v : wr.heap[bv]? = some (.cells #[.int .u64 (Zm.i (Ext.a v)), .int .u64 (Zm.i (Ext.b v))] 41)
  hq : w.heap.size + 1 < bq
  hv : w.heap.size + 1 < bv
  ne : bq ≠ bv
theorem Dw.up {w wr w2 : World} {bq bv : Nat} {x r v : Ext} {q : List Ext} (h : Dw w wr bq bv x r v q) (g : Gn wr w2) : Dw w w2 bq bv x r v q := ⟨h.g.trans g, g.block h.x, g.block h.r, h.q.up g, g.block h.v, h.hq, h.hv, h.ne⟩
theorem Dw.setV {w wr : World} {bq bv : Nat} {x r v : Ext} {q : List Ext} (h : Dw w wr bq bv x r v q) (u : Ext) : Dw w (set2 wr bv u) bq bv x r u q :=
  have h1 := h.hq; have h2 := h.hv; have h3 := h.ne
  ⟨set2_below h.g (by omega) u, set2_keep _ h.x (by omega), set2_keep _ h.r (by omega), (set2_other (by omega) u).trans h.q, set2_same h.v u, h1, h2, h3⟩
theorem Dw.setR {w wr : World} {bq bv : Nat} {x r v : Ext} {q : List Ext} (h : Dw w wr bq bv x r v q) (u : Ext) : Dw w (set2 wr (w.heap.size + 1) u) bq bv x u v q :=
  have h1 := h.hq; have h2 := h.hv; have h3 := h.ne
  ⟨set2_below h.g (by omega) u, set2_keep _ h.x (by omega), set2_same h.r u, (set2_other (by omega) u).trans h.q, set2_keep _ h.v (by omega), h1, h2, h3⟩
theorem Dw.setQ {w wr : World} {bq bv : Nat} {x r v : Ext} {q : List Ext} (h : Dw w wr bq bv x r v q) {i : Nat} (hi : i < q.length) (u : Ext) : Dw w (setE wr bq i u) bq bv x r v (q.set i u) :=
  have h1 := h.hq; have h2 := h.hv; have h3 := h.ne
  ⟨setE_below h.g (by omega) u, (setE_other (by omega) u).trans h.x, (setE_other (by omega) u).trans h.r, h.q.set hi u, (setE_other (by omega) u).trans h.v, h1, h2, h3⟩

end Go.Proofs.YtbfblckgcefaaaaGreatDoor

/- The range over slices.Backward, and poly.Eval. -/
namespace Go.Proofs.YtbfblckgcefaaaaGreatDoor
open Go.RowKit Att Att.CRing

/-- what the walk back through a slice asks of memory: the box of the slice, and the world of old -/
structure BkH (B : Nat) (sv : Value) (w W : World) : Prop where
  lt : B < W.heap.size
  c : W.cell? ⟨B, 0, none⟩ = some sv
  b : Below w.heap.size w W
def BkKp (B : Nat) (w W W' : World) : Prop := B < W'.heap.size ∧ W'.cell? ⟨B, 0, none⟩ = W.cell? ⟨B, 0, none⟩ ∧ Below w.heap.size W W'

attribute [local go_sem] Oper.semAt_some
set_option maxHeartbeats 1000000 in
theorem back_iter (B : Nat) (A : Option Addr) (n c : Nat) (l : List Ext) (w : World) (hl : Sl w A n c l) (hn : n ≤ 1000000) :
    IterOk Tryz.prog 102 #[.pointer (some ⟨B, 0, none⟩)] (fun k => #[.int .i64 ((n - 1 - k : Nat) : Int), .agg #[.int .u64 (Zm.i (Ext.a (co l (n - 1 - k)))), .int .u64 (Zm.i (Ext.b (co l (n - 1 - k))))]]) n (BkH B (.slice A n c) w) (fun W W' => W' = W) (BkKp B w) := by
  intro m r J hS hY W hH hJ
  refine callsIn_of_wp Tryz.func102 rfl trivial ?_ rfl
  simp only [Tryz.ntmps102, List.size_toArray, List.length_cons, List.length_nil, Nat.reduceAdd, Nat.reduceSub, Array.replicate_succ, Array.replicate_zero, List.push_toArray, List.append_toArray, List.nil_append, List.cons_append]
  obtain ⟨h1, h2, h3⟩ := id hH
  gi_wp2
  clear h1 h2 h3
  gi_loopw [3] (fun v wr => ∃ k j : Nat, k + j = n ∧ v = .int .i64 ((j : Int) - 1) ∧ J k wr ∧ BkH B (.slice A n c) w wr) (fun v _ => (intOf v + 1).toNat)
  case atStart => exact ⟨0, n, Nat.zero_add _, rfl, hJ, hH⟩
  case round =>
    obtain ⟨k, j, hkj, rfl, hJk, hHk⟩ := hrel
    obtain ⟨h1, h2, h3⟩ := id hHk
    cases j with
    | zero =>
      obtain rfl : k = n := by omega
      gi_wp2
      first | go_end0 | go_ret
      exact ⟨⟨_, rfl⟩, hJk⟩
    | succ j =>
      rw [show ((j + 1 : Nat) : Int) - 1 = (j : Int) from by omega]
      obtain ⟨b, o, y, he, hx, q1, q2, q3⟩ := (hl.up (Gn.of h3)).at_ (j := j) (by omega)
      subst he
      have hco : co l (n - 1 - k) = y := by rw [show n - 1 - k = j from by omega]; exact co_at hx
      have hidx : ((n - 1 - k : Nat) : Int) = (j : Int) := by omega
      obtain ⟨fn, tt, asg, bdy, hy, hr⟩ := hY k wr (by omega) hJk
      simp only [hco, hidx] at hy
      clear hY hco hidx hx
      gi_wp2
      refine hr.mono ?_
      rintro e W' ⟨rfl, hJ', hlt', hc', hb'⟩
      rw [h2] at hc'
      have hH2 : BkH B (.slice (some ⟨b, o, none⟩) n c) w W' := ⟨hlt', hc', h3.trans hb'⟩
      clear hr hy
      gi_wp2
      refine ⟨⟨k + 1, j, by omega, rfl, hJ', hH2⟩, by simp [intOf]⟩

theorem p_backward (A : Option Addr) (n c : Nat) (w : World) :
    Calls Tryz.prog 81 #[.slice A n c] w fun e w' => e = .returned (.func (.func 102) #[] #[.pointer (some ⟨w.heap.size, 0, none⟩)]) ∧ w' = w.alloc (.cells #[.slice A n c] 38) := by
  go_enter Tryz.func81, Tryz.ntmps81
  go_wp2_with fail
  go_ret
  exact ⟨rfl, rfl⟩
end Go.Proofs.YtbfblckgcefaaaaGreatDoor

/- The rule of XRg for a range whose loop variables lie in cells: the assignment may make memory. -/
namespace Go
open Go.RowKit
variable {P : Program}
/-- THE STATEMENT -/
theorem wp_range2 {g : Operand} {ps : Array Tmp} {assign body : Code} {Q : Exit → Act → World → Prop} {a : Act} {w : World} {m : Nat}
    {gf : Nat} {lb : Array Value} (hg : a.eval g = .func (.func gf) #[] lb) (eg : ∀ args w, (callFunc gf args).run P w = .ok (.enter gf args) w)
    {xs : Nat → Array Value} {N : Nat} {H : World → Prop} {Step Kp : World → World → Prop} (hit : IterOk P gf lb xs N H Step Kp) (hps : ∀ k, (xs k).size = ps.size)
    (hH : ∀ W, Below w.heap.size w W → H W)
    (hKp : ∀ A C D E, Below w.heap.size A C → Kp C D → Below w.heap.size D E → Kp A E)
    (I : Nat → World → Prop) (hI : ∀ k W W', I k W → Below w.heap.size W W' → I k W') (h0 : I 0 w)
    (hstep : ∀ W W', Step W W' → KeepsBeyond w.heap.size W W') (hIs : ∀ k W W', I k W → Step W W' → I k W')
    (a₁ : Nat → World → Act) (wa : Nat → World → World) (hwa : ∀ k W, Below W.heap.size W (wa k W))
    (hassign : ∀ (l k : Nat) (W : World) (K : Act → World → Prop), K (a₁ k W) (wa k W) →
      assign.wpIn (Fence.wide.inRound l) m P (Exit.then K (fun _ _ _ => False)) { tmps := (ps.zip (xs k)).foldl (fun t (p, v) => t.setIfInBounds p v) a.tmps, defers := [] } W)
    (hbody : ∀ (l k : Nat) (W W2 : World), I k W2 → k < N → w.heap.size + 1 < W.heap.size → (wa k W).heap.size ≤ W2.heap.size → (∀ j, W.heap.size ≤ j → j < (wa k W).heap.size → W2.heap[j]? = (wa k W).heap[j]?) →
      body.wpIn (Fence.wide.inRound l) m P (rgPost w.heap.size (I (k + 1)) Kp W2) (a₁ k W) W2)
    (hdone : ∀ (D : Nat) (W : World), w.heap.size ≤ D → I N W → w.heap.size ≤ W.heap.size → W.heap[D]? = some (.deferred (some [])) →
      Q .normal { a with defers := { target := .collected D, args := #[] } :: a.defers } W) :
    (Code.rangeFunc g ps assign body).wpIn Fence.wide (m + 2) P Q a w := by
  refine wpIn_rangeFunc ?_
  intro fn hfn
  show ∃ l mark w₁ d w₁' f args w₂, (Instr.enterLoop fn a.tmps ps assign body none).run P w = .ok (l, mark) w₁ ∧ _
  obtain ⟨rec, hrec⟩ : ∃ rec : LoopState → Option Code → Loop, rec = fun st pe => { state := st, pending := pe, fn, tmps := a.tmps, params := ps, assign, body, defers := w.heap.size } := ⟨_, rfl⟩
  obtain ⟨W1, hW1⟩ : ∃ W1, (w.alloc (.deferred (some []))).alloc (.loop (rec .ready none)) = W1 := ⟨_, rfl⟩
  have hL1 : W1.heap[w.heap.size + 1]? = some (.loop (rec .ready none)) := by
    rw [← hW1]; have := World.alloc_heap_new (w.alloc (.deferred (some []))) (.loop (rec .ready none)); rwa [World.size_alloc] at this
  have hK1 : W1.heap[w.heap.size]? = some (.deferred (some [])) := by
    rw [← hW1]; exact (Below.heap_alloc _ _ _ (by simp)).trans (World.alloc_heap_new w _)
  have hb1 : Below w.heap.size w W1 := by rw [← hW1]; exact ((Below.refl _ w).alloc (Nat.le_refl _) _).alloc (by simp) _
  refine ⟨w.heap.size + 1, [{ target := .collected w.heap.size, args := #[] }], W1, { target := .fn (.func gf) lb, args := #[.func (.yield (w.heap.size + 1)) #[] #[]] }, W1, gf,
    #[.func (.yield (w.heap.size + 1)) #[] #[]] ++ lb, W1, ?_, ?_, fun _ _ => trivial, ?_, fun _ => by omega, ?_⟩
  · rw [← hW1, hrec]; exact run_enterLoop_outer _ _ _ _ _
  · simp only [resolve, hg]
    simp [go_sem]
  · simp [invoke, go_sem, eg]
  · refine (hit m (w.heap.size + 1)
      (fun k W => I k W ∧ w.heap.size ≤ W.heap.size ∧ W.heap[w.heap.size + 1]? = some (.loop (rec .ready none)) ∧ W.heap[w.heap.size]? = some (.deferred (some []))) ?_ ?_ W1 (hH W1 hb1)
      ⟨hI 0 w W1 h0 hb1, hb1.size, hL1, hK1⟩).mono ?_
    · rintro k W W' ⟨hi, hs, hl, hk⟩ hst
      have hq := hstep W W' hst
      exact ⟨hIs k W W' hi hst, Nat.le_trans hs hq.size, (hq.same _ (by omega) (Array.getElem?_eq_some_iff.1 hl).1).trans hl, (hq.same _ (Nat.le_refl _) (Array.getElem?_eq_some_iff.1 hk).1).trans hk⟩
    · rintro k W hlen ⟨hi, hs, hl, hk⟩
      have hlt : w.heap.size + 1 < W.heap.size := (Array.getElem?_eq_some_iff.1 hl).1
      have hy := run_yield (P := P) (args := xs k) hl (by rw [hrec]; exact hps k)
      rw [hrec] at hy
      have hla : (wa k W).heap[w.heap.size + 1]? = some (.loop (rec .ready none)) := ((hwa k W).block _ hlt).trans hl
      have hka : (wa k W).heap[w.heap.size]? = some (.deferred (some [])) := ((hwa k W).block _ (by omega)).trans hk
      have hia := hI k _ _ hi ((hwa k W).mono hs)
      have hba : Below w.heap.size W (wa k W) := (hwa k W).mono hs
      refine ⟨fn, _, assign, body, hy, roundIn_of_wpIn hfn (hassign _ k W _ ⟨_, run_beginRound hla (by rw [hrec]), ?_⟩)⟩
      have hlt0 := hlt
      have hsa := (hwa k W).size
      generalize hwv : wa k W = Wa at hla hka hia hba hsa ⊢
      replace hlt : w.heap.size + 1 < Wa.heap.size := by omega
      have hl2 : (Wa.putObj (w.heap.size + 1) (.loop { rec .ready none with state := .busy })).heap[w.heap.size + 1]? = some (.loop { rec .ready none with state := .busy }) := World.putObj_heap_same hlt
      have hk2 : (Wa.putObj (w.heap.size + 1) (.loop { rec .ready none with state := .busy })).heap[w.heap.size]? = some (.deferred (some [])) := (World.putObj_heap_other (by omega)).trans hka
      have hb2 : Below w.heap.size Wa (Wa.putObj (w.heap.size + 1) (.loop { rec .ready none with state := .busy })) := below_putObj Wa _ _ (by omega)
      refine wpIn_mono (hbody _ k W _ (hI k _ _ hia hb2) hlen hlt0 (by rw [hwv]; simp) (fun j hj hjl => by rw [hwv] at hjl ⊢; exact World.putObj_heap_other (by omega))) ?_
      rintro e a3 W3 hp
      cases e with
      | normal =>
        obtain ⟨hq, hi3, hp3⟩ := hp
        have hl3 := (hq.same _ (by omega) (Array.getElem?_eq_some_iff.1 hl2).1).trans hl2
        have hk3 := (hq.same _ (Nat.le_refl _) (Array.getElem?_eq_some_iff.1 hk2).1).trans hk2
        have hr := run_endRound (P := P) none hl3
        rw [hrec] at hr
        have hb3 : Below w.heap.size W3 (W3.putObj (w.heap.size + 1) (.loop (rec .ready none))) := below_putObj W3 _ _ (by omega)
        refine ⟨_, _, hr, rfl, ⟨?_, ?_, ?_, ?_⟩, ?_⟩
        · have := hI (k + 1) _ _ hi3 hb3; rw [hrec] at this; exact this
        · have := hq.size; simp at this ⊢; omega
        · have := World.putObj_heap_same (o := .loop (rec .ready none)) (Array.getElem?_eq_some_iff.1 hl3).1; rw [hrec] at this ⊢; exact this
        · exact (World.putObj_heap_other (by omega)).trans hk3
        · have := hKp _ _ _ _ (hba.trans hb2) hp3 hb3; rw [hrec] at this; exact this
      | _ => exact hp.elim
    · rintro e W2 ⟨⟨v, rfl⟩, hi, hs, hl, hk⟩
      refine ⟨none, _, by have := run_endLoop (P := P) hl (by rw [hrec]; simp); rw [hrec] at this; exact this, ?_⟩
      exact hdone _ _ (Nat.le_refl _) (hI N _ _ hi (below_putObj W2 _ _ (by omega))) (by simpa using hs) ((World.putObj_heap_other (by omega)).trans hk)
end Go

/- poly.Eval. -/
namespace Go.Proofs.YtbfblckgcefaaaaGreatDoor
open Go.RowKit Att Att.CRing
attribute [local go_sem] Oper.semAt_some

/-- the world in the rounds of poly.Eval -/
structure Pv (w W : World) (x v : Ext) : Prop where
  g : Below w.heap.size w W
  big : w.heap.size + 3 ≤ W.heap.size
  x : W.heap[w.heap.size]? = some (.cells #[.int .u64 (Zm.i (Ext.a x)), .int .u64 (Zm.i (Ext.b x))] 41)
  r : W.heap[w.heap.size + 1]? = some (.cells #[.int .u64 0, .int .u64 0] 41)
  v : W.heap[w.heap.size + 1 + 1]? = some (.cells #[.int .u64 (Zm.i (Ext.a v)), .int .u64 (Zm.i (Ext.b v))] 41)
theorem Pv.below {w W W' : World} {x v : Ext} (h : Pv w W x v) (hb : Below (w.heap.size + 3) W W') : Pv w W' x v :=
  ⟨h.g.trans (hb.mono (by omega)), Nat.le_trans h.big hb.size, (hb.block _ (by omega)).trans h.x, (hb.block _ (by omega)).trans h.r, (hb.block _ (by omega)).trans h.v⟩
theorem Pv.gr {w W : World} {x v : Ext} (h : Pv w W x v) (g : Grow W) : Pv w (gr W g) x v := h.below ((gr_below W g).mono h.big)
theorem Pv.setV {w W : World} {x v : Ext} (h : Pv w W x v) (u : Ext) : Pv w (set2 W (w.heap.size + 1 + 1) u) x u :=
  ⟨(set2_below (Gn.of h.g) (by omega) u).below, by simpa [set2] using h.big, set2_keep _ h.x (by omega), set2_keep _ h.r (by omega), set2_same h.v u⟩

theorem pv_close {w W2 Wx : World} {x v : Ext} (h : Pv w W2 x v) (hB2 : w.heap.size + 3 < W2.heap.size) (hb : Below W2.heap.size W2 Wx) (u u' : Ext) (hu : u' = u) :
    KeepsBeyond (w.heap.size + 4) W2 (set2 Wx (w.heap.size + 1 + 1) u) ∧ Pv w (set2 Wx (w.heap.size + 1 + 1) u) x u' ∧ BkKp (w.heap.size + 3) w W2 (set2 Wx (w.heap.size + 1 + 1) u) := by
  subst hu
  have hs := hb.size
  refine ⟨⟨by simpa [set2] using hs, fun k hk hl => (set2_other (by omega) _).trans (hb.block k hl)⟩, (h.below (hb.mono h.big)).setV u', ?_, ?_, ?_⟩
  · simp [set2]; omega
  · exact (World.cell?_of_block (set2_other (by dsimp only; omega) _)).trans (hb.cell (by dsimp only; omega))
  · unfold set2; exact ((hb.mono (by have := h.big; omega)).setCell (by dsimp only; omega) _).setCell (by dsimp only; omega) _

set_option maxHeartbeats 2000000 in
theorem p_eval (A : Option Addr) (n c : Nat) (l : List Ext) (x : Ext) (w : World) (hl : Sl w A n c l) (hn : n ≤ 1000000) :
    Calls Tryz.prog 50 #[.slice A n c, .agg #[.int .u64 (Zm.i (Ext.a (x))), .int .u64 (Zm.i (Ext.b (x)))]] w fun e w' => e = .returned (.agg #[.int .u64 (Zm.i (Ext.a (ev l x))), .int .u64 (Zm.i (Ext.b (ev l x)))]) ∧ ∃ g, w' = gr w g := by
  refine calls_gr ?_
  refine (callsIn_wide (n := 9)).1 ?_
  refine callsIn_of_wp_marks Tryz.func50 rfl trivial ?_ rfl
  simp only [Tryz.ntmps50, List.size_toArray, List.length_cons, List.length_nil, Nat.reduceAdd, Nat.reduceSub, Array.replicate_succ, Array.replicate_zero, List.push_toArray, List.append_toArray, List.nil_append, List.cons_append]
  gi_wp2_with fail
  refine ⟨trivial, (callsIn_wide.2 (p_backward _ _ _ _)).mono ?_⟩
  rintro e w' ⟨rfl, rfl⟩
  have hE : Pv w (((w.alloc (.cells #[.int .u64 (Zm.i (Ext.a x)), .int .u64 (Zm.i (Ext.b x))] 41)).alloc (.cells #[.int .u64 0, .int .u64 0] 41)).alloc (.cells #[.int .u64 0, .int .u64 0] 41)) x 0 := by
    have h1 := hnew w (.cells #[.int .u64 (Zm.i (Ext.a x)), .int .u64 (Zm.i (Ext.b x))] 41)
    have h2 := hnew (w.alloc (.cells #[.int .u64 (Zm.i (Ext.a x)), .int .u64 (Zm.i (Ext.b x))] 41)) zeroExt
    have h3 := hnew ((w.alloc (.cells #[.int .u64 (Zm.i (Ext.a x)), .int .u64 (Zm.i (Ext.b x))] 41)).alloc zeroExt) zeroExt
    simp only [World.size_alloc] at h2 h3
    exact ⟨(((Gn.al _).trans (Gn.al _)).trans (Gn.al _)).below, by simp, ((Gn.al _).trans (Gn.al _)).block h1, (Gn.al _).block h2, h3⟩
  have hs : (((w.alloc (.cells #[.int .u64 (Zm.i (Ext.a x)), .int .u64 (Zm.i (Ext.b x))] 41)).alloc (.cells #[.int .u64 0, .int .u64 0] 41)).alloc (.cells #[.int .u64 0, .int .u64 0] 41)).heap.size = w.heap.size + 3 := by simp
  generalize ((w.alloc (.cells #[.int .u64 (Zm.i (Ext.a x)), .int .u64 (Zm.i (Ext.b x))] 41)).alloc (.cells #[.int .u64 0, .int .u64 0] 41)).alloc (.cells #[.int .u64 0, .int .u64 0] 41) = W0 at hE hs ⊢
  rw [hs]
  have hs1 : (W0.alloc (.cells #[.slice A n c] 38)).heap.size = w.heap.size + 4 := by simp [hs]
  have hE1 : Pv w (W0.alloc (.cells #[.slice A n c] 38)) x 0 := hE.below ((Gn.al _).below.mono (by omega))
  have hC : (W0.alloc (.cells #[.slice A n c] 38)).cell? ⟨w.heap.size + 3, 0, none⟩ = some (.slice A n c) := by
    have := hnew W0 (.cells #[.slice A n c] 38)
    rw [hs] at this
    exact obj_cell this 0 rfl
  generalize W0.alloc (.cells #[.slice A n c] 38) = W1 at *
  clear hE hs
  gi_wp2_with fail
  refine wp_range2 (m := 7) (gf := 102) (lb := #[.pointer (some ⟨w.heap.size + 3, 0, none⟩)]) rfl (fun _ _ => by kernel_rfl) (back_iter _ A n c l w hl hn) (fun _ => rfl) ?hH ?hKp
    (fun k W => (Pv w W x (ev (l.drop (n - k)) x)) ∧ W.cell? ⟨w.heap.size + 3, 0, none⟩ = some (.slice A n c) ∧ w.heap.size + 3 < W.heap.size) ?hI ?h0 ?hstep ?hIs
    (fun k W => ⟨#[.slice A n c, .agg #[.int .u64 (Zm.i (Ext.a (x))), .int .u64 (Zm.i (Ext.b (x)))], undef, .pointer (some ⟨w.heap.size, 0, none⟩), .pointer (some ⟨w.heap.size + 1, 0, none⟩), .pointer (some ⟨w.heap.size + 1 + 1, 0, none⟩), undef, .pointer (some ⟨W.heap.size, 0, none⟩), .slice A n c,
      .func (.func 102) #[] #[.pointer (some ⟨w.heap.size + 3, 0, none⟩)], .int .i64 ((n - 1 - k : Nat) : Int), .agg #[.int .u64 (Zm.i (Ext.a (co l (n - 1 - k)))), .int .u64 (Zm.i (Ext.b (co l (n - 1 - k))))], undef, undef, undef, undef, undef, undef], []⟩)
    (fun k W => W.alloc (.cells #[.int .u64 (Zm.i (Ext.a (co l (n - 1 - k)))), .int .u64 (Zm.i (Ext.b (co l (n - 1 - k))))] 41)) (fun k W => (Gn.al _).below) ?hassign ?hbody ?hdone
  case hH =>
    intro W hb
    rw [hs1] at hb
    exact ⟨by have := hb.size; omega, (hb.cell (by dsimp only; omega)).trans hC, hE1.g.trans (hb.mono (by omega))⟩
  case hKp =>
    rintro A' C D E' hA ⟨h1, h2, h3⟩ hD
    rw [hs1] at hA hD
    exact ⟨Nat.lt_of_lt_of_le h1 hD.size, (hD.cell (by dsimp only; omega)).trans (h2.trans (hA.cell (by dsimp only; omega))), ((hA.mono (by omega)).trans h3).trans (hD.mono (by omega))⟩
  case hI =>
    rintro k W W' ⟨h, h1, h2⟩ hb
    rw [hs1] at hb
    exact ⟨h.below (hb.mono (by omega)), (hb.cell (by dsimp only; omega)).trans h1, Nat.lt_of_lt_of_le h2 hb.size⟩
  case h0 =>
    refine ⟨?_, hC, by omega⟩
    rw [Nat.sub_zero, List.drop_of_length_le (by rw [hl.len]; exact Nat.le_refl _), ev_nil]
    exact hE1
  case hstep => rintro W W' rfl; exact KeepsBeyond.refl _ _
  case hIs => rintro k W W' h rfl; exact h
  case hassign =>
    intro r k W K hK
    simp
    gi_wp2
    exact hK
  case hbody =>
    rintro r k W W2 ⟨h, hB, hB2⟩ hk hlt hsz hW
    have ha := (hW W.heap.size (Nat.le_refl _) (by simp)).trans (hnew W _)
    have hj := ev_drop (l := l) (i := n - 1 - k) (y := co l (n - 1 - k)) (by rw [co_get _ _ (by rw [hl.len]; omega)]; exact List.getElem?_eq_getElem _) x
    rw [show n - 1 - k + 1 = n - k from by omega] at hj
    have HJ := Lib.hid hj
    clear hj hsz hW
    have hend := fun Wx hb => pv_close (w := w) (W2 := W2) (Wx := Wx) h hB2 hb
    rw [show n - (k + 1) = n - 1 - k from by omega]
    generalize co l (n - 1 - k) = y at *
    generalize ev (l.drop (n - 1 - k)) x = z at *
    generalize ev (l.drop (n - k)) x = v at *
    have hd : Pv w W2.drew x v := ⟨⟨h.g.os, h.g.tape, h.g.output, h.g.size, h.g.block⟩, h.big, h.x, h.r, h.v⟩
    have ha2 : W2.drew.heap[W.heap.size]? = _ := ha
    have d1 := box_a hd.x
    have d2 := box_b hd.x
    have d3 := box_a hd.v
    have d4 := box_b hd.v
    have d5 := box_a ha2
    have d6 := box_b ha2
    have d7 := blk_lt hd.x
    have d8 := blk_lt hd.v
    have d9 := blk_lt ha2
    have hup : Up W2 W2.drew := ⟨rfl, rfl, rfl, Nat.le_refl _, fun _ _ => rfl⟩
    have hmx : Tryz.prog.follows .mixedOrders = true := by kernel_rfl
    gi_wp2_with fail
    gi_region_with_o (first
      | (refine ⟨trivial, (CallsIn.inRound r (callsIn_wide.2 (e_mul v x _))).mono ?_⟩
         rintro e w' ⟨rfl, g, rfl⟩
         have hd2 := hd.gr g
         have ha3 := (Gn.of (gr_below W2.drew g)).block ha2
         have hup2 := hup.of_gr g
         generalize gr W2.drew g = Wa at hd2 ha3 hup2 ⊢
         have u3 := box_a hd2.v
         have u4 := box_b hd2.v
         have u5 := box_a ha3
         have u6 := box_b ha3
         have u7 := blk_lt hd2.v
         have u8 := blk_lt ha3)
      | (refine ⟨trivial, (CallsIn.inRound r (callsIn_wide.2 (e_add (v * x) y _))).mono ?_⟩
         rintro e w' ⟨rfl, g2, rfl⟩
         have hd3 := hd2.gr g2
         have hup3 := hup2.of_gr g2
         generalize gr Wa g2 = Wb at hd3 hup3 ⊢
         have y1 := box_a hd3.v
         have y2 := box_b hd3.v
         have y3 := box_fz (i := 0) hd3.v
         have y4 := box_fz (i := 1) hd3.v
         have y5 := blk_lt hd3.v))
    all_goals (gi_wp2_with fail; obtain ⟨e1, e2, e3⟩ := hend _ hup3 (v * x + y) z HJ.out; exact ⟨by rw [hs1]; exact e1, ⟨e2, e3.2.1.trans hB, e3.1⟩, e3⟩)
  case hdone =>
    rintro D W hD ⟨h, _, _⟩ hsz hW
    rw [Nat.sub_self, List.drop_zero] at h
    rw [hs1] at hD hsz
    have c1 := box_a h.v
    have c2 := box_b h.v
    have c3 := obj_cell h.r 0 rfl
    have c4 := obj_cell h.r 1 rfl
    have c5 := box_fz (i := 0) h.r
    have c6 := box_fz (i := 1) h.r
    gi_wp2
    have hW2 : (set2 W (w.heap.size + 1) (ev l x)).heap[D]? = some (.deferred (some [])) := (set2_other (by omega) _).trans hW
    have hR := set2_same h.r (ev l x)
    have hg := set2_below (W := w) (Gn.of h.g) (b := w.heap.size + 1) (by omega) (ev l x)
    have hRp : ((set2 W (w.heap.size + 1) (ev l x)).putObj D (.deferred none)).heap[w.heap.size + 1]? = _ := (World.putObj_heap_other (by omega)).trans hR
    have hca := box_a hRp
    have hcb := box_b hRp
    unfold set2 at hW2 hca hcb hg
    refine ⟨by simp, .inl ⟨_, _, rfl, run_takeDeferred hW2, ?_⟩⟩
    exact ⟨.agg #[.int .u64 (Zm.i (Ext.a (ev l x))), .int .u64 (Zm.i (Ext.b (ev l x)))], by simp [results, Tryz.results50, go_sem, hca, hcb], rfl, hg.below.trans (below_putObj _ _ _ (by omega))⟩

end Go.Proofs.YtbfblckgcefaaaaGreatDoor
