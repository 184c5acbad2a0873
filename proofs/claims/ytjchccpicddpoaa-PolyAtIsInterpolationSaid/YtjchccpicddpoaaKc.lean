/- The contracts of package poly and of its reference, in the form that a flow asks for. -/
import Derived.Test.YtjchccpicddpoaaFx
import Derived.Test.YtjchccpicddpoaaPw13
namespace Go.Proofs.Ytjchccpicddpoaa
open Go.RowKit Att Att.CRing
theorem RetSl.ans {w w' : World} {l : List Ext} {e : Ending} (h : RetSl w l e w') : Ans (sv l) w e w' := by
  obtain ⟨A, n, c, rfl, hs, g⟩ := h
  exact ⟨_, rfl, g.below, A, n, c, rfl, hs⟩
theorem RetSl.is {w w' : World} {l : List Ext} {e : Ending} (h : RetSl w l e w') : ∃ v, e = .returned v ∧ isSl l v w' ∧ Gn w w' := by
  obtain ⟨A, n, c, rfl, hs, g⟩ := h
  exact ⟨_, rfl, ⟨A, n, c, rfl, hs⟩, g⟩
theorem isSl.gn {l : List Ext} {v : Value} {x w : World} (h : isSl l v x) (g : Gn x w) : isSl l v w := h.up g.below
theorem known_ans {w w' : World} {c : Value} {e : Ending} (h : e = .returned c ∧ ∃ g, w' = gr w g) : Ans (fun v _ _ => v = c) w e w' := by
  obtain ⟨rfl, g, rfl⟩ := h
  exact ⟨_, rfl, Up.gr w g, rfl⟩
theorem Blk.two {w : World} (x y : Ext) : Blk (w.alloc (.cells #[.int .u64 (Zm.i (Ext.a x)), .int .u64 (Zm.i (Ext.b x)), .int .u64 (Zm.i (Ext.a y)), .int .u64 (Zm.i (Ext.b y))] 25)) w.heap.size [x, y] := hnew w _
theorem sl_two {w : World} (x y : Ext) : isSl [x, y] (.slice (some ⟨w.heap.size, 0, none⟩) 2 2) (w.alloc (.cells #[.int .u64 (Zm.i (Ext.a x)), .int .u64 (Zm.i (Ext.b x)), .int .u64 (Zm.i (Ext.a y)), .int .u64 (Zm.i (Ext.b y))] 25)) := ⟨_, _, _, rfl, (Blk.two x y).sl (by simp)⟩
theorem sl_one {w : World} (x : Ext) : isSl [x] (.slice (some ⟨w.heap.size, 0, none⟩) 1 1) (w.alloc (.cells #[.int .u64 (Zm.i (Ext.a x)), .int .u64 (Zm.i (Ext.b x))] 25)) := ⟨_, _, _, rfl, (Blk.one x).sl (by simp)⟩
theorem k_padd {l k : List Ext} (hl : l.length ≤ 1000000) (hk : k.length ≤ 1000000) : ∀ u v w, isSl l u w → isSl k v w → Calls Try.prog 19 #[u, v] w (Ans (sv (trim (padd l k))) w) := by
  rintro u v w ⟨A, n, c, rfl, h1⟩ ⟨B, m, d, rfl, h2⟩
  obtain rfl := h1.len
  obtain rfl := h2.len
  exact (p_addL A B _ c _ d l k w h1 h2 hl hk).mono fun e w' h => h.ans
theorem k_psub {l k : List Ext} (hl : l.length ≤ 1000000) (hk : k.length ≤ 1000000) : ∀ u v w, isSl l u w → isSl k v w → Calls Try.prog 21 #[u, v] w (Ans (sv (trim (psub l k))) w) := by
  rintro u v w ⟨A, n, c, rfl, h1⟩ ⟨B, m, d, rfl, h2⟩
  obtain rfl := h1.len
  obtain rfl := h2.len
  exact (p_subL A B _ c _ d l k w h1 h2 hl hk).mono fun e w' h => h.ans
theorem k_pmul {l k : List Ext} (hl : l.length ≤ 1000000) (hk : k.length ≤ 1000000) : ∀ u v w, isSl l u w → isSl k v w → Calls Try.prog 23 #[u, v] w (Ans (sv (trim (pmul l k))) w) := by
  rintro u v w ⟨A, n, c, rfl, h1⟩ ⟨B, m, d, rfl, h2⟩
  obtain rfl := h1.len
  obtain rfl := h2.len
  exact (p_mulL A B _ c _ d l k w h1 h2 hl hk).mono fun e w' h => h.ans
theorem k_xadd {l k : List Ext} (hl : l.length ≤ 1000000) (hk : k.length ≤ 1000000) : ∀ u v w, isSl l u w → isSl k v w → Calls Try.prog 20 #[u, v] w (Ans (sv (trim (padd l k))) w) := by
  rintro u v w ⟨A, n, c, rfl, h1⟩ ⟨B, m, d, rfl, h2⟩
  obtain rfl := h1.len
  obtain rfl := h2.len
  exact (x_addL A B _ c _ d l k w h1 h2 hl hk).mono fun e w' h => h.ans
theorem k_xsub {l k : List Ext} (hl : l.length ≤ 1000000) (hk : k.length ≤ 1000000) : ∀ u v w, isSl l u w → isSl k v w → Calls Try.prog 22 #[u, v] w (Ans (sv (trim (psub l k))) w) := by
  rintro u v w ⟨A, n, c, rfl, h1⟩ ⟨B, m, d, rfl, h2⟩
  obtain rfl := h1.len
  obtain rfl := h2.len
  exact (x_subL A B _ c _ d l k w h1 h2 hl hk).mono fun e w' h => h.ans
theorem k_xmul {l k : List Ext} (hl : l.length ≤ 1000000) (hk : k.length ≤ 1000000) : ∀ u v w, isSl l u w → isSl k v w → Calls Try.prog 24 #[u, v] w (Ans (sv (trim (pmul l k))) w) := by
  rintro u v w ⟨A, n, c, rfl, h1⟩ ⟨B, m, d, rfl, h2⟩
  obtain rfl := h1.len
  obtain rfl := h2.len
  exact (x_mulL A B _ c _ d l k w h1 h2 hl hk).mono fun e w' h => h.ans
theorem k_psca {l : List Ext} {x : Ext} (hl : l.length ≤ 1000000) : ∀ u v w, isSl l u w → isV (.agg #[.int .u64 (Zm.i (Ext.a (x))), .int .u64 (Zm.i (Ext.b (x)))]) v w → Calls Try.prog 25 #[u, v] w (Ans (sv (trim (psca l x))) w) := by
  rintro u v w ⟨A, n, c, rfl, h1⟩ rfl
  obtain rfl := h1.len
  exact (p_scale A _ c l x w h1 hl).mono fun e w' h => h.ans
theorem k_xsca {l : List Ext} {x : Ext} (hl : l.length ≤ 1000000) : ∀ u v w, isSl l u w → isV (.agg #[.int .u64 (Zm.i (Ext.a (x))), .int .u64 (Zm.i (Ext.b (x)))]) v w → Calls Try.prog 26 #[u, v] w (Ans (sv (trim (psca l x))) w) := by
  rintro u v w ⟨A, n, c, rfl, h1⟩ rfl
  obtain rfl := h1.len
  exact (x_scale A _ c l x w h1 hl).mono fun e w' h => h.ans
theorem k_pev {l : List Ext} {x y : Ext} (hl : l.length ≤ 1000000) (hy : ev l x = y) : ∀ u v w, isSl l u w → isV (.agg #[.int .u64 (Zm.i (Ext.a (x))), .int .u64 (Zm.i (Ext.b (x)))]) v w → Calls Try.prog 27 #[u, v] w (Ans (fun v _ _ => v = .agg #[.int .u64 (Zm.i (Ext.a (y))), .int .u64 (Zm.i (Ext.b (y)))]) w) := by
  subst hy
  rintro u v w ⟨A, n, c, rfl, h1⟩ rfl
  obtain rfl := h1.len
  exact (p_eval A _ c l x w h1 hl).mono fun e w' h => known_ans h
theorem k_xev {l : List Ext} {x y : Ext} (hl : l.length ≤ 1000000) (hy : ev l x = y) : ∀ u v w, isSl l u w → isV (.agg #[.int .u64 (Zm.i (Ext.a (x))), .int .u64 (Zm.i (Ext.b (x)))]) v w → Calls Try.prog 28 #[u, v] w (Ans (fun v _ _ => v = .agg #[.int .u64 (Zm.i (Ext.a (y))), .int .u64 (Zm.i (Ext.b (y)))]) w) := by
  subst hy
  rintro u v w ⟨A, n, c, rfl, h1⟩ rfl
  obtain rfl := h1.len
  exact (x_eval A _ c l x w h1 hl).mono fun e w' h => known_ans h
theorem k_ptrim {l : List Ext} (hl : l.length ≤ 1000000) : ∀ u w, isSl l u w → Calls Try.prog 15 #[u] w (Ans (sv (trim l)) w) := by
  rintro u w ⟨A, n, c, rfl, h1⟩
  obtain rfl := h1.len
  exact (p_trim A _ c l w h1 (by omega)).mono fun e w' h => h.ans
theorem k_xtrim {l : List Ext} (hl : l.length ≤ 1000000) : ∀ u w, isSl l u w → Calls Try.prog 16 #[u] w (Ans (sv (trim l)) w) := by
  rintro u w ⟨A, n, c, rfl, h1⟩
  obtain rfl := h1.len
  exact (x_trim A _ c l w h1 (by omega)).mono fun e w' h => h.ans
theorem k_pdeg {l : List Ext} {z : Int} (hl : l.length ≤ 1000000) (hz : ((trim l).length : Int) - 1 = z) : ∀ u w, isSl l u w → Calls Try.prog 17 #[u] w (Ans (fun v _ _ => v = .int .i64 z) w) := by
  subst hz
  rintro u w ⟨A, n, c, rfl, h1⟩
  obtain rfl := h1.len
  exact (p_degree A _ c l w h1 (by omega)).mono fun e w' h => known_ans h
theorem k_xdeg {l : List Ext} {z : Int} (hl : l.length ≤ 1000000) (hz : ((trim l).length : Int) - 1 = z) : ∀ u w, isSl l u w → Calls Try.prog 18 #[u] w (Ans (fun v _ _ => v = .int .i64 z) w) := by
  subst hz
  rintro u w ⟨A, n, c, rfl, h1⟩
  obtain rfl := h1.len
  exact (x_degree A _ c l w h1 (by omega)).mono fun e w' h => known_ans h
theorem k_pdiv {l : List Ext} {x : Ext} (hl : l.length ≤ 1000000) : ∀ u v w, isSl l u w → isV (.agg #[.int .u64 (Zm.i (Ext.a (x))), .int .u64 (Zm.i (Ext.b (x)))]) v w → Calls Try.prog 29 #[u, v] w (Ans (svE (trim (dq l x)) (ev l x)) w) := by
  rintro u v w ⟨A, n, c, rfl, h1⟩ rfl
  obtain rfl := h1.len
  refine (p_divRoot A _ c l x w h1 hl).mono ?_
  rintro e w' ⟨A', n', c', rfl, hs, g⟩
  exact ⟨_, rfl, g.below, A', n', c', rfl, hs⟩
theorem k_xdiv {l : List Ext} {x : Ext} (hl : l.length ≤ 1000000) : ∀ u v w, isSl l u w → isV (.agg #[.int .u64 (Zm.i (Ext.a (x))), .int .u64 (Zm.i (Ext.b (x)))]) v w → Calls Try.prog 30 #[u, v] w (Ans (svE (trim (dq l x)) (ev l x)) w) := by
  rintro u v w ⟨A, n, c, rfl, h1⟩ rfl
  obtain rfl := h1.len
  refine (x_divRoot A _ c l x w h1 hl).mono ?_
  rintro e w' ⟨A', n', c', rfl, hs, g⟩
  exact ⟨_, rfl, g.below, A', n', c', rfl, hs⟩
theorem k_proots {l k : List Ext} (hl : l.length ≤ 1000000) (hk : k.length ≤ 1000000) : ∀ u v w, isSl l u w → isSl k v w → Calls Try.prog 31 #[u, v] w (Ans (si (rts l k k.length)) w) := by
  rintro u v w ⟨A, n, c, rfl, h1⟩ ⟨B, m, d, rfl, h2⟩
  obtain rfl := h1.len
  obtain rfl := h2.len
  refine (p_roots A _ c l B _ d k w h1 h2 hl hk).mono ?_
  rintro e w' ⟨A', c', rfl, hs, g⟩
  exact ⟨_, rfl, g.below, A', _, c', rfl, hs⟩
theorem k_xroots {l k : List Ext} (hl : l.length ≤ 1000000) (hk : k.length ≤ 1000000) : ∀ u v w, isSl l u w → isSl k v w → Calls Try.prog 32 #[u, v] w (Ans (si (rts l k k.length)) w) := by
  rintro u v w ⟨A, n, c, rfl, h1⟩ ⟨B, m, d, rfl, h2⟩
  obtain rfl := h1.len
  obtain rfl := h2.len
  refine (x_roots A _ c l B _ d k w h1 h2 hl hk).mono ?_
  rintro e w' ⟨A', c', rfl, hs, g⟩
  exact ⟨_, rfl, g.below, A', _, c', rfl, hs⟩
theorem k_same {l k : List Ext} {b : Bool} (hb : decide (l = k) = b) : ∀ u v w, isSl l u w → isSl k v w → Calls Try.prog 14 #[u, v] w (Ans (fun v _ _ => v = .bool b) w) := by
  subst hb
  rintro u v w ⟨A, n, c, rfl, h1⟩ ⟨B, m, d, rfl, h2⟩
  exact (p_same A B _ c _ d l k w h1 h2).mono fun e w' h => known_ans h
theorem k_ints {l : List Int} (hl : l.length ≤ 1000) : ∀ u w, isSi l u w → Calls Try.prog 44 #[u] w (Ans (sv (l.map int)) w) := by
  rintro u w ⟨A, n, c, rfl, h1⟩
  obtain rfl := h1.len
  exact (o_ints A _ c l w h1 hl).mono fun e w' h => h.ans
end Go.Proofs.Ytjchccpicddpoaa
