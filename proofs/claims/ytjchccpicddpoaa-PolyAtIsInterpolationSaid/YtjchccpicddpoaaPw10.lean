/- poly.Eval. -/
import Derived.Test.YtjchccpicddpoaaPw9
import Derived.Test.YtjchccpicddpoaaRg2
import Derived.RangeFuncCalls
import Derived.Shelf.RegionOpen
namespace Go.Proofs.Ytjchccpicddpoaa
open Go.RowKit Att Att.CRing
attribute [local go_sem] Oper.semAt_some

/-- the world in the rounds of poly.Eval -/
structure Pv (w W : World) (x v : Ext) : Prop where
  g : Below w.heap.size w W
  big : w.heap.size + 3 ≤ W.heap.size
  x : W.heap[w.heap.size]? = some (.cells #[.int .u64 (Zm.i (Ext.a x)), .int .u64 (Zm.i (Ext.b x))] 25)
  r : W.heap[w.heap.size + 1]? = some (.cells #[.int .u64 0, .int .u64 0] 25)
  v : W.heap[w.heap.size + 1 + 1]? = some (.cells #[.int .u64 (Zm.i (Ext.a v)), .int .u64 (Zm.i (Ext.b v))] 25)
theorem Pv.below {w W W' : World} {x v : Ext} (h : Pv w W x v) (hb : Below (w.heap.size + 3) W W') : Pv w W' x v :=
  ⟨h.g.trans (hb.mono (by omega)), Nat.le_trans h.big hb.size, (hb.block _ (by omega)).trans h.x, (hb.block _ (by omega)).trans h.r, (hb.block _ (by omega)).trans h.v⟩
theorem Pv.gr {w W : World} {x v : Ext} (h : Pv w W x v) (g : Grow W) : Pv w (gr W g) x v := h.below ((gr_below W g).mono h.big)
theorem Pv.setV {w W : World} {x v : Ext} (h : Pv w W x v) (u : Ext) : Pv w (set2 W (w.heap.size + 1 + 1) u) x u :=
  ⟨(set2_below (Gn.of h.g) (by omega) u).below, by simpa [set2] using h.big, set2_keep _ h.x (by omega), set2_keep _ h.r (by omega), set2_same h.v u⟩

theorem pv_close {w W2 Wx : World} {x v : Ext} (h : Pv w W2 x v) (hB2 : w.heap.size + 3 < W2.heap.size) (hb : Below W2.heap.size W2 Wx) (u u' : Ext) (hu : u' = u) :
    KeepsBeyond (w.heap.size + 4) W2 (set2 Wx (w.heap.size + 1 + 1) u) ∧ Pv w (set2 Wx (w.heap.size + 1 + 1) u) x u' ∧ BkKp (w.heap.size + 3) w W2 (set2 Wx (w.heap.size + 1 + 1) u) := by
  subst hu
  have hs := hb.size
  refine ⟨⟨by simpa [set2] using hs, fun k hk hl => (set2_other (by omega) _).trans (hb.block k hl)⟩, (h.below (hb.mono h.big)).setV u', ?_, ?_, ?_⟩
  · simp [set2]; omega
  · exact (World.cell?_of_block (set2_other (by dsimp only; omega) _)).trans (hb.cell (by dsimp only; omega))
  · unfold set2; exact ((hb.mono (by have := h.big; omega)).setCell (by dsimp only; omega) _).setCell (by dsimp only; omega) _

set_option maxHeartbeats 2000000 in
theorem p_eval (A : Option Addr) (n c : Nat) (l : List Ext) (x : Ext) (w : World) (hl : Sl w A n c l) (hn : n ≤ 1000000) :
    Calls Try.prog 27 #[.slice A n c, .agg #[.int .u64 (Zm.i (Ext.a (x))), .int .u64 (Zm.i (Ext.b (x)))]] w fun e w' => e = .returned (.agg #[.int .u64 (Zm.i (Ext.a (ev l x))), .int .u64 (Zm.i (Ext.b (ev l x)))]) ∧ ∃ g, w' = gr w g := by
  refine calls_gr ?_
  refine (callsIn_wide (n := 9)).1 ?_
  refine callsIn_of_wp_marks Try.func27 rfl trivial ?_ rfl
  simp only [Try.ntmps27, List.size_toArray, List.length_cons, List.length_nil, Nat.reduceAdd, Nat.reduceSub, Array.replicate_succ, Array.replicate_zero, List.push_toArray, List.append_toArray, List.nil_append, List.cons_append]
  gi_wp2_with fail
  refine ⟨trivial, (callsIn_wide.2 (p_backward _ _ _ _)).mono ?_⟩
  rintro e w' ⟨rfl, rfl⟩
  have hE : Pv w (((w.alloc (.cells #[.int .u64 (Zm.i (Ext.a x)), .int .u64 (Zm.i (Ext.b x))] 25)).alloc (.cells #[.int .u64 0, .int .u64 0] 25)).alloc (.cells #[.int .u64 0, .int .u64 0] 25)) x 0 := by
    have h1 := hnew w (.cells #[.int .u64 (Zm.i (Ext.a x)), .int .u64 (Zm.i (Ext.b x))] 25)
    have h2 := hnew (w.alloc (.cells #[.int .u64 (Zm.i (Ext.a x)), .int .u64 (Zm.i (Ext.b x))] 25)) zeroExt
    have h3 := hnew ((w.alloc (.cells #[.int .u64 (Zm.i (Ext.a x)), .int .u64 (Zm.i (Ext.b x))] 25)).alloc zeroExt) zeroExt
    simp only [World.size_alloc] at h2 h3
    exact ⟨(((Gn.al _).trans (Gn.al _)).trans (Gn.al _)).below, by simp, ((Gn.al _).trans (Gn.al _)).block h1, (Gn.al _).block h2, h3⟩
  have hs : (((w.alloc (.cells #[.int .u64 (Zm.i (Ext.a x)), .int .u64 (Zm.i (Ext.b x))] 25)).alloc (.cells #[.int .u64 0, .int .u64 0] 25)).alloc (.cells #[.int .u64 0, .int .u64 0] 25)).heap.size = w.heap.size + 3 := by simp
  generalize ((w.alloc (.cells #[.int .u64 (Zm.i (Ext.a x)), .int .u64 (Zm.i (Ext.b x))] 25)).alloc (.cells #[.int .u64 0, .int .u64 0] 25)).alloc (.cells #[.int .u64 0, .int .u64 0] 25) = W0 at hE hs ⊢
  rw [hs]
  have hs1 : (W0.alloc (.cells #[.slice A n c] 22)).heap.size = w.heap.size + 4 := by simp [hs]
  have hE1 : Pv w (W0.alloc (.cells #[.slice A n c] 22)) x 0 := hE.below ((Gn.al _).below.mono (by omega))
  have hC : (W0.alloc (.cells #[.slice A n c] 22)).cell? ⟨w.heap.size + 3, 0, none⟩ = some (.slice A n c) := by
    have := hnew W0 (.cells #[.slice A n c] 22)
    rw [hs] at this
    exact obj_cell this 0 rfl
  generalize W0.alloc (.cells #[.slice A n c] 22) = W1 at *
  clear hE hs
  gi_wp2_with fail
  refine wp_range2 (m := 7) (gf := 66) (lb := #[.pointer (some ⟨w.heap.size + 3, 0, none⟩)]) rfl (fun _ _ => by kernel_rfl) (back_iter _ A n c l w hl hn) (fun _ => rfl) ?hH ?hKp
    (fun k W => (Pv w W x (ev (l.drop (n - k)) x)) ∧ W.cell? ⟨w.heap.size + 3, 0, none⟩ = some (.slice A n c) ∧ w.heap.size + 3 < W.heap.size) ?hI ?h0 ?hstep ?hIs
    (fun k W => ⟨#[.slice A n c, .agg #[.int .u64 (Zm.i (Ext.a (x))), .int .u64 (Zm.i (Ext.b (x)))], undef, .pointer (some ⟨w.heap.size, 0, none⟩), .pointer (some ⟨w.heap.size + 1, 0, none⟩), .pointer (some ⟨w.heap.size + 1 + 1, 0, none⟩), undef, .pointer (some ⟨W.heap.size, 0, none⟩), .slice A n c,
      .func (.func 66) #[] #[.pointer (some ⟨w.heap.size + 3, 0, none⟩)], .int .i64 ((n - 1 - k : Nat) : Int), .agg #[.int .u64 (Zm.i (Ext.a (co l (n - 1 - k)))), .int .u64 (Zm.i (Ext.b (co l (n - 1 - k))))], undef, undef, undef, undef, undef, undef], []⟩)
    (fun k W => W.alloc (.cells #[.int .u64 (Zm.i (Ext.a (co l (n - 1 - k)))), .int .u64 (Zm.i (Ext.b (co l (n - 1 - k))))] 25)) (fun k W => (Gn.al _).below) ?hassign ?hbody ?hdone
  case hH =>
    intro W hb
    rw [hs1] at hb
    exact ⟨by have := hb.size; omega, (hb.cell (by dsimp only; omega)).trans hC, hE1.g.trans (hb.mono (by omega))⟩
  case hKp =>
    rintro A' C D E' hA ⟨h1, h2, h3⟩ hD
    rw [hs1] at hA hD
    exact ⟨Nat.lt_of_lt_of_le h1 hD.size, (hD.cell (by dsimp only; omega)).trans (h2.trans (hA.cell (by dsimp only; omega))), ((hA.mono (by omega)).trans h3).trans (hD.mono (by omega))⟩
  case hI =>
    rintro k W W' ⟨h, h1, h2⟩ hb
    rw [hs1] at hb
    exact ⟨h.below (hb.mono (by omega)), (hb.cell (by dsimp only; omega)).trans h1, Nat.lt_of_lt_of_le h2 hb.size⟩
  case h0 =>
    refine ⟨?_, hC, by omega⟩
    rw [Nat.sub_zero, List.drop_of_length_le (by rw [hl.len]; exact Nat.le_refl _), ev_nil]
    exact hE1
  case hstep => rintro W W' rfl; exact KeepsBeyond.refl _ _
  case hIs => rintro k W W' h rfl; exact h
  case hassign =>
    intro r k W K hK
    simp
    gi_wp2
    exact hK
  case hbody =>
    rintro r k W W2 ⟨h, hB, hB2⟩ hk hlt hsz hW
    have ha := (hW W.heap.size (Nat.le_refl _) (by simp)).trans (hnew W _)
    have hj := ev_drop (l := l) (i := n - 1 - k) (y := co l (n - 1 - k)) (by rw [co_get _ _ (by rw [hl.len]; omega)]; exact List.getElem?_eq_getElem _) x
    rw [show n - 1 - k + 1 = n - k from by omega] at hj
    have HJ := Lib.hid hj
    clear hj hsz hW
    have hend := fun Wx hb => pv_close (w := w) (W2 := W2) (Wx := Wx) h hB2 hb
    rw [show n - (k + 1) = n - 1 - k from by omega]
    generalize co l (n - 1 - k) = y at *
    generalize ev (l.drop (n - 1 - k)) x = z at *
    generalize ev (l.drop (n - k)) x = v at *
    have hd : Pv w W2.drew x v := ⟨⟨h.g.os, h.g.tape, h.g.output, h.g.size, h.g.block⟩, h.big, h.x, h.r, h.v⟩
    have ha2 : W2.drew.heap[W.heap.size]? = _ := ha
    have d1 := box_a hd.x
    have d2 := box_b hd.x
    have d3 := box_a hd.v
    have d4 := box_b hd.v
    have d5 := box_a ha2
    have d6 := box_b ha2
    have d7 := blk_lt hd.x
    have d8 := blk_lt hd.v
    have d9 := blk_lt ha2
    have hup : Up W2 W2.drew := ⟨rfl, rfl, rfl, Nat.le_refl _, fun _ _ => rfl⟩
    have hmx : Try.prog.follows .mixedOrders = true := by kernel_rfl
    gi_wp2_with fail
    gi_region_with_o (first
      | (refine ⟨trivial, (CallsIn.inRound r (callsIn_wide.2 (e_mul v x _))).mono ?_⟩
         rintro e w' ⟨rfl, g, rfl⟩
         have hd2 := hd.gr g
         have ha3 := (Gn.of (gr_below W2.drew g)).block ha2
         have hup2 := hup.of_gr g
         generalize gr W2.drew g = Wa at hd2 ha3 hup2 ⊢
         have u3 := box_a hd2.v
         have u4 := box_b hd2.v
         have u5 := box_a ha3
         have u6 := box_b ha3
         have u7 := blk_lt hd2.v
         have u8 := blk_lt ha3)
      | (refine ⟨trivial, (CallsIn.inRound r (callsIn_wide.2 (e_add (v * x) y _))).mono ?_⟩
         rintro e w' ⟨rfl, g2, rfl⟩
         have hd3 := hd2.gr g2
         have hup3 := hup2.of_gr g2
         generalize gr Wa g2 = Wb at hd3 hup3 ⊢
         have y1 := box_a hd3.v
         have y2 := box_b hd3.v
         have y3 := box_fz (i := 0) hd3.v
         have y4 := box_fz (i := 1) hd3.v
         have y5 := blk_lt hd3.v))
    all_goals (gi_wp2_with fail; obtain ⟨e1, e2, e3⟩ := hend _ hup3 (v * x + y) z HJ.out; exact ⟨by rw [hs1]; exact e1, ⟨e2, e3.2.1.trans hB, e3.1⟩, e3⟩)
  case hdone =>
    rintro D W hD ⟨h, _, _⟩ hsz hW
    rw [Nat.sub_self, List.drop_zero] at h
    rw [hs1] at hD hsz
    have c1 := box_a h.v
    have c2 := box_b h.v
    have c3 := obj_cell h.r 0 rfl
    have c4 := obj_cell h.r 1 rfl
    have c5 := box_fz (i := 0) h.r
    have c6 := box_fz (i := 1) h.r
    gi_wp2
    have hW2 : (set2 W (w.heap.size + 1) (ev l x)).heap[D]? = some (.deferred (some [])) := (set2_other (by omega) _).trans hW
    have hR := set2_same h.r (ev l x)
    have hg := set2_below (W := w) (Gn.of h.g) (b := w.heap.size + 1) (by omega) (ev l x)
    have hRp : ((set2 W (w.heap.size + 1) (ev l x)).putObj D (.deferred none)).heap[w.heap.size + 1]? = _ := (World.putObj_heap_other (by omega)).trans hR
    have hca := box_a hRp
    have hcb := box_b hRp
    unfold set2 at hW2 hca hcb hg
    refine ⟨by simp, .inl ⟨_, _, rfl, run_takeDeferred hW2, ?_⟩⟩
    exact ⟨.agg #[.int .u64 (Zm.i (Ext.a (ev l x))), .int .u64 (Zm.i (Ext.b (ev l x)))], by simp [results, Try.results27, go_sem, hca, hcb], rfl, hg.below.trans (below_putObj _ _ _ (by omega))⟩

end Go.Proofs.Ytjchccpicddpoaa
