/- The type checker on one fixed query: Bits, under, satisfiable. -/
import Derived.Test.YtgambglgkilgkaaGreatDoorTp4
import Derived.BigRegion
import Derived.Deep.RegionWith
namespace Go.Proofs.YtgambglgkilgkaaGreatDoor
open Go.RowKit Go.ChangeMaps
/-- the widths of the columns -/
def wds : List (Int × Int) := [(0, 4), (1, 8), (2, 4), (3, 8)]
/-- the map of the widths is laid -/
structure WT (w : World) : Prop where
  lt : 0 < w.heap.size
  at_ : ∃ bm, w.cell? ⟨0, 0, none⟩ = some (.map (some bm)) ∧ ∀ w', Gn w w' → ∀ z k, (z, k) ∈ wds → (Instr.lookup 104 (.map (some bm)) (.int .i64 z) false).run Tryz.prog w' = .ok (.int .i64 k) w'
theorem WT.up {w w' : World} (h : WT w) (g : Gn w w') : WT w' := by
  obtain ⟨lt, bm, hc, hl⟩ := h
  exact ⟨Nat.lt_of_lt_of_le lt g.size, bm, (g.below.cell lt).trans hc, fun _ g2 => hl _ (g.trans g2)⟩
theorem t_bits (z k : Int) (hz : (z, k) ∈ wds) (w : World) (h : WT w) : Calls Tryz.prog 24 #[.int .i64 z] w fun e w' => e = .returned (.int .i64 k) ∧ w = w' := by
  obtain ⟨lt, bm, hc, hl⟩ := h
  have e := hl w (Gn.refl _) z k hz
  clear hl
  go_enter Tryz.func24, Tryz.ntmps24
  go_wp2_with fail
  go_ret
  exact ⟨rfl, rfl⟩
/-- block b is a row that begins with the condition kind = 5 -/
def Cs (w : World) (b : Nat) : Prop := ∃ s, w.heap[b]? = some (.cells (#[.int .i64 2, .int .i64 5, .int .i64 5] ++ s) 101)
theorem Cs.up {w w' : World} {b : Nat} (h : Cs w b) (g : Gn w w') : Cs w' b := by
  obtain ⟨s, h⟩ := h
  exact ⟨s, Gn.block g h⟩
theorem Cs.lt {w : World} {b : Nat} (h : Cs w b) : b < w.heap.size := by
  obtain ⟨s, h⟩ := h
  exact blk_lt h
theorem pre3 {a b c : Value} {s : Array Value} : (#[a, b, c] ++ s)[0]? = some a ∧ (#[a, b, c] ++ s)[1]? = some b ∧ (#[a, b, c] ++ s)[2]? = some c := by
  refine ⟨?_, ?_, ?_⟩ <;> (rw [Array.getElem?_append_left (by simp)]; rfl)
theorem Cs.c0 {w : World} {b : Nat} (h : Cs w b) : w.cell? ⟨b, 0, none⟩ = some (.int .i64 2) := by obtain ⟨s, h⟩ := h; exact obj_cell h 0 pre3.1
theorem Cs.c1 {w : World} {b : Nat} (h : Cs w b) : w.cell? ⟨b, 1, none⟩ = some (.int .i64 5) := by obtain ⟨s, h⟩ := h; exact obj_cell h 1 pre3.2.1
theorem Cs.c2 {w : World} {b : Nat} (h : Cs w b) : w.cell? ⟨b, 2, none⟩ = some (.int .i64 5) := by obtain ⟨s, h⟩ := h; exact obj_cell h 2 pre3.2.2
theorem al_size (w : World) (o : Obj) : (w.alloc o).heap.size = w.heap.size + 1 := by unfold World.alloc; simp
theorem pset0 {w : World} {b : Nat} {p q p' : Value} {T : TypeId} (h : w.heap[b]? = some (.cells #[p, q] T)) : (w.setCell ⟨b, 0, none⟩ p').heap[b]? = some (.cells #[p', q] T) := by
  simp [World.setCell, Array.getElem?_modify, h]
theorem pset1 {w : World} {b : Nat} {p q q' : Value} {T : TypeId} (h : w.heap[b]? = some (.cells #[p, q] T)) : (w.setCell ⟨b, 1, none⟩ q').heap[b]? = some (.cells #[p, q'] T) := by
  simp [World.setCell, Array.getElem?_modify, h]
theorem Gn.set {a w : World} (h : Gn a w) {b : Nat} (hb : a.heap.size ≤ b) (i : Nat) (v : Value) : Gn a (w.setCell ⟨b, i, none⟩ v) := Gn.of (h.below.setCell hb _)
set_option maxRecDepth 100000 in
set_option maxHeartbeats 4000000 in
theorem t_under0 (b c : Nat) (w : World) (hT : WT w) (h : Cs w b) : Calls Tryz.prog 85 #[.slice (some ⟨b, 0, none⟩) 1 c, .int .i64 0] w fun e w' => e = .returned (.agg #[.int .i64 0, .int .i64 15]) ∧ Gn w w' := by
  go_enter Tryz.func85, Tryz.ntmps85
  go_wp2_with fail
  have g := Gn.al (w := w) (.cells #[.int .i64 0, .int .i64 0] 128)
  have hr := hnew w (.cells #[.int .i64 0, .int .i64 0] 128)
  replace hT := hT.up g; replace h := h.up g
  have hz : w.heap.size < (w.alloc (.cells #[.int .i64 0, .int .i64 0] 128)).heap.size := blk_lt hr
  generalize w.alloc (.cells #[.int .i64 0, .int .i64 0] 128) = w0 at *
  refine (t_bits 0 4 (by decide) _ hT).mono ?_
  rintro e w1 ⟨rfl, rfl⟩
  go_wp2_with fail
  have g1 := Gn.al (w := w0) (.cells #[.int .i64 0, .int .i64 15] 128)
  have hs := hnew w0 (.cells #[.int .i64 0, .int .i64 15] 128)
  replace hT := hT.up g1; replace h := h.up g1; replace hr := Gn.block g1 hr; replace g := g.trans g1
  generalize w0.alloc (.cells #[.int .i64 0, .int .i64 15] 128) = w1 at *
  have hsz : w.heap.size ≤ w0.heap.size := Nat.le_of_lt hz
  have hne : w.heap.size ≠ w0.heap.size := Nat.ne_of_lt hz
  generalize w0.heap.size = bs at *
  refine wp_loop_rounds 2 ?_
  rw [rounds_succ]
  have c0 := h.c0; have c1 := h.c1; have c2 := h.c2; have lt := h.lt; have ls := blk_lt hs; have s0 := obj_cell hs 0 rfl; have s1 := obj_cell hs 1 rfl
  have f0 : w1.frozen? ⟨bs, 0, none⟩ = false := box_fz hs; have f1 : w1.frozen? ⟨bs, 1, none⟩ = false := box_fz hs
  go_wp2_with fail
  have hs2 := Gn.block (Gn.al (.cells #[.int .i64 2, .int .i64 5, .int .i64 5] 101)) hs
  have hr2 := Gn.block (Gn.al (.cells #[.int .i64 2, .int .i64 5, .int .i64 5] 101)) hr
  have g2 := g.trans (Gn.al (.cells #[.int .i64 2, .int .i64 5, .int .i64 5] 101))
  clear c0 c1 c2 lt ls s0 s1 f0 f1 h hT g g1 hs hr
  generalize w1.alloc (.cells #[.int .i64 2, .int .i64 5, .int .i64 5] 101) = w2 at *
  rw [rounds_succ]
  have ls := blk_lt hs2; have s0 := obj_cell hs2 0 rfl; have s1 := obj_cell hs2 1 rfl
  have lr := blk_lt hr2; have r0 := obj_cell hr2 0 rfl; have r1 := obj_cell hr2 1 rfl
  have f0 : w2.frozen? ⟨w.heap.size, 0, none⟩ = false := box_fz hr2; have f1 : w2.frozen? ⟨w.heap.size, 1, none⟩ = false := box_fz hr2
  go_wp2_with fail
  have hr3 := pset1 (q' := .int .i64 15) (pset0 (p' := .int .i64 0) hr2)
  have t0 := obj_cell hr3 0 rfl; have t1 := obj_cell hr3 1 rfl
  exact bodyPost_ret (v := .agg #[.int .i64 0, .int .i64 15]) (by simp [results, Tryz.results85, go_sem, t0, t1]) rfl ⟨rfl, (g2.set (Nat.le_refl _) _ _).set (Nat.le_refl _) _ _⟩
set_option maxRecDepth 100000 in
set_option maxHeartbeats 4000000 in
theorem t_under1 (b c : Nat) (w : World) (hT : WT w) (h : Cs w b) : Calls Tryz.prog 85 #[.slice (some ⟨b, 0, none⟩) 1 c, .int .i64 1] w fun e w' => e = .returned (.agg #[.int .i64 0, .int .i64 255]) ∧ Gn w w' := by
  go_enter Tryz.func85, Tryz.ntmps85
  go_wp2_with fail
  have g := Gn.al (w := w) (.cells #[.int .i64 0, .int .i64 0] 128)
  have hr := hnew w (.cells #[.int .i64 0, .int .i64 0] 128)
  replace hT := hT.up g; replace h := h.up g
  have hz : w.heap.size < (w.alloc (.cells #[.int .i64 0, .int .i64 0] 128)).heap.size := blk_lt hr
  generalize w.alloc (.cells #[.int .i64 0, .int .i64 0] 128) = w0 at *
  refine (t_bits 1 8 (by decide) _ hT).mono ?_
  rintro e w1 ⟨rfl, rfl⟩
  go_wp2_with fail
  have g1 := Gn.al (w := w0) (.cells #[.int .i64 0, .int .i64 255] 128)
  have hs := hnew w0 (.cells #[.int .i64 0, .int .i64 255] 128)
  replace hT := hT.up g1; replace h := h.up g1; replace hr := Gn.block g1 hr; replace g := g.trans g1
  generalize w0.alloc (.cells #[.int .i64 0, .int .i64 255] 128) = w1 at *
  have hsz : w.heap.size ≤ w0.heap.size := Nat.le_of_lt hz
  have hne : w.heap.size ≠ w0.heap.size := Nat.ne_of_lt hz
  generalize w0.heap.size = bs at *
  refine wp_loop_rounds 2 ?_
  rw [rounds_succ]
  have c0 := h.c0; have c1 := h.c1; have c2 := h.c2; have lt := h.lt; have ls := blk_lt hs; have s0 := obj_cell hs 0 rfl; have s1 := obj_cell hs 1 rfl
  have f0 : w1.frozen? ⟨bs, 0, none⟩ = false := box_fz hs; have f1 : w1.frozen? ⟨bs, 1, none⟩ = false := box_fz hs
  go_wp2_with fail
  have hs2 := Gn.block (Gn.al (.cells #[.int .i64 2, .int .i64 5, .int .i64 5] 101)) hs
  have hr2 := Gn.block (Gn.al (.cells #[.int .i64 2, .int .i64 5, .int .i64 5] 101)) hr
  have g2 := g.trans (Gn.al (.cells #[.int .i64 2, .int .i64 5, .int .i64 5] 101))
  clear c0 c1 c2 lt ls s0 s1 f0 f1 h hT g g1 hs hr
  generalize w1.alloc (.cells #[.int .i64 2, .int .i64 5, .int .i64 5] 101) = w2 at *
  rw [rounds_succ]
  have ls := blk_lt hs2; have s0 := obj_cell hs2 0 rfl; have s1 := obj_cell hs2 1 rfl
  have lr := blk_lt hr2; have r0 := obj_cell hr2 0 rfl; have r1 := obj_cell hr2 1 rfl
  have f0 : w2.frozen? ⟨w.heap.size, 0, none⟩ = false := box_fz hr2; have f1 : w2.frozen? ⟨w.heap.size, 1, none⟩ = false := box_fz hr2
  go_wp2_with fail
  have hr3 := pset1 (q' := .int .i64 255) (pset0 (p' := .int .i64 0) hr2)
  have t0 := obj_cell hr3 0 rfl; have t1 := obj_cell hr3 1 rfl
  exact bodyPost_ret (v := .agg #[.int .i64 0, .int .i64 255]) (by simp [results, Tryz.results85, go_sem, t0, t1]) rfl ⟨rfl, (g2.set (Nat.le_refl _) _ _).set (Nat.le_refl _) _ _⟩
set_option maxRecDepth 100000 in
set_option maxHeartbeats 4000000 in
theorem t_under2 (b c : Nat) (w : World) (hT : WT w) (h : Cs w b) : Calls Tryz.prog 85 #[.slice (some ⟨b, 0, none⟩) 1 c, .int .i64 2] w fun e w' => e = .returned (.agg #[.int .i64 5, .int .i64 5]) ∧ Gn w w' := by
  go_enter Tryz.func85, Tryz.ntmps85
  go_wp2_with fail
  have g := Gn.al (w := w) (.cells #[.int .i64 0, .int .i64 0] 128)
  have hr := hnew w (.cells #[.int .i64 0, .int .i64 0] 128)
  replace hT := hT.up g; replace h := h.up g
  have hz : w.heap.size < (w.alloc (.cells #[.int .i64 0, .int .i64 0] 128)).heap.size := blk_lt hr
  generalize w.alloc (.cells #[.int .i64 0, .int .i64 0] 128) = w0 at *
  refine (t_bits 2 4 (by decide) _ hT).mono ?_
  rintro e w1 ⟨rfl, rfl⟩
  go_wp2_with fail
  have g1 := Gn.al (w := w0) (.cells #[.int .i64 0, .int .i64 15] 128)
  have hs := hnew w0 (.cells #[.int .i64 0, .int .i64 15] 128)
  replace hT := hT.up g1; replace h := h.up g1; replace hr := Gn.block g1 hr; replace g := g.trans g1
  generalize w0.alloc (.cells #[.int .i64 0, .int .i64 15] 128) = w1 at *
  have hsz : w.heap.size ≤ w0.heap.size := Nat.le_of_lt hz
  have hne : w.heap.size ≠ w0.heap.size := Nat.ne_of_lt hz
  generalize w0.heap.size = bs at *
  refine wp_loop_rounds 2 ?_
  rw [rounds_succ]
  have c0 := h.c0; have c1 := h.c1; have c2 := h.c2; have lt := h.lt; have ls := blk_lt hs; have s0 := obj_cell hs 0 rfl; have s1 := obj_cell hs 1 rfl
  have f0 : w1.frozen? ⟨bs, 0, none⟩ = false := box_fz hs; have f1 : w1.frozen? ⟨bs, 1, none⟩ = false := box_fz hs
  go_wp2_with fail
  simp only [show max (0:Int) 5 = 5 from rfl, show min (15:Int) 5 = 5 from rfl]
  have hs2 := Gn.block (Gn.al (.cells #[.int .i64 2, .int .i64 5, .int .i64 5] 101)) (pset1 (q' := .int .i64 5) (pset0 (p' := .int .i64 5) hs))
  have hr2 := Gn.block (Gn.al (.cells #[.int .i64 2, .int .i64 5, .int .i64 5] 101)) ((Below.heap_setCell (w1.setCell ⟨bs, 0, none⟩ (.int .i64 5)) ⟨bs, 1, none⟩ (.int .i64 5) w.heap.size hne).trans ((Below.heap_setCell w1 ⟨bs, 0, none⟩ (.int .i64 5) w.heap.size hne).trans hr))
  have g2 := ((g.set hsz 0 (.int .i64 5)).set hsz 1 (.int .i64 5)).trans (Gn.al (.cells #[.int .i64 2, .int .i64 5, .int .i64 5] 101))
  clear c0 c1 c2 lt ls s0 s1 f0 f1 h hT g g1 hs hr
  generalize ((w1.setCell ⟨bs, 0, none⟩ (.int .i64 5)).setCell ⟨bs, 1, none⟩ (.int .i64 5)).alloc (.cells #[.int .i64 2, .int .i64 5, .int .i64 5] 101) = w2 at *
  rw [rounds_succ]
  have ls := blk_lt hs2; have s0 := obj_cell hs2 0 rfl; have s1 := obj_cell hs2 1 rfl
  have lr := blk_lt hr2; have r0 := obj_cell hr2 0 rfl; have r1 := obj_cell hr2 1 rfl
  have f0 : w2.frozen? ⟨w.heap.size, 0, none⟩ = false := box_fz hr2; have f1 : w2.frozen? ⟨w.heap.size, 1, none⟩ = false := box_fz hr2
  go_wp2_with fail
  have hr3 := pset1 (q' := .int .i64 5) (pset0 (p' := .int .i64 5) hr2)
  have t0 := obj_cell hr3 0 rfl; have t1 := obj_cell hr3 1 rfl
  exact bodyPost_ret (v := .agg #[.int .i64 5, .int .i64 5]) (by simp [results, Tryz.results85, go_sem, t0, t1]) rfl ⟨rfl, (g2.set (Nat.le_refl _) _ _).set (Nat.le_refl _) _ _⟩
set_option maxRecDepth 100000 in
set_option maxHeartbeats 4000000 in
theorem t_under3 (b c : Nat) (w : World) (hT : WT w) (h : Cs w b) : Calls Tryz.prog 85 #[.slice (some ⟨b, 0, none⟩) 1 c, .int .i64 3] w fun e w' => e = .returned (.agg #[.int .i64 0, .int .i64 255]) ∧ Gn w w' := by
  go_enter Tryz.func85, Tryz.ntmps85
  go_wp2_with fail
  have g := Gn.al (w := w) (.cells #[.int .i64 0, .int .i64 0] 128)
  have hr := hnew w (.cells #[.int .i64 0, .int .i64 0] 128)
  replace hT := hT.up g; replace h := h.up g
  have hz : w.heap.size < (w.alloc (.cells #[.int .i64 0, .int .i64 0] 128)).heap.size := blk_lt hr
  generalize w.alloc (.cells #[.int .i64 0, .int .i64 0] 128) = w0 at *
  refine (t_bits 3 8 (by decide) _ hT).mono ?_
  rintro e w1 ⟨rfl, rfl⟩
  go_wp2_with fail
  have g1 := Gn.al (w := w0) (.cells #[.int .i64 0, .int .i64 255] 128)
  have hs := hnew w0 (.cells #[.int .i64 0, .int .i64 255] 128)
  replace hT := hT.up g1; replace h := h.up g1; replace hr := Gn.block g1 hr; replace g := g.trans g1
  generalize w0.alloc (.cells #[.int .i64 0, .int .i64 255] 128) = w1 at *
  have hsz : w.heap.size ≤ w0.heap.size := Nat.le_of_lt hz
  have hne : w.heap.size ≠ w0.heap.size := Nat.ne_of_lt hz
  generalize w0.heap.size = bs at *
  refine wp_loop_rounds 2 ?_
  rw [rounds_succ]
  have c0 := h.c0; have c1 := h.c1; have c2 := h.c2; have lt := h.lt; have ls := blk_lt hs; have s0 := obj_cell hs 0 rfl; have s1 := obj_cell hs 1 rfl
  have f0 : w1.frozen? ⟨bs, 0, none⟩ = false := box_fz hs; have f1 : w1.frozen? ⟨bs, 1, none⟩ = false := box_fz hs
  go_wp2_with fail
  have hs2 := Gn.block (Gn.al (.cells #[.int .i64 2, .int .i64 5, .int .i64 5] 101)) hs
  have hr2 := Gn.block (Gn.al (.cells #[.int .i64 2, .int .i64 5, .int .i64 5] 101)) hr
  have g2 := g.trans (Gn.al (.cells #[.int .i64 2, .int .i64 5, .int .i64 5] 101))
  clear c0 c1 c2 lt ls s0 s1 f0 f1 h hT g g1 hs hr
  generalize w1.alloc (.cells #[.int .i64 2, .int .i64 5, .int .i64 5] 101) = w2 at *
  rw [rounds_succ]
  have ls := blk_lt hs2; have s0 := obj_cell hs2 0 rfl; have s1 := obj_cell hs2 1 rfl
  have lr := blk_lt hr2; have r0 := obj_cell hr2 0 rfl; have r1 := obj_cell hr2 1 rfl
  have f0 : w2.frozen? ⟨w.heap.size, 0, none⟩ = false := box_fz hr2; have f1 : w2.frozen? ⟨w.heap.size, 1, none⟩ = false := box_fz hr2
  go_wp2_with fail
  have hr3 := pset1 (q' := .int .i64 255) (pset0 (p' := .int .i64 0) hr2)
  have t0 := obj_cell hr3 0 rfl; have t1 := obj_cell hr3 1 rfl
  exact bodyPost_ret (v := .agg #[.int .i64 0, .int .i64 255]) (by simp [results, Tryz.results85, go_sem, t0, t1]) rfl ⟨rfl, (g2.set (Nat.le_refl _) _ _).set (Nat.le_refl _) _ _⟩
set_option maxRecDepth 100000 in
set_option maxHeartbeats 4000000 in
theorem t_sat1 (z lo hi : Int) (hlh : decide (lo > hi) = false) (b c r : Nat) (w : World) (hT : WT w) (h : Cs w b) (hr : w.heap[r]? = some (.cells #[.slice (some ⟨b, 0, none⟩) 1 c] 74))
    (hu : ∀ w, WT w → Cs w b → Calls Tryz.prog 85 #[.slice (some ⟨b, 0, none⟩) 1 c, .int .i64 z] w fun e w' => e = .returned (.agg #[.int .i64 lo, .int .i64 hi]) ∧ Gn w w') :
    Calls Tryz.prog 100 #[.int .i64 z, .pointer (some ⟨r, 0, none⟩)] w fun e w' => e = .returned (.bool false) ∧ Gn w w' := by
  have r0 := obj_cell hr 0 rfl; have lr := blk_lt hr
  go_enter Tryz.func100, Tryz.ntmps100
  go_wp2_with fail
  refine (hu _ hT h).mono ?_
  rintro e w1 ⟨rfl, g⟩
  clear r0 lr
  go_wp2_with fail
  go_ret
  exact ⟨rfl, g.trans (Gn.al _)⟩
theorem t_satAll (z : Int) (hz : z = 0 ∨ z = 1 ∨ z = 2 ∨ z = 3) (b c r : Nat) (w : World) (hT : WT w) (h : Cs w b) (hr : w.heap[r]? = some (.cells #[.slice (some ⟨b, 0, none⟩) 1 c] 74)) :
    Calls Tryz.prog 100 #[.int .i64 z, .pointer (some ⟨r, 0, none⟩)] w fun e w' => e = .returned (.bool false) ∧ Gn w w' := by
  rcases hz with rfl | rfl | rfl | rfl
  · exact t_sat1 0 0 15 (by decide) b c r w hT h hr (t_under0 b c)
  · exact t_sat1 1 0 255 (by decide) b c r w hT h hr (t_under1 b c)
  · exact t_sat1 2 5 5 (by decide) b c r w hT h hr (t_under2 b c)
  · exact t_sat1 3 0 255 (by decide) b c r w hT h hr (t_under3 b c)
set_option maxRecDepth 100000 in
set_option maxHeartbeats 4000000 in
theorem t_idx (b c r s : Nat) (w : World) (hT : WT w) (h : Cs w b) (hr : w.heap[r]? = some (.cells #[.slice (some ⟨b, 0, none⟩) 1 c] 74)) (hs : w.heap[s]? = some (.cells #[.int .i64 0, .int .i64 1, .int .i64 2, .int .i64 3] 3)) :
    Calls Tryz.prog 116 #[.slice (some ⟨s, 0, none⟩) 4 4, .func (.func 100) #[] #[.pointer (some ⟨r, 0, none⟩)]] w fun e w' => e = .returned (.int .i64 (-1)) ∧ Gn w w' := by
  have g := Gn.refl w
  go_enter Tryz.func116, Tryz.ntmps116
  go_wp2_with fail
  refine wp_loop_rounds 5 ?_
  rw [rounds_succ]
  have lt := blk_lt hs; have c0 := obj_cell hs 0 rfl
  go_wp2_with fail
  clear lt c0
  refine (t_satAll 0 (by decide) b c r _ hT h hr).mono ?_
  rintro e w1 ⟨rfl, k⟩
  replace g := g.trans k; replace hs := Gn.block k hs; replace hr := Gn.block k hr; replace hT := hT.up k; replace h := h.up k
  clear k
  go_wp2_with fail
  rw [rounds_succ]
  have lt := blk_lt hs; have c1 := obj_cell hs 1 rfl
  go_wp2_with fail
  clear lt c1
  refine (t_satAll 1 (by decide) b c r _ hT h hr).mono ?_
  rintro e w2 ⟨rfl, k⟩
  replace g := g.trans k; replace hs := Gn.block k hs; replace hr := Gn.block k hr; replace hT := hT.up k; replace h := h.up k
  clear k
  go_wp2_with fail
  rw [rounds_succ]
  have lt := blk_lt hs; have c2 := obj_cell hs 2 rfl
  go_wp2_with fail
  clear lt c2
  refine (t_satAll 2 (by decide) b c r _ hT h hr).mono ?_
  rintro e w3 ⟨rfl, k⟩
  replace g := g.trans k; replace hs := Gn.block k hs; replace hr := Gn.block k hr; replace hT := hT.up k; replace h := h.up k
  clear k
  go_wp2_with fail
  rw [rounds_succ]
  have lt := blk_lt hs; have c3 := obj_cell hs 3 rfl
  go_wp2_with fail
  clear lt c3
  refine (t_satAll 3 (by decide) b c r _ hT h hr).mono ?_
  rintro e w4 ⟨rfl, k⟩
  replace g := g.trans k; replace hs := Gn.block k hs; replace hr := Gn.block k hr; replace hT := hT.up k; replace h := h.up k
  clear k
  go_wp2_with fail
  rw [rounds_succ]
  go_wp2_with fail
  go_ret
  exact ⟨rfl, g⟩
set_option maxRecDepth 100000 in
set_option maxHeartbeats 4000000 in
theorem t_cont (b c r s : Nat) (w : World) (hT : WT w) (h : Cs w b) (hr : w.heap[r]? = some (.cells #[.slice (some ⟨b, 0, none⟩) 1 c] 74)) (hs : w.heap[s]? = some (.cells #[.int .i64 0, .int .i64 1, .int .i64 2, .int .i64 3] 3)) :
    Calls Tryz.prog 99 #[.slice (some ⟨s, 0, none⟩) 4 4, .func (.func 100) #[] #[.pointer (some ⟨r, 0, none⟩)]] w fun e w' => e = .returned (.bool false) ∧ Gn w w' := by
  go_enter Tryz.func99, Tryz.ntmps99
  go_wp2_with fail
  refine (t_idx b c r s _ hT h hr hs).mono ?_
  rintro e w1 ⟨rfl, g⟩
  go_wp2_with fail
  go_ret
  exact ⟨rfl, g⟩
set_option maxRecDepth 100000 in
set_option maxHeartbeats 4000000 in
theorem t_satisf (b c : Nat) (w : World) (hT : WT w) (h : Cs w b) :
    Calls Tryz.prog 83 #[.slice (some ⟨b, 0, none⟩) 1 c] w fun e w' => e = .returned (.bool true) ∧ Gn w w' := by
  go_enter Tryz.func83, Tryz.ntmps83
  go_wp2_with fail
  have g := (Gn.al (w := w) (.cells #[.slice (some ⟨b, 0, none⟩) 1 c] 74)).trans (Gn.al (w := w.alloc (.cells #[.slice (some ⟨b, 0, none⟩) 1 c] 74)) (.cells #[.int .i64 0, .int .i64 1, .int .i64 2, .int .i64 3] 3))
  have hr := Gn.block (Gn.al (w := w.alloc (.cells #[.slice (some ⟨b, 0, none⟩) 1 c] 74)) (.cells #[.int .i64 0, .int .i64 1, .int .i64 2, .int .i64 3] 3)) (hnew w (.cells #[.slice (some ⟨b, 0, none⟩) 1 c] 74))
  have hs := hnew (w.alloc (.cells #[.slice (some ⟨b, 0, none⟩) 1 c] 74)) (.cells #[.int .i64 0, .int .i64 1, .int .i64 2, .int .i64 3] 3)
  rw [al_size] at hs
  refine (t_cont b c _ _ _ (hT.up g) (h.up g) hr hs).mono ?_
  rintro e w1 ⟨rfl, k⟩
  go_wp2_with fail
  go_ret
  exact ⟨rfl, g.trans k⟩
end Go.Proofs.YtgambglgkilgkaaGreatDoor
