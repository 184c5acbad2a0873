/- The query parser on one fixed text: cond, filter. -/
import Derived.Test.YtgambglgkilgkaaGreatDoorTp6
import Derived.Test.YtgambglgkilgkaaGreatDoorTk1
namespace Go.Proofs.YtgambglgkilgkaaGreatDoor
open Go.RowKit Go.ChangeMaps
theorem Gn.drew (w : World) : Gn w w.drew := Kb.gn0 (Gn.refl w) (Kb.drew w.heap.size w) (Nat.le_refl _)
theorem Cs.kb {w w' : World} {b c : Nat} (h : Cs w c) (k : Kb b w w') (hn : c ≠ b) : Cs w' c := by
  obtain ⟨s, h⟩ := h
  exact ⟨s, Kb.block k h hn⟩
theorem psetg {w : World} {b : Nat} {cs : Array Value} {T : TypeId} (h : w.heap[b]? = some (.cells cs T)) (i : Nat) (v : Value) : (w.setCell ⟨b, i, none⟩ v).heap[b]? = some (.cells (cs.setIfInBounds i v) T) := by
  simp [World.setCell, Array.getElem?_modify, h]
set_option maxRecDepth 100000 in
set_option maxHeartbeats 4000000 in
theorem q_cond20 (b : Nat) (w : World) (h : PB w b 20) :
    Calls Tryz.prog 77 #[.pointer (some ⟨b, 0, none⟩)] w fun e w' => e = .returned (.agg #[.int .i64 2, .int .i64 5, .int .i64 5]) ∧ PB w' b 29 ∧ Kb b w w' := by
  have hne : b ≠ w.heap.size := Nat.ne_of_lt h.lt
  go_enter Tryz.func77, Tryz.ntmps77
  go_wp2_with fail
  have g0 := Gn.al (w := w) (.cells #[.int .i64 0, .int .i64 0, .int .i64 0] 101)
  have hr := hnew w (.cells #[.int .i64 0, .int .i64 0, .int .i64 0] 101)
  have hk : Kb b w _ := Kb.of g0
  replace h := h.up g0
  clear g0
  generalize w.alloc (.cells #[.int .i64 0, .int .i64 0, .int .i64 0] 101) = w0 at *
  generalize ebr : w.heap.size = br at *
  replace ebr := Lib.hid ebr
  refine (q_column20 b _ h).mono ?_
  rintro e w1 ⟨rfl, h, kk⟩
  replace hk := hk.trans kk; replace hr := Kb.block kk hr (Ne.symm hne); clear kk
  have hne1 : b ≠ w1.heap.size := Nat.ne_of_lt h.lt
  have hbr1 : br < w1.heap.size := blk_lt hr
  go_wp2_with fail
  have g0 := Gn.al (w := w1) (.cells #[.int .i64 2, .int .i64 0, .int .i64 0] 101)
  have hc := hnew w1 (.cells #[.int .i64 2, .int .i64 0, .int .i64 0] 101)
  replace hk := hk.gn g0
  replace h := h.up g0; replace hr := Gn.block g0 hr
  clear g0
  generalize w1.alloc (.cells #[.int .i64 2, .int .i64 0, .int .i64 0] 101) = w2 at *
  generalize ebc : w1.heap.size = bc at *
  replace ebc := Lib.hid ebc
  refine (q_columnMax2 _).mono ?_
  rintro e w3 ⟨rfl, rfl⟩
  go_wp2_with fail
  refine (q_acc_yes b 25 26 3 _ _ h (by decide) (q_peek25 b)).mono ?_
  rintro e w3 ⟨rfl, h, kk⟩
  replace hk := hk.trans kk; replace hr := Kb.block kk hr (Ne.symm hne); replace hc := Kb.block kk hc (Ne.symm hne1); clear kk
  go_wp2_with fail
  refine (q_number27 b _ h).mono ?_
  rintro e w4 ⟨rfl, h, kk⟩
  replace hk := hk.trans kk; replace hr := Kb.block kk hr (Ne.symm hne); replace hc := Kb.block kk hc (Ne.symm hne1); clear kk
  have c0 := obj_cell hc 0 rfl; have c1 := obj_cell hc 1 rfl; have c2 := obj_cell hc 2 rfl; have lc := blk_lt hc
  have d0 : w4.frozen? ⟨bc, 0, none⟩ = false := box_fz hc; have d1 : w4.frozen? ⟨bc, 1, none⟩ = false := box_fz hc; have d2 : w4.frozen? ⟨bc, 2, none⟩ = false := box_fz hc
  have r0 := obj_cell hr 0 rfl; have r1 := obj_cell hr 1 rfl; have r2 := obj_cell hr 2 rfl; have lr := blk_lt hr
  have e0 : w4.frozen? ⟨br, 0, none⟩ = false := box_fz hr; have e1 : w4.frozen? ⟨br, 1, none⟩ = false := box_fz hr; have e2 : w4.frozen? ⟨br, 2, none⟩ = false := box_fz hr
  go_wp2_with fail
  have hbc : br ≠ bc := Nat.ne_of_lt hbr1
  have hb1 := ebr.out
  have hr1 := psetg (psetg (psetg ((Below.heap_setCell (w4.setCell ⟨bc, 1, none⟩ (.int .i64 5)) ⟨bc, 2, none⟩ (.int .i64 5) br hbc).trans ((Below.heap_setCell w4 ⟨bc, 1, none⟩ (.int .i64 5) br hbc).trans hr)) 0 (.int .i64 2)) 1 (.int .i64 5)) 2 (.int .i64 5)
  have t0 := obj_cell hr1 0 rfl; have t1 := obj_cell hr1 1 rfl; have t2 := obj_cell hr1 2 rfl
  exact bodyPost_ret (v := .agg #[.int .i64 2, .int .i64 5, .int .i64 5]) (by simp [results, Tryz.results77, go_sem, t0, t1, t2]) rfl
    ⟨rfl, ((((PB.far h hne1 _ _).far hne1 _ _).far hne _ _).far hne _ _).far hne _ _, ((((hk.own (by omega) _ _).own (by omega) _ _).own (by omega) _ _).own (by omega) _ _).own (by omega) _ _⟩
set_option maxRecDepth 100000 in
set_option maxHeartbeats 4000000 in
theorem q_filter14 (b : Nat) (w : World) (h : PB w b 14) :
    Calls Tryz.prog 40 #[.pointer (some ⟨b, 0, none⟩)] w fun e w' => ∃ bc c, e = .returned (.slice (some ⟨bc, 0, none⟩) 1 c) ∧ Cs w' bc ∧ w.heap.size ≤ bc ∧ PB w' b 29 ∧ Kb b w w' := by
  go_enter Tryz.func40, Tryz.ntmps40
  go_wp2_with fail
  have hk : Kb b w _ := Kb.of (Gn.al (w := w) (.cells #[] 101))
  have ha := hnew w (.cells #[] 101)
  have hne : b ≠ w.heap.size := Nat.ne_of_lt h.lt
  replace h := h.up (Gn.al (w := w) (.cells #[] 101))
  generalize w.alloc (.cells #[] 101) = w0 at *
  generalize ebr : w.heap.size = ba at *
  replace ebr := Lib.hid ebr
  refine (q_acc_yes b 14 15 1 _ _ h (by decide) (q_peek14 b)).mono ?_
  rintro e w1 ⟨rfl, h, kk⟩
  replace hk := hk.trans kk; replace ha := Kb.block kk ha (Ne.symm hne); clear kk
  go_wp2_with fail
  refine wp_loop_rounds 2 ?_
  rw [rounds_succ]
  go_wp2_with fail
  refine (q_cond20 b _ h).mono ?_
  rintro e w2 ⟨rfl, h, kk⟩
  replace hk := hk.trans kk; replace ha := Kb.block kk ha (Ne.symm hne); clear kk
  go_wp2_with fail
  generalize (Question.appendCap 1 0 101).cut (w2.tape w2.drawn (Question.appendCap 1 0 101)) = C at *
  generalize Builtin.zeroCells #[.int .i64 0, .int .i64 0, .int .i64 0] (C - 1) = z at *
  have g1 := Gn.al (w := w2) (.cells #[.int .i64 2, .int .i64 5, .int .i64 5] 101)
  have g2 := Gn.al (w := w2.alloc (.cells #[.int .i64 2, .int .i64 5, .int .i64 5] 101)) (.cells (#[.int .i64 2, .int .i64 5, .int .i64 5] ++ z) 101)
  have hc : Cs _ _ := ⟨z, hnew (w2.alloc (.cells #[.int .i64 2, .int .i64 5, .int .i64 5] 101)) (.cells (#[.int .i64 2, .int .i64 5, .int .i64 5] ++ z) 101)⟩
  rw [al_size] at hc
  have g3 := (g1.trans g2).trans (Gn.drew _)
  replace hc := hc.up (Gn.drew _)
  clear g1 g2
  have hsz : ba ≤ w2.heap.size := Nat.le_of_lt (blk_lt ha)
  have hne2 : b ≠ w2.heap.size + 1 := by have := h.lt; omega
  replace hk := hk.gn g3; replace h := h.up g3; replace ha := Gn.block g3 ha
  clear g3
  generalize ((w2.alloc (.cells #[.int .i64 2, .int .i64 5, .int .i64 5] 101)).alloc (.cells (#[.int .i64 2, .int .i64 5, .int .i64 5] ++ z) 101)).drew = w3 at *
  have hsz2 : w.heap.size ≤ w2.heap.size + 1 := by rw [ebr.out]; omega
  generalize w2.heap.size + 1 = bc at *
  refine (q_acc_end b 29 29 _ _ _ h (q_peek29 b)).mono ?_
  rintro e w4 ⟨rfl, h, kk⟩
  replace hk := hk.trans kk; replace hc := hc.kb kk (Ne.symm hne2); clear kk
  go_wp2_with fail
  rw [rounds_succ]
  go_wp2_with fail
  go_ret
  exact ⟨bc, C, rfl, hc, hsz2, h, hk⟩
end Go.Proofs.YtgambglgkilgkaaGreatDoor
