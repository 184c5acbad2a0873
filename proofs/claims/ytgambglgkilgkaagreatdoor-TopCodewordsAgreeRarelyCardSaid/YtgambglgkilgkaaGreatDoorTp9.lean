/- The query parser on one fixed text: Parse. -/
import Derived.Test.YtgambglgkilgkaaGreatDoorTp8
import Derived.OwnWalk
namespace Go.Proofs.YtgambglgkilgkaaGreatDoor
open Go.RowKit Go.ChangeMaps
theorem Fl.kb {w w' : World} {f c n b : Nat} (h : Fl w f c n) (k : Kb b w w') (h1 : f ≠ b) (h2 : c ≠ b) : Fl w' f c n := by
  obtain ⟨⟨s, h⟩, l⟩ := h
  exact ⟨⟨s, Kb.block k h h1⟩, l.kb k h2⟩
set_option maxRecDepth 100000 in
set_option maxHeartbeats 4000000 in
theorem q_parse (w : World) :
    Calls Tryz.prog 8 #[.string tx] w fun e w' => ∃ f k c n, e = .returned (.tuple #[.agg #[.int .i64 3, .int .i64 3, .int .i64 2, .slice (some ⟨f, 0, none⟩) 1 n], .int .i64 0, .int .i64 0]) ∧ Fl w' f k c ∧ Gn w w' := by
  have ts := tx_size
  go_enter Tryz.func8, Tryz.ntmps8
  go_wp2_with fail
  have hg := (Gn.al (w := w) (.cells #[.int .i64 0, .int .i64 0, .int .i64 0, .slice none 0 0] 35)).trans (Gn.al (w := w.alloc (.cells #[.int .i64 0, .int .i64 0, .int .i64 0, .slice none 0 0] 35)) (.cells #[.string tx, .int .i64 0, .int .i64 0, .int .i64 0] 60))
  have hr := Gn.block (Gn.al (w := w.alloc (.cells #[.int .i64 0, .int .i64 0, .int .i64 0, .slice none 0 0] 35)) (.cells #[.string tx, .int .i64 0, .int .i64 0, .int .i64 0] 60)) (hnew w (.cells #[.int .i64 0, .int .i64 0, .int .i64 0, .slice none 0 0] 35))
  have h : PB _ _ 0 := hnew (w.alloc (.cells #[.int .i64 0, .int .i64 0, .int .i64 0, .slice none 0 0] 35)) (.cells #[.string tx, .int .i64 0, .int .i64 0, .int .i64 0] 60)
  rw [al_size] at h
  have hb2 := blk_lt h
  generalize (w.alloc (.cells #[.int .i64 0, .int .i64 0, .int .i64 0, .slice none 0 0] 35)).alloc (.cells #[.string tx, .int .i64 0, .int .i64 0, .int .i64 0] 60) = w2 at *
  have hwb : w.heap.size ≤ w.heap.size + 1 := Nat.le_succ _
  have hne : w.heap.size + 1 ≠ w.heap.size := Nat.succ_ne_self _
  generalize w.heap.size + 1 = b at *
  refine (q_query0 b _ h).mono ?_
  rintro e w3 ⟨f, k, c, n, rfl, hF, hf, hk, h, kk⟩
  have hsz2 := hg.size
  replace hg := Kb.gn0 hg kk hwb; replace hr := Kb.block kk hr (Ne.symm hne); clear kk
  have lt := h.lt; have c3 := h.e
  go_wp2_with fail
  clear lt c3
  have hqb : b ≠ w3.heap.size := Nat.ne_of_lt h.lt
  have hq := hnew w3 (.cells #[.int .i64 3, .int .i64 3, .int .i64 2, .slice (some ⟨f, 0, none⟩) 1 n] 35)
  have g1 := Gn.al (w := w3) (.cells #[.int .i64 3, .int .i64 3, .int .i64 2, .slice (some ⟨f, 0, none⟩) 1 n] 35)
  replace hg := hg.trans g1; replace hr := Gn.block g1 hr; replace h := h.up g1; replace hF := hF.up g1
  clear g1
  generalize w3.alloc (.cells #[.int .i64 3, .int .i64 3, .int .i64 2, .slice (some ⟨f, 0, none⟩) 1 n] 35) = w4 at *
  generalize w3.heap.size = bq at *
  refine (q_peek29 b _ h).mono ?_
  rintro e w5 ⟨rfl, h, kk⟩
  replace hg := Kb.gn0 hg kk hwb; replace hr := Kb.block kk hr (Ne.symm hne); replace hq := Kb.block kk hq (Ne.symm hqb)
  replace hF := hF.kb kk (by omega) (by omega)
  clear kk
  have lt := h.lt; have c3 := h.e
  have lq := blk_lt hq; have lr := blk_lt hr
  have q0 := obj_cell hq 0 rfl; have q1 := obj_cell hq 1 rfl; have q2 := obj_cell hq 2 rfl; have q3 := obj_cell hq 3 rfl
  have r0 := obj_cell hr 0 rfl; have r1 := obj_cell hr 1 rfl; have r2 := obj_cell hr 2 rfl; have r3 := obj_cell hr 3 rfl
  have e0 : w5.frozen? ⟨w.heap.size, 0, none⟩ = false := box_fz hr; have e1 : w5.frozen? ⟨w.heap.size, 1, none⟩ = false := box_fz hr; have e2 : w5.frozen? ⟨w.heap.size, 2, none⟩ = false := box_fz hr; have e3 : w5.frozen? ⟨w.heap.size, 3, none⟩ = false := box_fz hr
  go_wp2_with fail
  have hf1 : f ≠ w.heap.size := by omega
  have hk1 : k ≠ w.heap.size := by omega
  have hr1 := psetg (psetg (psetg (psetg hr 0 (.int .i64 3)) 1 (.int .i64 3)) 2 (.int .i64 2)) 3 (.slice (some ⟨f, 0, none⟩) 1 n)
  have t0 := obj_cell hr1 0 rfl; have t1 := obj_cell hr1 1 rfl; have t2 := obj_cell hr1 2 rfl; have t3 := obj_cell hr1 3 rfl
  exact bodyPost_ret (v := .tuple #[.agg #[.int .i64 3, .int .i64 3, .int .i64 2, .slice (some ⟨f, 0, none⟩) 1 n], .int .i64 0, .int .i64 0]) (by simp [results, Tryz.results8, go_sem, t0, t1, t2, t3]) rfl
    ⟨f, k, c, n, rfl, (((hF.far hf1 hk1 _ _).far hf1 hk1 _ _).far hf1 hk1 _ _).far hf1 hk1 _ _, (((hg.set (Nat.le_refl _) _ _).set (Nat.le_refl _) _ _).set (Nat.le_refl _) _ _).set (Nat.le_refl _) _ _⟩
end Go.Proofs.YtgambglgkilgkaaGreatDoor
