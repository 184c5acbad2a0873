/- The evaluation of one fixed query: Sums. -/
import Derived.Test.YtgambglgkilgkaaGreatDoorTe2
import Derived.Test.YtgambglgkilgkaaGreatDoorTe4
namespace Go.Proofs.YtgambglgkilgkaaGreatDoor
open Go.RowKit Go.ChangeMaps
theorem Rdr.kb {w w' : World} {r b : Nat} (h : Rdr w r) (k : Kb b w w') (hn : r ≠ b) : Rdr w' r :=
  ⟨Nat.lt_of_lt_of_le h.lt k.size, fun i u hu => (World.cell?_of_block (World.grownBy.block k r h.lt (by simpa using hn))).trans (h.c i u hu)⟩
theorem i64Info : (Tryz.prog.info? 2).map (fun i => (i.zero, i.size, i.bytes)) = some (some (.int .i64 0), 1, 8) := by kernel_rfl
theorem run_mk1 (w : World) : (Instr.makeSlice 44 (.int .i64 1) (.int .i64 1)).run Tryz.prog w = .ok (.slice (some ⟨w.heap.size, 0, none⟩) 1 1) (w.alloc (.cells #[.int .i64 0] 2)) := by
  obtain ⟨i0, hi, hz0, hz1, hz2⟩ := info_parts i64Info
  have h := run_make (P := Tryz.prog) w 44 2 i0 _ Tryz.underlying44 hi hz0 .i64 .i64 1 1 (by omega) (by omega) (by rw [hz2]; omega) (by omega)
  have e : madeCells (Value.cells (.int .i64 0)) 1 = #[.int .i64 0] := by kernel_rfl
  rw [hz1, show (1 : Int).toNat * 1 = 1 from rfl, e] at h
  exact h
set_option maxRecDepth 100000 in
set_option maxHeartbeats 4000000 in
theorem e_sums (f k c n L G : Nat) (w : World) (hF : Fl w f k c) (hL : w.heap[L]? = some (.cells #[.int .i64 0, .int .i64 0, .int .i64 5, .int .i64 3, .int .i64 0, .int .i64 0, .int .i64 4, .int .i64 9, .int .i64 0, .int .i64 0, .int .i64 5, .int .i64 4] 39)) (hG : w.heap[G]? = some (.cells #[.bool false, .bool false, .bool false] 4)) :
    Calls Tryz.prog 11 #[.agg #[.int .i64 3, .int .i64 3, .int .i64 2, .slice (some ⟨f, 0, none⟩) 1 n], .agg #[.slice (some ⟨L, 0, none⟩) 3 3, .slice (some ⟨G, 0, none⟩) 3 3]] w
      fun e w' => ∃ s, e = .returned (.slice (some ⟨s, 0, none⟩) 1 1) ∧ w'.heap[s]? = some (.cells #[.int .i64 25] 2) ∧ Gn w w' := by
  go_enter Tryz.func11, Tryz.ntmps11
  go_wp2_with fail
  have hq := Gn.block (Gn.al (w := w.alloc (.cells #[.int .i64 3, .int .i64 3, .int .i64 2, .slice (some ⟨f, 0, none⟩) 1 n] 35)) (.cells #[.slice (some ⟨L, 0, none⟩) 3 3, .slice (some ⟨G, 0, none⟩) 3 3] 43)) (hnew w (.cells #[.int .i64 3, .int .i64 3, .int .i64 2, .slice (some ⟨f, 0, none⟩) 1 n] 35))
  have hs := hnew (w.alloc (.cells #[.int .i64 3, .int .i64 3, .int .i64 2, .slice (some ⟨f, 0, none⟩) 1 n] 35)) (.cells #[.slice (some ⟨L, 0, none⟩) 3 3, .slice (some ⟨G, 0, none⟩) 3 3] 43)
  rw [al_size] at hs
  have g := (Gn.al (w := w) (.cells #[.int .i64 3, .int .i64 3, .int .i64 2, .slice (some ⟨f, 0, none⟩) 1 n] 35)).trans (Gn.al (w := w.alloc (.cells #[.int .i64 3, .int .i64 3, .int .i64 2, .slice (some ⟨f, 0, none⟩) 1 n] 35)) (.cells #[.slice (some ⟨L, 0, none⟩) 3 3, .slice (some ⟨G, 0, none⟩) 3 3] 43))
  replace hF := hF.up g; replace hL := g.block hL; replace hG := g.block hG
  generalize (w.alloc (.cells #[.int .i64 3, .int .i64 3, .int .i64 2, .slice (some ⟨f, 0, none⟩) 1 n] 35)).alloc (.cells #[.slice (some ⟨L, 0, none⟩) 3 3, .slice (some ⟨G, 0, none⟩) 3 3] 43) = w0 at *
  generalize ebs : w.heap.size + 1 = bs at *
  generalize ebq : w.heap.size = bq at *
  replace ebq := Lib.hid ebq
  replace ebs := Lib.hid ebs
  refine (t_sums f n _).mono ?_
  rintro e w1 ⟨rfl, k1⟩
  replace g := g.trans k1; replace hF := hF.up k1; replace hL := k1.block hL; replace hG := k1.block hG; replace hq := k1.block hq; replace hs := k1.block hs
  clear k1
  have lq := blk_lt hq; have q3 := obj_cell hq 3 rfl
  have hmk := run_mk1 w1
  go_wp2_with fail
  have g1 := Gn.al (w := w1) (.cells #[.int .i64 0] 2)
  have ht := hnew w1 (.cells #[.int .i64 0] 2)
  have hwt : w.heap.size ≤ w1.heap.size := g.size
  have hft : f ≠ w1.heap.size := Nat.ne_of_lt hF.lt
  have hkt : k ≠ w1.heap.size := Nat.ne_of_lt hF.2.lt
  replace g := g.trans g1; replace hF := hF.up g1; replace hL := g1.block hL; replace hG := g1.block hG; replace hq := g1.block hq; replace hs := g1.block hs
  clear g1 hmk lq q3
  generalize w1.alloc (.cells #[.int .i64 0] 2) = w2 at *
  generalize w1.heap.size = t at *
  refine wp_loop_rounds 2 ?_
  rw [rounds_succ]
  have f0 := hF.c0; have fl := hF.lt
  have lq := blk_lt hq; have q0 := obj_cell hq 0 rfl; have q1 := obj_cell hq 1 rfl; have q2 := obj_cell hq 2 rfl; have q3 := obj_cell hq 3 rfl
  go_wp2_with fail
  clear f0 fl lq q0 q1 q2 q3
  refine (e_contribution f n t _).mono ?_
  rintro e w3 ⟨sb, qb, rfl, hsb, hqb, hsb1, hqb1, g1⟩
  have htl := blk_lt ht
  have hsbt : sb ≠ t := by omega
  have hqbt : qb ≠ t := by omega
  replace g := g.trans g1; replace hF := hF.up g1; replace hL := g1.block hL; replace hG := g1.block hG; replace hs := g1.block hs; replace ht := g1.block ht
  clear g1 hq hsb1 hqb1
  have ls := blk_lt hs; have s0 := obj_cell hs 0 rfl; have s1 := obj_cell hs 1 rfl
  go_wp2_with fail
  clear ls s0 s1
  refine (r_live L G _ (fun B W hb hB => ⟨hB, (hb.block _ (blk_lt hL)).trans hL, (hb.block _ (blk_lt hG)).trans hG⟩) (blk_lt hL) (blk_lt hG)).mono ?_
  rintro e w4 ⟨rb, c4, rfl, hR, hrb, g1⟩
  have hrt : rb ≠ t := by have := blk_lt ht; omega
  replace g := g.trans g1; replace hF := hF.up g1; replace ht := g1.block ht; replace hsb := g1.block hsb; replace hqb := g1.block hqb
  clear g1 hs hL hG
  go_wp2_with fail
  refine wp_loop_rounds 4 ?_
  rw [rounds_succ]
  have d0 := hR.c 0 _ rfl; have d1 := hR.c 1 _ rfl; have d2 := hR.c 2 (.int .i64 5) rfl; have d3 := hR.c 3 (.int .i64 3) rfl; have ld := hR.lt
  go_wp2_with fail
  clear d0 d1 d2 d3 ld
  have g1 := Gn.al (w := w4) (.cells #[.int .i64 0, .int .i64 0, .int .i64 5, .int .i64 3] 39)
  have hx := hnew w4 (.cells #[.int .i64 0, .int .i64 0, .int .i64 5, .int .i64 3] 39)
  have hxt : w4.heap.size ≠ t := by have := blk_lt ht; omega
  replace g := g.trans g1; replace hF := hF.up g1; replace ht := g1.block ht; replace hsb := g1.block hsb; replace hqb := g1.block hqb; replace hR := hR.up g1
  clear g1
  generalize w4.alloc (.cells #[.int .i64 0, .int .i64 0, .int .i64 5, .int .i64 3] 39) = v0 at *
  generalize w4.heap.size = x0 at *
  refine (e_match_5 k c 3 _ hF.2).mono ?_
  rintro e w5 ⟨rfl, g1⟩
  replace g := g.trans g1; replace hF := hF.up g1; replace ht := g1.block ht; replace hsb := g1.block hsb; replace hqb := g1.block hqb; replace hR := hR.up g1; replace hx := g1.block hx
  clear g1
  have lx := blk_lt hx; have y0 := obj_cell hx 0 rfl; have y1 := obj_cell hx 1 rfl; have y2 := obj_cell hx 2 rfl; have y3 := obj_cell hx 3 rfl
  go_wp2_with fail
  clear lx y0 y1 y2 y3
  refine (e_add3 f n 5 3 9 0 9 (by decide) (by decide) (by decide) sb qb t _ hsb hqb ht).mono ?_
  rintro e w6 ⟨rfl, ht, kb⟩
  replace g := Kb.gn0 g kb hwt; replace hF := hF.kb kb hft hkt; replace hsb := Kb.block kb hsb hsbt; replace hqb := Kb.block kb hqb hqbt; replace hR := hR.kb kb hrt
  clear kb hx
  go_wp2_with fail
  rw [rounds_succ]
  have d0 := hR.c 4 _ rfl; have d1 := hR.c 5 _ rfl; have d2 := hR.c 6 (.int .i64 4) rfl; have d3 := hR.c 7 (.int .i64 9) rfl; have ld := hR.lt
  go_wp2_with fail
  clear d0 d1 d2 d3 ld
  have g1 := Gn.al (w := w6) (.cells #[.int .i64 0, .int .i64 0, .int .i64 4, .int .i64 9] 39)
  have hx := hnew w6 (.cells #[.int .i64 0, .int .i64 0, .int .i64 4, .int .i64 9] 39)
  have hxt : w6.heap.size ≠ t := by have := blk_lt ht; omega
  replace g := g.trans g1; replace hF := hF.up g1; replace ht := g1.block ht; replace hsb := g1.block hsb; replace hqb := g1.block hqb; replace hR := hR.up g1
  clear g1
  generalize w6.alloc (.cells #[.int .i64 0, .int .i64 0, .int .i64 4, .int .i64 9] 39) = v1 at *
  generalize w6.heap.size = x1 at *
  refine (e_match_4 k c 9 _ hF.2).mono ?_
  rintro e w7 ⟨rfl, g1⟩
  replace g := g.trans g1; replace hF := hF.up g1; replace ht := g1.block ht; replace hsb := g1.block hsb; replace hqb := g1.block hqb; replace hR := hR.up g1; replace hx := g1.block hx
  clear g1
  have lx := blk_lt hx; have y0 := obj_cell hx 0 rfl; have y1 := obj_cell hx 1 rfl; have y2 := obj_cell hx 2 rfl; have y3 := obj_cell hx 3 rfl
  go_wp2_with fail
  clear lx y0 y1 y2 y3
  rw [rounds_succ]
  have d0 := hR.c 8 _ rfl; have d1 := hR.c 9 _ rfl; have d2 := hR.c 10 (.int .i64 5) rfl; have d3 := hR.c 11 (.int .i64 4) rfl; have ld := hR.lt
  go_wp2_with fail
  clear d0 d1 d2 d3 ld
  have g1 := Gn.al (w := w7) (.cells #[.int .i64 0, .int .i64 0, .int .i64 5, .int .i64 4] 39)
  have hx := hnew w7 (.cells #[.int .i64 0, .int .i64 0, .int .i64 5, .int .i64 4] 39)
  have hxt : w7.heap.size ≠ t := by have := blk_lt ht; omega
  replace g := g.trans g1; replace hF := hF.up g1; replace ht := g1.block ht; replace hsb := g1.block hsb; replace hqb := g1.block hqb; replace hR := hR.up g1
  clear g1
  generalize w7.alloc (.cells #[.int .i64 0, .int .i64 0, .int .i64 5, .int .i64 4] 39) = v2 at *
  generalize w7.heap.size = x2 at *
  refine (e_match_5 k c 4 _ hF.2).mono ?_
  rintro e w9 ⟨rfl, g1⟩
  replace g := g.trans g1; replace hF := hF.up g1; replace ht := g1.block ht; replace hsb := g1.block hsb; replace hqb := g1.block hqb; replace hR := hR.up g1; replace hx := g1.block hx
  clear g1
  have lx := blk_lt hx; have y0 := obj_cell hx 0 rfl; have y1 := obj_cell hx 1 rfl; have y2 := obj_cell hx 2 rfl; have y3 := obj_cell hx 3 rfl
  go_wp2_with fail
  clear lx y0 y1 y2 y3
  refine (e_add3 f n 5 4 16 9 25 (by decide) (by decide) (by decide) sb qb t _ hsb hqb ht).mono ?_
  rintro e w10 ⟨rfl, ht, kb⟩
  replace g := Kb.gn0 g kb hwt; replace hF := hF.kb kb hft hkt; replace hsb := Kb.block kb hsb hsbt; replace hqb := Kb.block kb hqb hqbt; replace hR := hR.kb kb hrt
  clear kb hx
  go_wp2_with fail
  rw [rounds_succ]
  go_wp2_with fail
  rw [rounds_succ]
  go_wp2_with fail
  go_ret
  exact ⟨t, rfl, ht, g⟩
end Go.Proofs.YtgambglgkilgkaaGreatDoor
