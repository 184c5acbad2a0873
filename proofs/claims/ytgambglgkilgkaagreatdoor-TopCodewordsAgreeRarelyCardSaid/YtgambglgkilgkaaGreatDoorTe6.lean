/- sanity15. -/
import Derived.Test.YtgambglgkilgkaaGreatDoorTe5
import Derived.Test.YtgambglgkilgkaaGreatDoorTk5
import Derived.Test.YtgambglgkilgkaaGreatDoorTp9
namespace Go.Proofs.YtgambglgkilgkaaGreatDoor
open Go.RowKit Go.ChangeMaps
set_option maxRecDepth 100000 in
set_option maxHeartbeats 4000000 in
theorem s_same15 (s t : Nat) (w : World) (hs : w.heap[s]? = some (.cells #[.int .i64 25] 2)) (ht : w.heap[t]? = some (.cells #[.int .i64 25] 2)) :
    Calls Tryz.prog 25 #[.slice (some ⟨s, 0, none⟩) 1 1, .slice (some ⟨t, 0, none⟩) 1 1] w fun e w' => e = .returned (.bool true) ∧ Gn w w' := by
  have s0 := obj_cell hs 0 rfl; have ls := blk_lt hs; have t0 := obj_cell ht 0 rfl; have lt := blk_lt ht
  go_enter Tryz.func25, Tryz.ntmps25
  go_wp2_with fail
  refine wp_loop_rounds 2 ?_
  rw [rounds_succ]
  go_wp2_with fail
  try simp only [List.append_eq, List.cons_append, List.nil_append]
  refine wp_region_gr (by kernel_rfl) (lex_of_chk (by kernel_rfl) (by kernel_rfl)) ?_
  repeat (go_big_quiet_step (fail))
  refine wpQuiet_nil ?_
  intro w3 kk
  clear s0 ls t0 lt
  go_wp2_with fail
  rw [rounds_succ]
  go_wp2_with fail
  go_ret
  exact ⟨rfl, kk⟩
theorem s_same (s t : Nat) (w : World) (hs : w.heap[s]? = some (.cells #[.int .i64 25] 2)) (ht : w.heap[t]? = some (.cells #[.int .i64 25] 2)) :
    Calls Tryz.prog 10 #[.slice (some ⟨s, 0, none⟩) 1 1, .slice (some ⟨t, 0, none⟩) 1 1] w fun e w' => e = .returned (.bool true) ∧ Gn w w' := by
  go_enter Tryz.func10, Tryz.ntmps10
  go_wp2_with fail
  refine (s_same15 s t _ hs ht).mono ?_
  rintro e w1 ⟨rfl, g⟩
  go_wp2_with fail
  go_ret
  exact ⟨rfl, g⟩
set_option maxRecDepth 100000 in
set_option maxHeartbeats 4000000 in
theorem s_sanity15 (w : World) (hT : WT w) : Calls Tryz.prog 4 #[] w fun e w' => e = .returned (.bool true) ∧ Gn w w' := by
  go_enter Tryz.func4, Tryz.ntmps4
  go_wp2_with fail
  refine (q_parse _).mono ?_
  rintro e w1 ⟨f, k, c, n, rfl, hF, g⟩
  replace hT := hT.up g
  go_wp2_with fail
  have g4 := Gn.al (w := ((w1.alloc (.cells #[.int .i64 3, .int .i64 3, .int .i64 2, .slice (some ⟨f, 0, none⟩) 1 n] 35)).alloc (.cells #[.int .i64 0, .int .i64 0, .int .i64 5, .int .i64 3, .int .i64 0, .int .i64 0, .int .i64 4, .int .i64 9, .int .i64 0, .int .i64 0, .int .i64 5, .int .i64 4] 39)).alloc (.cells #[.bool false, .bool false, .bool false] 4)) (.cells #[.slice (some ⟨w1.heap.size + 1, 0, none⟩) 3 3, .slice (some ⟨w1.heap.size + 1 + 1, 0, none⟩) 3 3] 43)
  have g3 := (Gn.al (w := (w1.alloc (.cells #[.int .i64 3, .int .i64 3, .int .i64 2, .slice (some ⟨f, 0, none⟩) 1 n] 35)).alloc (.cells #[.int .i64 0, .int .i64 0, .int .i64 5, .int .i64 3, .int .i64 0, .int .i64 0, .int .i64 4, .int .i64 9, .int .i64 0, .int .i64 0, .int .i64 5, .int .i64 4] 39)) (.cells #[.bool false, .bool false, .bool false] 4)).trans g4
  have g2 := (Gn.al (w := w1.alloc (.cells #[.int .i64 3, .int .i64 3, .int .i64 2, .slice (some ⟨f, 0, none⟩) 1 n] 35)) (.cells #[.int .i64 0, .int .i64 0, .int .i64 5, .int .i64 3, .int .i64 0, .int .i64 0, .int .i64 4, .int .i64 9, .int .i64 0, .int .i64 0, .int .i64 5, .int .i64 4] 39)).trans g3
  have hq := Gn.block g2 (hnew w1 (.cells #[.int .i64 3, .int .i64 3, .int .i64 2, .slice (some ⟨f, 0, none⟩) 1 n] 35))
  have hl := Gn.block g3 (hnew (w1.alloc (.cells #[.int .i64 3, .int .i64 3, .int .i64 2, .slice (some ⟨f, 0, none⟩) 1 n] 35)) (.cells #[.int .i64 0, .int .i64 0, .int .i64 5, .int .i64 3, .int .i64 0, .int .i64 0, .int .i64 4, .int .i64 9, .int .i64 0, .int .i64 0, .int .i64 5, .int .i64 4] 39))
  have hg := Gn.block g4 (hnew ((w1.alloc (.cells #[.int .i64 3, .int .i64 3, .int .i64 2, .slice (some ⟨f, 0, none⟩) 1 n] 35)).alloc (.cells #[.int .i64 0, .int .i64 0, .int .i64 5, .int .i64 3, .int .i64 0, .int .i64 0, .int .i64 4, .int .i64 9, .int .i64 0, .int .i64 0, .int .i64 5, .int .i64 4] 39)) (.cells #[.bool false, .bool false, .bool false] 4))
  have hs := hnew (((w1.alloc (.cells #[.int .i64 3, .int .i64 3, .int .i64 2, .slice (some ⟨f, 0, none⟩) 1 n] 35)).alloc (.cells #[.int .i64 0, .int .i64 0, .int .i64 5, .int .i64 3, .int .i64 0, .int .i64 0, .int .i64 4, .int .i64 9, .int .i64 0, .int .i64 0, .int .i64 5, .int .i64 4] 39)).alloc (.cells #[.bool false, .bool false, .bool false] 4)) (.cells #[.slice (some ⟨w1.heap.size + 1, 0, none⟩) 3 3, .slice (some ⟨w1.heap.size + 1 + 1, 0, none⟩) 3 3] 43)
  rw [al_size] at hl
  rw [al_size, al_size] at hg
  rw [al_size, al_size, al_size] at hs
  have gg := (Gn.al (w := w1) (.cells #[.int .i64 3, .int .i64 3, .int .i64 2, .slice (some ⟨f, 0, none⟩) 1 n] 35)).trans g2
  replace hT := hT.up gg; replace hF := hF.up gg; replace g := g.trans gg
  clear g2 g3 g4 gg
  generalize (((w1.alloc (.cells #[.int .i64 3, .int .i64 3, .int .i64 2, .slice (some ⟨f, 0, none⟩) 1 n] 35)).alloc (.cells #[.int .i64 0, .int .i64 0, .int .i64 5, .int .i64 3, .int .i64 0, .int .i64 0, .int .i64 4, .int .i64 9, .int .i64 0, .int .i64 0, .int .i64 5, .int .i64 4] 39)).alloc (.cells #[.bool false, .bool false, .bool false] 4)).alloc (.cells #[.slice (some ⟨w1.heap.size + 1, 0, none⟩) 3 3, .slice (some ⟨w1.heap.size + 1 + 1, 0, none⟩) 3 3] 43) = w2 at *
  generalize w1.heap.size + 1 + 1 + 1 = bs at *
  generalize w1.heap.size + 1 + 1 = bg at *
  generalize w1.heap.size + 1 = bl at *
  generalize w1.heap.size = bq at *
  refine (t_check f k c n _ hT hF).mono ?_
  rintro e w3 ⟨s, rfl, hb, g1⟩
  replace hF := hF.up g1; replace g := g.trans g1; replace hq := g1.block hq; replace hl := g1.block hl; replace hg := g1.block hg; replace hs := g1.block hs
  clear g1 hT
  have lq := blk_lt hq; have q0 := obj_cell hq 0 rfl; have q1 := obj_cell hq 1 rfl; have q2 := obj_cell hq 2 rfl; have q3 := obj_cell hq 3 rfl
  have ls := blk_lt hs; have s0 := obj_cell hs 0 rfl; have s1 := obj_cell hs 1 rfl
  go_wp2_with fail
  clear lq q0 q1 q2 q3 ls s0 s1 hq hs
  have g1 := Gn.al (w := w3) (.cells #[.slice (some ⟨s, 0, none⟩) 1 1] 46)
  have hbb := hnew w3 (.cells #[.slice (some ⟨s, 0, none⟩) 1 1] 46)
  replace hF := hF.up g1; replace g := g.trans g1; replace hl := g1.block hl; replace hg := g1.block hg; replace hb := g1.block hb
  clear g1
  generalize w3.alloc (.cells #[.slice (some ⟨s, 0, none⟩) 1 1] 46) = v3 at *
  generalize w3.heap.size = bb at *
  refine (e_sums f k c n bl bg _ hF hl hg).mono ?_
  rintro e w4 ⟨t, rfl, ht, g1⟩
  replace g := g.trans g1; replace hb := g1.block hb; replace hbb := g1.block hbb
  clear g1 hF hl hg
  go_wp2_with fail
  have g1 := Gn.al (w := w4) (.cells #[.int .i64 25] 2)
  have hx := hnew w4 (.cells #[.int .i64 25] 2)
  replace g := g.trans g1; replace hb := g1.block hb; replace hbb := g1.block hbb; replace ht := g1.block ht
  clear g1
  generalize w4.alloc (.cells #[.int .i64 25] 2) = v4 at *
  generalize w4.heap.size = bx at *
  refine (s_same t bx _ ht hx).mono ?_
  rintro e w5 ⟨rfl, g1⟩
  replace g := g.trans g1; replace hb := g1.block hb; replace hbb := g1.block hbb
  clear g1 hx ht
  have b0 := obj_cell hbb 0 rfl; have lb := blk_lt hbb; have s0 := obj_cell hb 0 rfl; have ls := blk_lt hb
  go_wp2_with fail
  go_ret
  exact ⟨rfl, g⟩
end Go.Proofs.YtgambglgkilgkaaGreatDoor
