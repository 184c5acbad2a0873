/- The type checker on one fixed query: moment, kinds. -/
import Derived.Test.YtgambglgkilgkaaGreatDoorTk2
import Derived.Test.YtgambglgkilgkaaGreatDoorTp9
namespace Go.Proofs.YtgambglgkilgkaaGreatDoor
open Go.RowKit Go.ChangeMaps
theorem t_exp (a b k : Int) (F : Value) (w : World) : Calls Tryz.prog 53 #[.agg #[.int .i64 a, .int .i64 b, .int .i64 k, F]] w fun e w' => e = .returned (.int .i64 k) ∧ Gn w w' := by
  go_enter Tryz.func53, Tryz.ntmps53
  go_wp2_with fail
  go_ret
  exact ⟨rfl, Gn.al _⟩
set_option maxRecDepth 100000 in
set_option maxHeartbeats 4000000 in
theorem t_moment1 (f k c n x : Nat) (w : World) (hT : WT w) (hF : Fl w f k c) (hx : w.heap[x]? = some (.cells #[.func (.func 53) #[] #[]] 73)) :
    Calls Tryz.prog 82 #[.agg #[.int .i64 3, .int .i64 3, .int .i64 2, .slice (some ⟨f, 0, none⟩) 1 n], .int .i64 3, .pointer (some ⟨x, 0, none⟩)] w
      fun e w' => ∃ s, e = .returned (.tuple #[.slice (some ⟨s, 0, none⟩) 1 1, .bool true]) ∧ w'.heap[s]? = some (.cells #[.int .i64 195075] 2) ∧ w.heap.size ≤ s ∧ Gn w w' := by
  go_enter Tryz.func82, Tryz.ntmps82
  have l0 := hF.lt; have d0 := hF.c0
  go_wp2_with fail
  clear l0 d0
  have hq := hnew w (.cells #[.int .i64 3, .int .i64 3, .int .i64 2, .slice (some ⟨f, 0, none⟩) 1 n] 35)
  have g := Gn.al (w := w) (.cells #[.int .i64 3, .int .i64 3, .int .i64 2, .slice (some ⟨f, 0, none⟩) 1 n] 35)
  replace hT := hT.up g; replace hF := hF.up g; replace hx := Gn.block g hx
  generalize w.alloc (.cells #[.int .i64 3, .int .i64 3, .int .i64 2, .slice (some ⟨f, 0, none⟩) 1 n] 35) = w1 at *
  generalize ebq : w.heap.size = bq at *
  replace ebq := Lib.hid ebq
  refine (t_satisf k c _ hT hF.2).mono ?_
  rintro e w2 ⟨rfl, g2⟩
  replace hT := hT.up g2; replace hF := hF.up g2; replace hx := Gn.block g2 hx; replace hq := Gn.block g2 hq; replace g := g.trans g2
  clear g2
  go_wp2_with fail
  have l0 := hF.lt; have d0 := hF.c0; have lq := blk_lt hq; have lx := blk_lt hx
  have q0 := obj_cell hq 0 rfl; have q1 := obj_cell hq 1 rfl; have q2 := obj_cell hq 2 rfl; have q3 := obj_cell hq 3 rfl; have x0 := obj_cell hx 0 rfl
  have hU : ∀ g, Calls Tryz.prog 85 #[.slice (some ⟨k, 0, none⟩) 1 c, .int .i64 3] (gr w2 g) fun e w' => e = .returned (.agg #[.int .i64 0, .int .i64 255]) ∧ ∃ g', w' = gr (gr w2 g) g' := fun g => t_under3 k c _ (hT.up ⟨g, rfl⟩) (hF.2.up ⟨g, rfl⟩)
  have hE : ∀ w, Calls Tryz.prog 53 #[.agg #[.int .i64 3, .int .i64 3, .int .i64 2, .slice (some ⟨f, 0, none⟩) 1 n]] w fun e w' => e = .returned (.int .i64 2) ∧ ∃ g', w' = gr w g' := t_exp 3 3 2 _
  have hP : ∀ w, Calls Tryz.prog 84 #[.int .i64 3, .int .i64 255, .int .i64 2] w fun e w' => e = .returned (.tuple #[.int .i64 195075, .bool true]) ∧ ∃ g', w' = gr w g' := t_power
  have hfl : ∀ w, (Instr.field 128 (.agg #[.int .i64 0, .int .i64 255]) 1).run Tryz.prog w = .ok (.int .i64 255) w := fun _ => by kernel_rfl
  try simp only [List.append_eq, List.cons_append, List.nil_append]
  refine wp_region_gr (by kernel_rfl) (lex_of_chk (by kernel_rfl) (by kernel_rfl)) ?_
  repeat (go_big_quiet_step (first | (go_at_call 85; with_reducible apply qg (hU _); rfl) | (go_at_call 53; with_reducible apply qg (hE _); rfl) | (go_at_call 84; with_reducible apply qg (hP _); rfl)))
  refine wpQuiet_nil ?_
  intro w3 kk
  clear l0 d0 lq lx q0 q1 q2 q3 x0
  replace g := g.trans kk
  go_wp2_with fail
  go_ret2
  exact ⟨_, rfl, hnew w3 _, g.size, g.trans (Gn.al _)⟩
theorem t_moment (i : FuncId) (w : World) : Calls Tryz.prog 50 #[.func (.func i) #[] #[]] w fun e w' => ∃ x, e = .returned (.func (.func 82) #[] #[.pointer (some ⟨x, 0, none⟩)]) ∧ w'.heap[x]? = some (.cells #[.func (.func i) #[] #[]] 73) ∧ w.heap.size ≤ x ∧ Gn w w' := by
  go_enter Tryz.func50, Tryz.ntmps50
  go_wp2_with fail
  go_ret
  exact ⟨_, rfl, hnew w _, Nat.le_refl _, Gn.al _⟩
set_option maxRecDepth 100000 in
set_option maxHeartbeats 4000000 in
theorem t_kinds (w : World) : Calls Tryz.prog 23 #[] w fun e w' => ∃ bm es clk x, e = .returned (.map (some bm)) ∧ w'.heap[bm]? = some (.map es clk) ∧
    Instr.findNow (.int .i64) (.int .i64 3) es.toList 0 = some (some (2, .agg #[.int .i64 1, .bool false, .func (.func 82) #[] #[.pointer (some ⟨x, 0, none⟩)]])) ∧
    w'.heap[x]? = some (.cells #[.func (.func 53) #[] #[]] 73) ∧ w.heap.size ≤ x ∧ Gn w w' := by
  have hmm := @run_makeMap Tryz.prog
  have uk := Tryz.underlying3
  have ut := Tryz.underlying69
  go_enter Tryz.func23, Tryz.ntmps23
  go_wp2_with fail
  have hm := hnew w (.map #[] 0)
  have hg : Kb w.heap.size w _ := Kb.of (Gn.al (w := w) (.map #[] 0))
  have hz : w.heap.size < (w.alloc (.map #[] 0)).heap.size := blk_lt hm
  generalize w.alloc (.map #[] 0) = w0 at *
  refine (t_moment _ _).mono ?_
  rintro e u1 ⟨x1, rfl, hx1, hs1, g⟩
  replace hm := Gn.block g hm; replace hg := hg.gn g; have hn1 := g.size
  clear g
  obtain ⟨w1, e1, hm, g1⟩ := put_ex ut uk hm 1 (.agg #[.int .i64 1, .bool false, .func (.func 82) #[] #[.pointer (some ⟨x1, 0, none⟩)]]) rfl
  replace hg := hg.trans g1
  go_wp2_with fail
  clear e1
  refine (t_moment _ _).mono ?_
  rintro e u2 ⟨x2, rfl, hx2, hs2, g⟩
  replace hm := Gn.block g hm; replace hg := hg.gn g; have hn2 := g.size
  clear g
  obtain ⟨w2, e2, hm, g2⟩ := put_ex ut uk hm 2 (.agg #[.int .i64 1, .bool false, .func (.func 82) #[] #[.pointer (some ⟨x2, 0, none⟩)]]) rfl
  replace hg := hg.trans g2
  go_wp2_with fail
  clear e2
  refine (t_moment _ _).mono ?_
  rintro e u3 ⟨x3, rfl, hx3, hs3, g⟩
  replace hm := Gn.block g hm; replace hg := hg.gn g; have hn3 := g.size
  clear g
  obtain ⟨w3, e3, hm, g3⟩ := put_ex ut uk hm 3 (.agg #[.int .i64 1, .bool false, .func (.func 82) #[] #[.pointer (some ⟨x3, 0, none⟩)]]) rfl
  replace hg := hg.trans g3
  have hb := hg.size; have hu := g1.size; have hu2 := g2.size
  replace hx3 := Kb.block g3 hx3 (by omega)
  obtain ⟨w4, e4, hm, g4⟩ := put_ex ut uk hm 4 (.agg #[.int .i64 16, .bool true, .func (.func 54) #[] #[]]) rfl
  replace hg := hg.trans g4; replace hx3 := Kb.block g4 hx3 (by omega)
  obtain ⟨w5, e5, hm, g5⟩ := put_ex ut uk hm 5 (.agg #[.int .i64 16, .bool true, .func (.func 54) #[] #[]]) rfl
  replace hg := hg.trans g5; replace hx3 := Kb.block g5 hx3 (by omega)
  obtain ⟨w6, e6, hm, g6⟩ := put_ex ut uk hm 6 (.agg #[.int .i64 16, .bool true, .func (.func 54) #[] #[]]) rfl
  replace hg := hg.trans g6; replace hx3 := Kb.block g6 hx3 (by omega)
  obtain ⟨w7, e7, hm, g7⟩ := put_ex ut uk hm 7 (.agg #[.int .i64 32, .bool false, .func (.func 55) #[] #[]]) rfl
  replace hg := hg.trans g7; replace hx3 := Kb.block g7 hx3 (by omega)
  clear uk ut
  go_wp2_with fail
  go_ret
  exact ⟨_, _, _, x3, rfl, hm, rfl, hx3, by omega, Gn.of (Below.grown (Below.refl _ _) hg (Nat.le_refl _) (by rintro _ ⟨rfl⟩; exact Nat.le_refl _))⟩
end Go.Proofs.YtgambglgkilgkaaGreatDoor
