/- The type checker on one fixed query: Valid. -/
import Derived.Test.YtgambglgkilgkaaGreatDoorTk3
namespace Go.Proofs.YtgambglgkilgkaaGreatDoor
open Go.RowKit Go.ChangeMaps
theorem v_forms (w : World) : Calls Tryz.prog 36 #[] w fun e w' => ∃ bm, e = .returned (.map (some bm)) ∧ w'.heap[bm]? = some (.map fms 7) ∧ Gn w w' :=
  (q_forms w).mono fun _ _ h => ⟨_, h⟩
theorem v_column (z : Int) (hz : z = 2 ∨ z = 3) (w : World) : Calls Tryz.prog 46 #[.int .i64 z] w fun e w' => e = .returned (.bool true) ∧ Gn w w' := by
  have h0 : decide (0 ≤ z) = true := by simp; omega
  have h4 : decide (z < 4) = true := by simp; omega
  clear hz
  go_enter Tryz.func46, Tryz.ntmps46
  go_wp2_with fail
  refine (q_columns _).mono ?_
  rintro e w1 ⟨rfl, hc, g⟩
  clear hc
  go_wp2_with fail
  go_ret
  exact ⟨rfl, g⟩
set_option maxRecDepth 100000 in
set_option maxHeartbeats 4000000 in
theorem v_cond (w : World) : Calls Tryz.prog 49 #[.agg #[.int .i64 2, .int .i64 5, .int .i64 5]] w fun e w' => e = .returned (.bool true) ∧ Gn w w' := by
  have hU : ∀ w, Calls Tryz.prog 46 #[.int .i64 2] w fun e w' => e = .returned (.bool true) ∧ ∃ g', w' = gr w g' := v_column 2 (.inl rfl)
  have hM : ∀ w, Calls Tryz.prog 81 #[.int .i64 2] w fun e w' => e = .returned (.int .i64 15) ∧ w = w' := q_columnMax2
  go_enter Tryz.func49, Tryz.ntmps49
  go_wp2_with fail
  have hq := hnew w (.cells #[.int .i64 2, .int .i64 5, .int .i64 5] 101)
  have g := Gn.al (w := w) (.cells #[.int .i64 2, .int .i64 5, .int .i64 5] 101)
  generalize w.alloc (.cells #[.int .i64 2, .int .i64 5, .int .i64 5] 101) = w1 at *
  generalize ebq : w.heap.size = bq at *
  replace ebq := Lib.hid ebq
  have lq := blk_lt hq
  have q0 := obj_cell hq 0 rfl; have q1 := obj_cell hq 1 rfl; have q2 := obj_cell hq 2 rfl
  try simp only [List.append_eq, List.cons_append, List.nil_append]
  refine wp_region_gr (by kernel_rfl) (lex_of_chk (by kernel_rfl) (by kernel_rfl)) ?_
  repeat (go_big_quiet_step (first | (go_at_call 46; with_reducible apply qg (hU _); rfl) | (go_at_call 81; with_reducible apply qa (hM _); rfl)))
  refine wpQuiet_nil ?_
  intro w3 kk
  go_wp2_with fail
  go_ret
  exact ⟨rfl, g.trans kk⟩
theorem v_valid1 (w : World) : Calls Tryz.prog 48 #[.agg #[.int .i64 2, .int .i64 5, .int .i64 5]] w fun e w' => e = .returned (.bool false) ∧ Gn w w' := by
  go_enter Tryz.func48, Tryz.ntmps48
  go_wp2_with fail
  refine (v_cond _).mono ?_
  rintro e w1 ⟨rfl, g⟩
  go_wp2_with fail
  go_ret
  exact ⟨rfl, (Gn.al _).trans g⟩
theorem v_index (b c : Nat) (w : World) (h : Cs w b) :
    Calls Tryz.prog 80 #[.slice (some ⟨b, 0, none⟩) 1 c, .func (.func 48) #[] #[]] w fun e w' => e = .returned (.int .i64 (-1)) ∧ Gn w w' := by
  have c0 := h.c0; have c1 := h.c1; have c2 := h.c2; have lt := h.lt
  go_enter Tryz.func80, Tryz.ntmps80
  go_wp2_with fail
  refine wp_loop_rounds 2 ?_
  rw [rounds_succ]
  go_wp2_with fail
  refine (v_valid1 _).mono ?_
  rintro e w1 ⟨rfl, g⟩
  clear c0 c1 c2 lt h
  go_wp2_with fail
  rw [rounds_succ]
  go_wp2_with fail
  go_ret
  exact ⟨rfl, g⟩
theorem v_contains (b c : Nat) (w : World) (h : Cs w b) :
    Calls Tryz.prog 47 #[.slice (some ⟨b, 0, none⟩) 1 c, .func (.func 48) #[] #[]] w fun e w' => e = .returned (.bool false) ∧ Gn w w' := by
  go_enter Tryz.func47, Tryz.ntmps47
  go_wp2_with fail
  refine (v_index b c _ h).mono ?_
  rintro e w1 ⟨rfl, g⟩
  go_wp2_with fail
  go_ret
  exact ⟨rfl, g⟩
set_option maxRecDepth 100000 in
set_option maxHeartbeats 4000000 in
theorem v_valid (f k c n : Nat) (w : World) (hF : Fl w f k c) :
    Calls Tryz.prog 22 #[.agg #[.int .i64 3, .int .i64 3, .int .i64 2, .slice (some ⟨f, 0, none⟩) 1 n]] w fun e w' => e = .returned (.bool true) ∧ Gn w w' := by
  go_enter Tryz.func22, Tryz.ntmps22
  go_wp2_with fail
  have hq := hnew w (.cells #[.int .i64 3, .int .i64 3, .int .i64 2, .slice (some ⟨f, 0, none⟩) 1 n] 35)
  have g := Gn.al (w := w) (.cells #[.int .i64 3, .int .i64 3, .int .i64 2, .slice (some ⟨f, 0, none⟩) 1 n] 35)
  replace hF := hF.up g
  generalize w.alloc (.cells #[.int .i64 3, .int .i64 3, .int .i64 2, .slice (some ⟨f, 0, none⟩) 1 n] 35) = w0 at *
  generalize ebq : w.heap.size = bq at *
  replace ebq := Lib.hid ebq
  have lq := blk_lt hq; have q0 := obj_cell hq 0 rfl
  have uk := Tryz.underlying3
  have ut := Tryz.underlying84
  have hfl := hF.lt; have hkl := hF.2.lt; have hwl := g.size
  have hfn : f ≠ w0.heap.size := Nat.ne_of_lt hfl
  have hkn : k ≠ w0.heap.size := Nat.ne_of_lt hkl
  have hbn : bq ≠ w0.heap.size := Nat.ne_of_lt lq
  go_region_with (go_at_call 36; refine (v_forms _).mono ?_; rintro e w1 ⟨bm, rfl, hm, g1⟩; have hq1 : w1.heap[bq]? = _ := (by first | exact Gn.block g1 hq | exact Gn.block g1 (Gn.block (Gn.al _) hq)); have s0 := obj_cell hq1 0 rfl; have lq1 := blk_lt hq1; have e1 : (Instr.lookup 84 (.map (some bm)) (.int .i64 3) true).run Tryz.prog w1 = .ok (.tuple #[.agg #[.string ⟨#[109, 111, 109, 101, 110, 116]⟩, .bool true, .int .i64 6, .int .i64 1], .bool true]) w1 := run_lookI ut uk hm (i := 2) rfl true; have e2 : (Instr.lookup 84 (.map (some bm)) (.int .i64 3) true).run Tryz.prog (w1.alloc (.cells #[.string ⟨#[]⟩, .bool false, .int .i64 0, .int .i64 0] 87)) = .ok (.tuple #[.agg #[.string ⟨#[109, 111, 109, 101, 110, 116]⟩, .bool true, .int .i64 6, .int .i64 1], .bool true]) (w1.alloc (.cells #[.string ⟨#[]⟩, .bool false, .int .i64 0, .int .i64 0] 87)) := run_lookI ut uk (Gn.block (Gn.al _) hm) (i := 2) rfl true; first | (have hb : w1.heap[w0.heap.size]? = some (.cells #[.string ⟨#[]⟩, .bool false, .int .i64 0, .int .i64 0] 87) := Gn.block g1 (hnew w0.drew (.cells #[.string ⟨#[]⟩, .bool false, .int .i64 0, .int .i64 0] 87)); have b0 := obj_cell hb 0 rfl; have b1 := obj_cell hb 1 rfl; have b2 := obj_cell hb 2 rfl; have b3 := obj_cell hb 3 rfl; have lb := blk_lt hb; have f0 : w1.frozen? ⟨w0.heap.size, 0, none⟩ = false := box_fz hb; have f1 : w1.frozen? ⟨w0.heap.size, 1, none⟩ = false := box_fz hb; have f2 : w1.frozen? ⟨w0.heap.size, 2, none⟩ = false := box_fz hb; have f3 : w1.frozen? ⟨w0.heap.size, 3, none⟩ = false := box_fz hb) | skip)
  all_goals
    have gw : Gn w w1 := g.trans (by first | exact (Gn.drew _).trans g1 | exact ((Gn.drew _).trans (Gn.al _)).trans g1)
    have hF1 : Fl w1 f k c := hF.up (by first | exact (Gn.drew _).trans g1 | exact ((Gn.drew _).trans (Gn.al _)).trans g1)
    first
      | (have hf2 : ((((w1.setCell ⟨w0.heap.size, 0, none⟩ (.string ⟨#[109, 111, 109, 101, 110, 116]⟩)).setCell ⟨w0.heap.size, 1, none⟩ (.bool true)).setCell ⟨w0.heap.size, 2, none⟩ (.int .i64 6)).setCell ⟨w0.heap.size, 3, none⟩ (.int .i64 1)).heap[w0.heap.size]? = some (.cells #[.string ⟨#[109, 111, 109, 101, 110, 116]⟩, .bool true, .int .i64 6, .int .i64 1] 87) := (psetg (psetg (psetg (psetg hb 0 (.string ⟨#[109, 111, 109, 101, 110, 116]⟩)) 1 (.bool true)) 2 (.int .i64 6)) 3 (.int .i64 1))
         have hq2 := ((Below.heap_setCell (((w1.setCell ⟨w0.heap.size, 0, none⟩ (.string ⟨#[109, 111, 109, 101, 110, 116]⟩)).setCell ⟨w0.heap.size, 1, none⟩ (.bool true)).setCell ⟨w0.heap.size, 2, none⟩ (.int .i64 6)) ⟨w0.heap.size, 3, none⟩ (.int .i64 1) bq hbn).trans ((Below.heap_setCell ((w1.setCell ⟨w0.heap.size, 0, none⟩ (.string ⟨#[109, 111, 109, 101, 110, 116]⟩)).setCell ⟨w0.heap.size, 1, none⟩ (.bool true)) ⟨w0.heap.size, 2, none⟩ (.int .i64 6) bq hbn).trans ((Below.heap_setCell (w1.setCell ⟨w0.heap.size, 0, none⟩ (.string ⟨#[109, 111, 109, 101, 110, 116]⟩)) ⟨w0.heap.size, 1, none⟩ (.bool true) bq hbn).trans ((Below.heap_setCell w1 ⟨w0.heap.size, 0, none⟩ (.string ⟨#[109, 111, 109, 101, 110, 116]⟩) bq hbn).trans hq1))))
         have hF2 := (Fl.far (Fl.far (Fl.far (Fl.far hF1 hfn hkn 0 (.string ⟨#[109, 111, 109, 101, 110, 116]⟩)) hfn hkn 1 (.bool true)) hfn hkn 2 (.int .i64 6)) hfn hkn 3 (.int .i64 1))
         have g2 := (Gn.set (Gn.set (Gn.set (Gn.set gw hwl 0 (.string ⟨#[109, 111, 109, 101, 110, 116]⟩)) hwl 1 (.bool true)) hwl 2 (.int .i64 6)) hwl 3 (.int .i64 1))
         generalize (((w1.setCell ⟨w0.heap.size, 0, none⟩ (.string ⟨#[109, 111, 109, 101, 110, 116]⟩)).setCell ⟨w0.heap.size, 1, none⟩ (.bool true)).setCell ⟨w0.heap.size, 2, none⟩ (.int .i64 6)).setCell ⟨w0.heap.size, 3, none⟩ (.int .i64 1) = w2 at *
         generalize w0.heap.size = fb at *)
      | (have hf2 := hnew w1 (.cells #[.string ⟨#[109, 111, 109, 101, 110, 116]⟩, .bool true, .int .i64 6, .int .i64 1] 87)
         have hq2 := Gn.block (Gn.al (w := w1) (.cells #[.string ⟨#[109, 111, 109, 101, 110, 116]⟩, .bool true, .int .i64 6, .int .i64 1] 87)) hq1
         have hF2 := hF1.up (Gn.al (w := w1) (.cells #[.string ⟨#[109, 111, 109, 101, 110, 116]⟩, .bool true, .int .i64 6, .int .i64 1] 87))
         have g2 := gw.trans (Gn.al (w := w1) (.cells #[.string ⟨#[109, 111, 109, 101, 110, 116]⟩, .bool true, .int .i64 6, .int .i64 1] 87))
         generalize w1.alloc (.cells #[.string ⟨#[109, 111, 109, 101, 110, 116]⟩, .bool true, .int .i64 6, .int .i64 1] 87) = w2 at *
         generalize w1.heap.size = fb at *)
    clear lq q0 hF1 s0 lq1 e1 e2 hm
    have lq := blk_lt hq2; have l0 := blk_lt hf2
    have q1 := obj_cell hq2 1 rfl; have q2 := obj_cell hq2 2 rfl; have q3 := obj_cell hq2 3 rfl
    have b1 := obj_cell hf2 1 rfl; have b2 := obj_cell hf2 2 rfl; have b3 := obj_cell hf2 3 rfl
    go_wp2_with fail
    refine (v_column 3 (.inr rfl) _).mono ?_
    rintro e w3 ⟨rfl, g3⟩
    replace g2 := g2.trans g3; replace hF2 := hF2.up g3; replace hq2 := Gn.block g3 hq2; replace hf2 := Gn.block g3 hf2
    clear lq l0 q1 q2 q3 b1 b2 b3 g3
    have lq := blk_lt hq2; have l0 := blk_lt hf2
    have q1 := obj_cell hq2 1 rfl; have q3 := obj_cell hq2 3 rfl
    have b1 := obj_cell hf2 1 rfl
    go_wp2_with fail
    refine wp_loop_rounds 2 ?_
    rw [rounds_succ]
    have d0 := hF2.c0; have dl := hF2.lt
    go_wp2_with fail
    refine (v_contains k c _ hF2.2).mono ?_
    rintro e w4 ⟨rfl, g3⟩
    replace g2 := g2.trans g3
    clear d0 dl q1 q3 b1 lq l0 hF2 hq2 hf2
    go_wp2_with fail
    rw [rounds_succ]
    go_wp2_with fail
    go_ret
    exact ⟨rfl, g2⟩
end Go.Proofs.YtgambglgkilgkaaGreatDoor
