/- The type checker on one fixed query: Check, Sums. -/
import Derived.Test.YtgambglgkilgkaaGreatDoorTk4
namespace Go.Proofs.YtgambglgkilgkaaGreatDoor
open Go.RowKit Go.ChangeMaps
theorem store_func (P : Program) (a : Addr) (fn : Fn) (xs ys : Array Value) (m : Mode) (w : World) : (store a (.func fn xs ys) m).run P w = stored P w a (.func fn xs ys) m := run_store P w a _ m rfl
set_option maxRecDepth 100000 in
set_option maxHeartbeats 4000000 in
theorem t_sums (f n : Nat) (w : World) :
    Calls Tryz.prog 26 #[.agg #[.int .i64 3, .int .i64 3, .int .i64 2, .slice (some ⟨f, 0, none⟩) 1 n]] w fun e w' => e = .returned (.int .i64 1) ∧ Gn w w' := by
  have uk := Tryz.underlying3
  have ut := Tryz.underlying69
  go_enter Tryz.func26, Tryz.ntmps26
  go_wp2_with fail
  have hq := hnew w (.cells #[.int .i64 3, .int .i64 3, .int .i64 2, .slice (some ⟨f, 0, none⟩) 1 n] 35)
  have g := Gn.al (w := w) (.cells #[.int .i64 3, .int .i64 3, .int .i64 2, .slice (some ⟨f, 0, none⟩) 1 n] 35)
  generalize w.alloc (.cells #[.int .i64 3, .int .i64 3, .int .i64 2, .slice (some ⟨f, 0, none⟩) 1 n] 35) = w0 at *
  generalize ebq : w.heap.size = bq at *
  replace ebq := Lib.hid ebq
  have lq := blk_lt hq; have q0 := obj_cell hq 0 rfl
  have hfl : ∀ x w, (Instr.field 68 (.agg #[.int .i64 1, .bool false, .func (.func 82) #[] #[.pointer (some ⟨x, 0, none⟩)]]) 0).run Tryz.prog w = .ok (.int .i64 1) w := fun _ _ => by kernel_rfl
  go_region_with (go_at_call 23; refine (t_kinds _).mono ?_; rintro e w1 ⟨bm, es, clk, x, rfl, hm, hl, hx, _, g1⟩; have hq1 := Gn.block g1 hq; have s0 := obj_cell hq1 0 rfl; have lq1 := blk_lt hq1; have e1 : (Instr.lookup 69 (.map (some bm)) (.int .i64 3) false).run Tryz.prog w1 = .ok (.agg #[.int .i64 1, .bool false, .func (.func 82) #[] #[.pointer (some ⟨x, 0, none⟩)]]) w1 := run_lookI ut uk hm hl false)
  all_goals
    have g2 : Gn w w1 := g.trans ((Gn.drew _).trans g1)
    clear e1 s0 lq1 hq1 hm hl hfl hx q0 lq
    go_wp2_with fail
    go_ret
    exact ⟨rfl, g2⟩
set_option maxRecDepth 100000 in
set_option maxHeartbeats 4000000 in
theorem t_check (f k c n : Nat) (w : World) (hT : WT w) (hF : Fl w f k c) :
    Calls Tryz.prog 9 #[.agg #[.int .i64 3, .int .i64 3, .int .i64 2, .slice (some ⟨f, 0, none⟩) 1 n], .int .i64 3] w
      fun e w' => ∃ s, e = .returned (.tuple #[.agg #[.slice (some ⟨s, 0, none⟩) 1 1], .int .i64 0]) ∧ w'.heap[s]? = some (.cells #[.int .i64 195075] 2) ∧ Gn w w' := by
  have uk := Tryz.underlying3
  have ut := Tryz.underlying69
  have hT0 := hT; have hF0 := hF
  have hsf := fun a fn xs ys m w => store_func Tryz.prog a fn xs ys m w
  go_enter Tryz.func9, Tryz.ntmps9
  go_wp2_with fail
  have hq := Gn.block (Gn.al (w := w.alloc (.cells #[.int .i64 3, .int .i64 3, .int .i64 2, .slice (some ⟨f, 0, none⟩) 1 n] 35)) (.cells #[.slice none 0 0] 46)) (hnew w (.cells #[.int .i64 3, .int .i64 3, .int .i64 2, .slice (some ⟨f, 0, none⟩) 1 n] 35))
  have hr := hnew (w.alloc (.cells #[.int .i64 3, .int .i64 3, .int .i64 2, .slice (some ⟨f, 0, none⟩) 1 n] 35)) (.cells #[.slice none 0 0] 46)
  rw [al_size] at hr
  have g := (Gn.al (w := w) (.cells #[.int .i64 3, .int .i64 3, .int .i64 2, .slice (some ⟨f, 0, none⟩) 1 n] 35)).trans (Gn.al (w := w.alloc (.cells #[.int .i64 3, .int .i64 3, .int .i64 2, .slice (some ⟨f, 0, none⟩) 1 n] 35)) (.cells #[.slice none 0 0] 46))
  replace hT := hT.up g; replace hF := hF.up g
  generalize (w.alloc (.cells #[.int .i64 3, .int .i64 3, .int .i64 2, .slice (some ⟨f, 0, none⟩) 1 n] 35)).alloc (.cells #[.slice none 0 0] 46) = v0 at *
  have hne : w.heap.size ≠ w.heap.size + 1 := (Nat.succ_ne_self _).symm
  have hwr : w.heap.size ≤ w.heap.size + 1 := Nat.le_succ _
  generalize w.heap.size + 1 = br at *
  generalize ebq : w.heap.size = bq at *
  replace ebq := Lib.hid ebq
  refine (v_valid f k c n _ hF).mono ?_
  rintro e w0 ⟨rfl, k0⟩
  replace hT := hT.up k0; replace hF := hF.up k0; replace hq := Gn.block k0 hq; replace hr := Gn.block k0 hr; replace g := g.trans k0
  clear k0
  go_wp2_with fail
  have lq := blk_lt hq; have q0 := obj_cell hq 0 rfl
  have hfn : f ≠ w0.heap.size := Nat.ne_of_lt hF.lt
  have hkn : k ≠ w0.heap.size := Nat.ne_of_lt hF.2.lt
  have hbn : bq ≠ w0.heap.size := Nat.ne_of_lt lq
  have hrn : br ≠ w0.heap.size := Nat.ne_of_lt (blk_lt hr)
  have hwl := g.size
  go_region_with (go_at_call 23; refine (t_kinds _).mono ?_; rintro e w1 ⟨bm, es, clk, x, rfl, hm, hl, hx, hxs, g1⟩; have hq1 : w1.heap[bq]? = _ := (by first | exact Gn.block g1 hq | exact Gn.block g1 (Gn.block (Gn.al _) hq)); have s0 := obj_cell hq1 0 rfl; have lq1 := blk_lt hq1; have e1 : (Instr.lookup 69 (.map (some bm)) (.int .i64 3) false).run Tryz.prog w1 = .ok (.agg #[.int .i64 1, .bool false, .func (.func 82) #[] #[.pointer (some ⟨x, 0, none⟩)]]) w1 := run_lookI ut uk hm hl false; have e2 : (Instr.lookup 69 (.map (some bm)) (.int .i64 3) false).run Tryz.prog (w1.alloc (.cells #[.int .i64 0, .bool false, .nilFunc] 68)) = .ok (.agg #[.int .i64 1, .bool false, .func (.func 82) #[] #[.pointer (some ⟨x, 0, none⟩)]]) (w1.alloc (.cells #[.int .i64 0, .bool false, .nilFunc] 68)) := run_lookI ut uk (Gn.block (Gn.al _) hm) hl false; first | (have hb : w1.heap[w0.heap.size]? = some (.cells #[.int .i64 0, .bool false, .nilFunc] 68) := Gn.block g1 (hnew w0.drew (.cells #[.int .i64 0, .bool false, .nilFunc] 68)); have b0 := obj_cell hb 0 rfl; have b1 := obj_cell hb 1 rfl; have b2 := obj_cell hb 2 rfl; have lb := blk_lt hb; have f0 : w1.frozen? ⟨w0.heap.size, 0, none⟩ = false := box_fz hb; have f1 : w1.frozen? ⟨w0.heap.size, 1, none⟩ = false := box_fz hb; have f2 : w1.frozen? ⟨w0.heap.size, 2, none⟩ = false := box_fz hb) | skip)
  all_goals
    have gw : Gn w w1 := g.trans (by first | exact (Gn.drew _).trans g1 | exact ((Gn.drew _).trans (Gn.al _)).trans g1)
    have hr1 : w1.heap[br]? = some (.cells #[.slice none 0 0] 46) := Gn.block (by first | exact (Gn.drew _).trans g1 | exact ((Gn.drew _).trans (Gn.al _)).trans g1) hr
    first
      | (have hxn : x ≠ w0.heap.size := Nat.ne_of_gt (Nat.lt_of_lt_of_le (show w0.heap.size < _ from Nat.lt_of_lt_of_eq (Nat.lt_succ_self _) (al_size w0.drew _).symm) hxs)
         have hf2 : (((w1.setCell ⟨w0.heap.size, 0, none⟩ (.int .i64 1)).setCell ⟨w0.heap.size, 1, none⟩ (.bool false)).setCell ⟨w0.heap.size, 2, none⟩ (.func (.func 82) #[] #[.pointer (some ⟨x, 0, none⟩)])).heap[w0.heap.size]? = some (.cells #[.int .i64 1, .bool false, .func (.func 82) #[] #[.pointer (some ⟨x, 0, none⟩)]] 68) := (psetg (psetg (psetg hb 0 (.int .i64 1)) 1 (.bool false)) 2 (.func (.func 82) #[] #[.pointer (some ⟨x, 0, none⟩)]))
         have hq2 := ((Below.heap_setCell ((w1.setCell ⟨w0.heap.size, 0, none⟩ (.int .i64 1)).setCell ⟨w0.heap.size, 1, none⟩ (.bool false)) ⟨w0.heap.size, 2, none⟩ (.func (.func 82) #[] #[.pointer (some ⟨x, 0, none⟩)]) bq hbn).trans ((Below.heap_setCell (w1.setCell ⟨w0.heap.size, 0, none⟩ (.int .i64 1)) ⟨w0.heap.size, 1, none⟩ (.bool false) bq hbn).trans ((Below.heap_setCell w1 ⟨w0.heap.size, 0, none⟩ (.int .i64 1) bq hbn).trans hq1)))
         have hr2 := ((Below.heap_setCell ((w1.setCell ⟨w0.heap.size, 0, none⟩ (.int .i64 1)).setCell ⟨w0.heap.size, 1, none⟩ (.bool false)) ⟨w0.heap.size, 2, none⟩ (.func (.func 82) #[] #[.pointer (some ⟨x, 0, none⟩)]) br hrn).trans ((Below.heap_setCell (w1.setCell ⟨w0.heap.size, 0, none⟩ (.int .i64 1)) ⟨w0.heap.size, 1, none⟩ (.bool false) br hrn).trans ((Below.heap_setCell w1 ⟨w0.heap.size, 0, none⟩ (.int .i64 1) br hrn).trans hr1)))
         have hx2 := ((Below.heap_setCell ((w1.setCell ⟨w0.heap.size, 0, none⟩ (.int .i64 1)).setCell ⟨w0.heap.size, 1, none⟩ (.bool false)) ⟨w0.heap.size, 2, none⟩ (.func (.func 82) #[] #[.pointer (some ⟨x, 0, none⟩)]) x hxn).trans ((Below.heap_setCell (w1.setCell ⟨w0.heap.size, 0, none⟩ (.int .i64 1)) ⟨w0.heap.size, 1, none⟩ (.bool false) x hxn).trans ((Below.heap_setCell w1 ⟨w0.heap.size, 0, none⟩ (.int .i64 1) x hxn).trans hx)))
         have g2 := (Gn.set (Gn.set (Gn.set gw hwl 0 (.int .i64 1)) hwl 1 (.bool false)) hwl 2 (.func (.func 82) #[] #[.pointer (some ⟨x, 0, none⟩)]))
         have hF2 := hF0.up g2
         have hT2 := hT0.up g2
         generalize ((w1.setCell ⟨w0.heap.size, 0, none⟩ (.int .i64 1)).setCell ⟨w0.heap.size, 1, none⟩ (.bool false)).setCell ⟨w0.heap.size, 2, none⟩ (.func (.func 82) #[] #[.pointer (some ⟨x, 0, none⟩)]) = w2 at *
         generalize w0.heap.size = fb at *)
      | (have hf2 := hnew w1 (.cells #[.int .i64 1, .bool false, .func (.func 82) #[] #[.pointer (some ⟨x, 0, none⟩)]] 68)
         have gg := Gn.al (w := w1) (.cells #[.int .i64 1, .bool false, .func (.func 82) #[] #[.pointer (some ⟨x, 0, none⟩)]] 68)
         have hq2 := Gn.block gg hq1
         have hr2 := Gn.block gg hr1
         have hx2 := Gn.block gg hx
         have g2 := gw.trans gg
         have hF2 := hF0.up g2
         have hT2 := hT0.up g2
         clear gg
         generalize w1.alloc (.cells #[.int .i64 1, .bool false, .func (.func 82) #[] #[.pointer (some ⟨x, 0, none⟩)]] 68) = w2 at *
         generalize w1.heap.size = fb at *)
    clear lq q0 s0 lq1 e1 e2 hm hq1 hr1 hx
    have l0 := blk_lt hf2; have b1 := obj_cell hf2 1 rfl; have b2 := obj_cell hf2 2 rfl
    have lq := blk_lt hq2; have q0 := obj_cell hq2 0 rfl; have q1 := obj_cell hq2 1 rfl; have q2 := obj_cell hq2 2 rfl; have q3 := obj_cell hq2 3 rfl
    go_wp2_with fail
    refine (t_moment1 f k c n x _ hT2 hF2 hx2).mono ?_
    rintro e w3 ⟨s, rfl, hs, hss, g3⟩
    have hsr : s ≠ br := Nat.ne_of_gt (Nat.lt_of_lt_of_le (blk_lt hr2) hss)
    replace g2 := g2.trans g3; replace hr2 := Gn.block g3 hr2
    clear l0 b1 b2 lq q0 q1 q2 q3 hq2 hf2 hx2 g3
    have r0 := obj_cell hr2 0 rfl; have lr := blk_lt hr2
    have fr : w3.frozen? ⟨br, 0, none⟩ = false := box_fz hr2
    go_wp2_with fail
    have hr3 := psetg hr2 0 (.slice (some ⟨s, 0, none⟩) 1 1)
    have t0 := obj_cell hr3 0 rfl
    have hwbr : w.heap.size ≤ br := by rw [ebq.out]; exact hwr
    exact bodyPost_ret (v := .tuple #[.agg #[.slice (some ⟨s, 0, none⟩) 1 1], .int .i64 0]) (by simp [results, Tryz.results9, go_sem, t0]) rfl ⟨s, rfl, (Below.heap_setCell w3 ⟨br, 0, none⟩ (.slice (some ⟨s, 0, none⟩) 1 1) s hsr).trans hs, g2.set hwbr _ _⟩
end Go.Proofs.YtgambglgkilgkaaGreatDoor
