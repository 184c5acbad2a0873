/- The query parser on one fixed text: query, Parse. -/
import Derived.Test.YtgambglgkilgkaaGreatDoorTp7
namespace Go.Proofs.YtgambglgkilgkaaGreatDoor
open Go.RowKit Go.ChangeMaps
/-- block f is a row that begins with the row of conditions in block c -/
def Fl (w : World) (f c n : Nat) : Prop := (∃ s, w.heap[f]? = some (.cells (#[.slice (some ⟨c, 0, none⟩) 1 n] ++ s) 74)) ∧ Cs w c
theorem Fl.up {w w' : World} {f c n : Nat} (h : Fl w f c n) (g : Gn w w') : Fl w' f c n := by
  obtain ⟨⟨s, h⟩, k⟩ := h
  exact ⟨⟨s, Gn.block g h⟩, k.up g⟩
theorem Fl.lt {w : World} {f c n : Nat} (h : Fl w f c n) : f < w.heap.size := by
  obtain ⟨⟨s, h⟩, k⟩ := h
  exact blk_lt h
theorem Fl.c0 {w : World} {f c n : Nat} (h : Fl w f c n) : w.cell? ⟨f, 0, none⟩ = some (.slice (some ⟨c, 0, none⟩) 1 n) := by
  obtain ⟨⟨s, h⟩, k⟩ := h
  exact obj_cell h 0 (by rw [Array.getElem?_append_left (by simp)]; rfl)
theorem st_size (w : World) (p : Addr) (v : Value) : (w.setCell p v).heap.size = w.heap.size := by simp [World.setCell]
theorem Cs.far {w : World} {c b : Nat} (h : Cs w c) (hn : c ≠ b) (i : Nat) (v : Value) : Cs (w.setCell ⟨b, i, none⟩ v) c := by
  obtain ⟨s, h⟩ := h
  exact ⟨s, (Below.heap_setCell w ⟨b, i, none⟩ v c hn).trans h⟩
theorem Fl.far {w : World} {f c n b : Nat} (h : Fl w f c n) (h1 : f ≠ b) (h2 : c ≠ b) (i : Nat) (v : Value) : Fl (w.setCell ⟨b, i, none⟩ v) f c n := by
  obtain ⟨⟨s, h⟩, k⟩ := h
  exact ⟨⟨s, (Below.heap_setCell w ⟨b, i, none⟩ v f h1).trans h⟩, k.far h2 i v⟩
set_option maxRecDepth 100000 in
set_option maxHeartbeats 4000000 in
theorem q_query0 (b : Nat) (w : World) (h : PB w b 0) :
    Calls Tryz.prog 19 #[.pointer (some ⟨b, 0, none⟩)] w fun e w' => ∃ f k c n, e = .returned (.agg #[.int .i64 3, .int .i64 3, .int .i64 2, .slice (some ⟨f, 0, none⟩) 1 n]) ∧ Fl w' f k c ∧ w.heap.size ≤ f ∧ w.heap.size ≤ k ∧ PB w' b 29 ∧ Kb b w w' := by
  have uk := Tryz.underlying3
  have ut := Tryz.underlying84
  go_enter Tryz.func19, Tryz.ntmps19
  go_wp2_with fail
  have hne : b ≠ w.heap.size := Nat.ne_of_lt h.lt
  have hk : Kb b w _ := Kb.of (Gn.al (w := w) (.cells #[.int .i64 0, .int .i64 0, .int .i64 0, .slice none 0 0] 35))
  have hr := hnew w (.cells #[.int .i64 0, .int .i64 0, .int .i64 0, .slice none 0 0] 35)
  replace h := h.up (Gn.al (w := w) (.cells #[.int .i64 0, .int .i64 0, .int .i64 0, .slice none 0 0] 35))
  generalize w.alloc (.cells #[.int .i64 0, .int .i64 0, .int .i64 0, .slice none 0 0] 35) = w0 at *
  generalize ebr : w.heap.size = br at *
  replace ebr := Lib.hid ebr
  have hblt := h.lt
  have hrlt := blk_lt hr
  refine (q_forms _).mono ?_
  rintro e w1 ⟨rfl, hm, g⟩
  replace hk := hk.gn g; replace h := h.up g; replace hr := Gn.block g hr
  have hmne : b ≠ w0.heap.size := Nat.ne_of_lt hblt
  have hsz0 : br ≤ w0.heap.size := Nat.le_of_lt hrlt
  clear g hblt hrlt
  generalize w0.heap.size = bm at *
  go_wp2_with fail
  refine wp_loop_rounds 3 ?_
  rw [rounds_succ]
  have e1 : (Instr.lookup 84 (.map (some bm)) (.int .i64 1) false).run Tryz.prog w1 = .ok (.agg #[.string ⟨#[99, 111, 117, 110, 116]⟩, .bool false, .int .i64 0, .int .i64 1]) w1 := run_lookI ut uk hm (i := 0) rfl false
  go_wp2_with fail
  clear e1
  have g0 := Gn.al (w := w1) (.cells #[.string ⟨#[99, 111, 117, 110, 116]⟩, .bool false, .int .i64 0, .int .i64 1] 87)
  replace hk := hk.gn g0; replace h := h.up g0; replace hr := Gn.block g0 hr; replace hm := Gn.block g0 hm
  clear g0
  generalize w1.alloc (.cells #[.string ⟨#[99, 111, 117, 110, 116]⟩, .bool false, .int .i64 0, .int .i64 1] 87) = v1 at *
  refine (q_acc_no b 0 0 _ _ _ h (by decide +kernel) (q_peek0 b)).mono ?_
  rintro e w2 ⟨rfl, h, kk⟩
  replace hk := hk.trans kk; replace hr := Kb.block kk hr (Ne.symm hne); replace hm := Kb.block kk hm (Ne.symm hmne); clear kk
  go_wp2_with fail
  rw [rounds_succ]
  have e1 : (Instr.lookup 84 (.map (some bm)) (.int .i64 2) false).run Tryz.prog w2 = .ok (.agg #[.string ⟨#[116, 111, 116, 97, 108]⟩, .bool true, .int .i64 0, .int .i64 1]) w2 := run_lookI ut uk hm (i := 1) rfl false
  go_wp2_with fail
  clear e1
  have g0 := Gn.al (w := w2) (.cells #[.string ⟨#[116, 111, 116, 97, 108]⟩, .bool true, .int .i64 0, .int .i64 1] 87)
  replace hk := hk.gn g0; replace h := h.up g0; replace hr := Gn.block g0 hr; replace hm := Gn.block g0 hm
  clear g0
  generalize w2.alloc (.cells #[.string ⟨#[116, 111, 116, 97, 108]⟩, .bool true, .int .i64 0, .int .i64 1] 87) = v2 at *
  refine (q_acc_no b 0 0 _ _ _ h (by decide +kernel) (q_peek0 b)).mono ?_
  rintro e w3 ⟨rfl, h, kk⟩
  replace hk := hk.trans kk; replace hr := Kb.block kk hr (Ne.symm hne); replace hm := Kb.block kk hm (Ne.symm hmne); clear kk
  go_wp2_with fail
  rw [rounds_succ]
  have e1 : (Instr.lookup 84 (.map (some bm)) (.int .i64 3) false).run Tryz.prog w3 = .ok (.agg #[.string ⟨#[109, 111, 109, 101, 110, 116]⟩, .bool true, .int .i64 6, .int .i64 1]) w3 := run_lookI ut uk hm (i := 2) rfl false
  go_wp2_with fail
  clear e1
  have g0 := Gn.al (w := w3) (.cells #[.string ⟨#[109, 111, 109, 101, 110, 116]⟩, .bool true, .int .i64 6, .int .i64 1] 87)
  have hf := hnew w3 (.cells #[.string ⟨#[109, 111, 109, 101, 110, 116]⟩, .bool true, .int .i64 6, .int .i64 1] 87)
  have hfne : b ≠ w3.heap.size := Nat.ne_of_lt h.lt
  have hrf : br < w3.heap.size := blk_lt hr
  replace hk := hk.gn g0; replace h := h.up g0; replace hr := Gn.block g0 hr; replace hm := Gn.block g0 hm
  clear g0
  generalize w3.alloc (.cells #[.string ⟨#[109, 111, 109, 101, 110, 116]⟩, .bool true, .int .i64 6, .int .i64 1] 87) = v3 at *
  generalize w3.heap.size = bf at *
  have d0 := obj_cell hf 0 rfl; have d1 := obj_cell hf 1 rfl; have d2 := obj_cell hf 2 rfl; have ld := blk_lt hf
  refine (q_acc_yes b 0 0 1 _ _ h (by decide) (q_peek0 b)).mono ?_
  rintro e w4 ⟨rfl, h, kk⟩
  replace hk := hk.trans kk; replace hr := Kb.block kk hr (Ne.symm hne); replace hm := Kb.block kk hm (Ne.symm hmne); replace hf := Kb.block kk hf (Ne.symm hfne); clear kk
  clear d0 d1 d2 ld
  have d0 := obj_cell hf 0 rfl; have d1 := obj_cell hf 1 rfl; have d2 := obj_cell hf 2 rfl; have d3 := obj_cell hf 3 rfl; have ld := blk_lt hf
  go_wp2_with fail
  have g0 := Gn.al (w := w4) (.cells #[.int .i64 3, .int .i64 0, .int .i64 0, .slice none 0 0] 35)
  have hq := hnew w4 (.cells #[.int .i64 3, .int .i64 0, .int .i64 0, .slice none 0 0] 35)
  have hqne : b ≠ w4.heap.size := Nat.ne_of_lt h.lt
  have hrq : br < w4.heap.size := blk_lt hr
  have hfq : bf < w4.heap.size := blk_lt hf
  replace hk := hk.gn g0; replace h := h.up g0; replace hr := Gn.block g0 hr; replace hf := Gn.block g0 hf
  clear g0 hm d0 d1 d2 d3 ld
  generalize w4.alloc (.cells #[.int .i64 3, .int .i64 0, .int .i64 0, .slice none 0 0] 35) = v4 at *
  generalize w4.heap.size = bq at *
  refine (q_column6 b _ h).mono ?_
  rintro e w5 ⟨rfl, h, kk⟩
  replace hk := hk.trans kk; replace hr := Kb.block kk hr (Ne.symm hne); replace hf := Kb.block kk hf (Ne.symm hfne); replace hq := Kb.block kk hq (Ne.symm hqne); clear kk
  have q1 := obj_cell hq 1 rfl; have lq := blk_lt hq
  have z1 : w5.frozen? ⟨bq, 1, none⟩ = false := box_fz hq
  have d0 := obj_cell hf 0 rfl; have d1 := obj_cell hf 1 rfl; have d2 := obj_cell hf 2 rfl; have d3 := obj_cell hf 3 rfl; have ld := blk_lt hf
  go_wp2_with fail
  have hwq : w.heap.size ≤ bq := by rw [ebr.out]; omega
  have hrqn : br ≠ bq := Nat.ne_of_lt hrq
  have hfqn : bf ≠ bq := Nat.ne_of_lt hfq
  replace hq : (w5.setCell ⟨bq, 1, none⟩ (.int .i64 3)).heap[bq]? = some (.cells #[.int .i64 3, .int .i64 3, .int .i64 0, .slice none 0 0] 35) := psetg hq 1 (.int .i64 3)
  replace hr := (Below.heap_setCell w5 ⟨bq, 1, none⟩ (.int .i64 3) br hrqn).trans hr
  replace hf := (Below.heap_setCell w5 ⟨bq, 1, none⟩ (.int .i64 3) bf hfqn).trans hf
  replace h := PB.far h hqne 1 (.int .i64 3)
  replace hk := hk.own hwq 1 (.int .i64 3)
  clear q1 lq z1 d0 d1 d2 d3 ld
  generalize w5.setCell ⟨bq, 1, none⟩ (.int .i64 3) = v5 at *
  refine (q_number12 b _ h).mono ?_
  rintro e w6 ⟨rfl, h, kk⟩
  replace hk := hk.trans kk; replace hr := Kb.block kk hr (Ne.symm hne); replace hf := Kb.block kk hf (Ne.symm hfne); replace hq := Kb.block kk hq (Ne.symm hqne); clear kk
  have q2 := obj_cell hq 2 rfl; have lq := blk_lt hq
  have z2 : w6.frozen? ⟨bq, 2, none⟩ = false := box_fz hq
  have d3 := obj_cell hf 3 rfl; have ld := blk_lt hf
  go_wp2_with fail
  replace hq : (w6.setCell ⟨bq, 2, none⟩ (.int .i64 2)).heap[bq]? = some (.cells #[.int .i64 3, .int .i64 3, .int .i64 2, .slice none 0 0] 35) := psetg hq 2 (.int .i64 2)
  replace hr := (Below.heap_setCell w6 ⟨bq, 2, none⟩ (.int .i64 2) br hrqn).trans hr
  replace hf := (Below.heap_setCell w6 ⟨bq, 2, none⟩ (.int .i64 2) bf hfqn).trans hf
  replace h := PB.far h hqne 2 (.int .i64 2)
  replace hk := hk.own hwq 2 (.int .i64 2)
  clear q2 lq z2 d3 ld
  generalize w6.setCell ⟨bq, 2, none⟩ (.int .i64 2) = v6 at *
  have q3 := obj_cell hq 3 rfl; have lq := blk_lt hq
  go_region_with (go_at_call 40; refine (q_filter14 b _ (by exact h)).mono ?_; rintro e w7 ⟨bc, c, rfl, hc, hsz, h1, k1⟩; have hq1 := Kb.block k1 hq (Ne.symm hqne); have s3 := obj_cell hq1 3 rfl; have lq1 := blk_lt hq1; have z3 : w7.frozen? ⟨bq, 3, none⟩ = false := box_fz hq1)
  all_goals
    replace hk := hk.trans ((Kb.drew b v6).trans k1)
    replace hr := Kb.block k1 hr (Ne.symm hne); replace hf := Kb.block k1 hf (Ne.symm hfne)
    have hszb : w.heap.size ≤ bc := by
      have h3 := blk_lt hr
      have h4 : v6.heap.size ≤ bc := hsz
      have h5 := hk.size
      omega
    have hbcq : bc ≠ bq := by
      have h4 : v6.heap.size ≤ bc := hsz
      omega
    have hfbr : w7.heap.size + 1 ≠ br := by have h3 := blk_lt hr; omega
    have hbbr : bc ≠ br := by
      have h4 : v6.heap.size ≤ bc := hsz
      omega
    clear q3 lq s3 lq1 z3 k1 hq
    generalize (Question.appendCap 1 0 74).cut (w7.tape w7.drawn (Question.appendCap 1 0 74)) = C at *
    generalize Builtin.zeroCells #[.slice none 0 0] (C - 1) = z at *
    replace hq : (w7.setCell ⟨bq, 3, none⟩ (.slice (some ⟨w7.heap.size + 1, 0, none⟩) 1 C)).heap[bq]? = some (.cells #[.int .i64 3, .int .i64 3, .int .i64 2, .slice (some ⟨w7.heap.size + 1, 0, none⟩) 1 C] 35) := psetg hq1 3 (.slice (some ⟨w7.heap.size + 1, 0, none⟩) 1 C)
    replace hr := (Below.heap_setCell w7 ⟨bq, 3, none⟩ (.slice (some ⟨w7.heap.size + 1, 0, none⟩) 1 C) br hrqn).trans hr
    replace hf := (Below.heap_setCell w7 ⟨bq, 3, none⟩ (.slice (some ⟨w7.heap.size + 1, 0, none⟩) 1 C) bf hfqn).trans hf
    replace hc := hc.far hbcq 3 (.slice (some ⟨w7.heap.size + 1, 0, none⟩) 1 C)
    replace h1 := PB.far h1 hqne 3 (.slice (some ⟨w7.heap.size + 1, 0, none⟩) 1 C)
    replace hk := hk.own hwq 3 (.slice (some ⟨w7.heap.size + 1, 0, none⟩) 1 C)
    have hs7 : (w7.setCell ⟨bq, 3, none⟩ (.slice (some ⟨w7.heap.size + 1, 0, none⟩) 1 C)).heap.size = w7.heap.size := st_size _ _ _
    have hwf : w.heap.size ≤ w7.heap.size + 1 := by rw [← hs7]; exact Nat.le_succ_of_le hk.size
    generalize w7.setCell ⟨bq, 3, none⟩ (.slice (some ⟨w7.heap.size + 1, 0, none⟩) 1 C) = v7 at *
    have g3 := ((Gn.al (w := v7) (.cells #[.slice (some ⟨bc, 0, none⟩) 1 c] 74)).trans (Gn.al (w := v7.alloc (.cells #[.slice (some ⟨bc, 0, none⟩) 1 c] 74)) (.cells (#[.slice (some ⟨bc, 0, none⟩) 1 c] ++ z) 74))).trans (Gn.drew _)
    have hF : Fl _ _ bc c := ⟨⟨z, Gn.block (Gn.drew _) (hnew (v7.alloc (.cells #[.slice (some ⟨bc, 0, none⟩) 1 c] 74)) (.cells (#[.slice (some ⟨bc, 0, none⟩) 1 c] ++ z) 74))⟩, hc.up g3⟩
    rw [al_size, hs7] at hF
    replace hk := hk.gn g3; replace h1 := h1.up g3; replace hr := Gn.block g3 hr; replace hf := Gn.block g3 hf; replace hq := Gn.block g3 hq
    clear g3 hs7 hc
    generalize ((v7.alloc (.cells #[.slice (some ⟨bc, 0, none⟩) 1 c] 74)).alloc (.cells (#[.slice (some ⟨bc, 0, none⟩) 1 c] ++ z) 74)).drew = w8 at *
    generalize w7.heap.size + 1 = f at *
    have d3 := obj_cell hf 3 rfl; have ld := blk_lt hf; have lq := blk_lt hq; have lr := blk_lt hr
    have q0 := obj_cell hq 0 rfl; have q1 := obj_cell hq 1 rfl; have q2 := obj_cell hq 2 rfl; have q3 := obj_cell hq 3 rfl
    have r0 := obj_cell hr 0 rfl; have r1 := obj_cell hr 1 rfl; have r2 := obj_cell hr 2 rfl; have r3 := obj_cell hr 3 rfl
    have e0 : w8.frozen? ⟨br, 0, none⟩ = false := box_fz hr; have e1 : w8.frozen? ⟨br, 1, none⟩ = false := box_fz hr; have e2 : w8.frozen? ⟨br, 2, none⟩ = false := box_fz hr; have e3 : w8.frozen? ⟨br, 3, none⟩ = false := box_fz hr
    go_wp2_with fail
    have hwr : w.heap.size ≤ br := by rw [ebr.out]; exact Nat.le_refl _
    have hr1 := psetg (psetg (psetg (psetg hr 0 (.int .i64 3)) 1 (.int .i64 3)) 2 (.int .i64 2)) 3 (.slice (some ⟨f, 0, none⟩) 1 C)
    have t0 := obj_cell hr1 0 rfl; have t1 := obj_cell hr1 1 rfl; have t2 := obj_cell hr1 2 rfl; have t3 := obj_cell hr1 3 rfl
    exact bodyPost_ret (v := .agg #[.int .i64 3, .int .i64 3, .int .i64 2, .slice (some ⟨f, 0, none⟩) 1 C]) (by simp [results, Tryz.results19, go_sem, t0, t1, t2, t3]) rfl
      ⟨f, bc, c, C, rfl, (((hF.far hfbr hbbr _ _).far hfbr hbbr _ _).far hfbr hbbr _ _).far hfbr hbbr _ _, hwf, hszb, (((PB.far h1 hne _ _).far hne _ _).far hne _ _).far hne _ _, (((hk.own hwr _ _).own hwr _ _).own hwr _ _).own hwr _ _⟩
end Go.Proofs.YtgambglgkilgkaaGreatDoor
