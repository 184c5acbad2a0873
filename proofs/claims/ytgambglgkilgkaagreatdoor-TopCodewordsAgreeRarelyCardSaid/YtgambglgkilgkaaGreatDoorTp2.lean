/- The query parser on one fixed text: white space, peek. -/
import Derived.Test.YtgambglgkilgkaaGreatDoorTp1
import Derived.Lib.Strings
import Derived.Lib.Walk
import Derived.Lib.Bytealg
namespace Go.Proofs.YtgambglgkilgkaaGreatDoor
open Go.RowKit Go.ChangeMaps
set_option maxRecDepth 100000 in
set_option maxHeartbeats 4000000 in
theorem l_ib0 (s : ByteArray) (c : Int) (w : World) :
    Calls Tryz.prog 78 #[.string s, .int .u8 c] w fun e w' => e = .returned (.int .i64 (Lib.indexByte s.data.toList c.toNat.toUInt8)) ∧ w = w' := by
  go_enter Tryz.func78, Tryz.ntmps78
  go_wp2
  rw [run_callFunc_extern Tryz.func98 (by kernel_rfl) (by kernel_rfl) (by kernel_rfl) (e := Extern.BytealgIndexByte.indexByte) (by kernel_rfl), Lib.run_indexByteString]
  simp only [Result.andThen]
  rw [Oper.upon_value]
  go_wp2
  go_ret
  exact ⟨rfl, rfl⟩
theorem l_ib (s : ByteArray) (c : Int) (w : World) :
    Calls Tryz.prog 42 #[.string s, .int .u8 c] w fun e w' => e = .returned (.int .i64 (Lib.indexByte s.data.toList c.toNat.toUInt8)) ∧ w = w' := by
  go_enter Tryz.func42, Tryz.ntmps42
  go_wp2_with (go_at_call 78; refine (l_ib0 _ _ _).mono ?_; rintro e w' ⟨rfl, rfl⟩)
  go_ret
  exact ⟨rfl, rfl⟩
/-- a byte of white space; another -/
theorem l_ws (c : Int) (hc : (Lib.indexByte [32, 9, 13, 10] c.toNat.toUInt8) = 0) (w : World) : Calls Tryz.prog 42 #[.string ⟨#[32, 9, 13, 10]⟩, .int .u8 c] w fun e w' => e = .returned (.int .i64 0) ∧ w = w' :=
  (l_ib _ _ _).mono fun _ _ ⟨h, k⟩ => ⟨h.trans (by rw [show (ByteArray.mk #[32, 9, 13, 10]).data.toList = [32, 9, 13, 10] from rfl, hc]), k⟩
theorem l_nws (c : Int) (hc : (Lib.indexByte [32, 9, 13, 10] c.toNat.toUInt8) = -1) (w : World) : Calls Tryz.prog 42 #[.string ⟨#[32, 9, 13, 10]⟩, .int .u8 c] w fun e w' => e = .returned (.int .i64 (-1)) ∧ w = w' :=
  (l_ib _ _ _).mono fun _ _ ⟨h, k⟩ => ⟨h.trans (by rw [show (ByteArray.mk #[32, 9, 13, 10]).data.toList = [32, 9, 13, 10] from rfl, hc]), k⟩
/-- all blocks but b are kept -/
def Kb (b : Nat) (w w' : World) : Prop := w.grownBy w' (some b)
theorem Kb.refl (b : Nat) (w : World) : Kb b w w := ⟨rfl, rfl, rfl, Nat.le_refl _, fun _ _ _ => rfl⟩
theorem Kb.trans {b : Nat} {a w w' : World} (h : Kb b a w) (k : Kb b w w') : Kb b a w' := World.grownBy.trans h k
theorem Kb.of {b : Nat} {w w' : World} (h : Gn w w') : Kb b w w' := ⟨h.below.os, h.below.tape, h.below.output, h.below.size, fun k hk _ => h.below.block k hk⟩
theorem Kb.gn {b : Nat} {a w w' : World} (h : Kb b a w) (k : Gn w w') : Kb b a w' := h.trans (Kb.of k)
theorem Kb.size {b : Nat} {w w' : World} (h : Kb b w w') : w.heap.size ≤ w'.heap.size := World.grownBy.size h
theorem Kb.block {b : Nat} {w w' : World} (h : Kb b w w') {k : Nat} {o : Obj} (ho : w.heap[k]? = some o) (hk : k ≠ b) : w'.heap[k]? = some o :=
  (World.grownBy.block h k (blk_lt ho) (by simpa using hk)).trans ho
theorem Kb.gn0 {b : Nat} {a w w' : World} (h : Gn a w) (k : Kb b w w') (hb : a.heap.size ≤ b) : Gn a w' :=
  Gn.of (h.below.grown k h.size (by rintro _ ⟨rfl⟩; exact hb))
theorem PB.up {w w' : World} {b p : Nat} (h : PB w b p) (g : Gn w w') : PB w' b p := Gn.block g h
/-- the offset is set -/
theorem PB.set {w : World} {b p : Nat} (h : PB w b p) (q : Nat) : PB (w.setCell ⟨b, 1, none⟩ (.int .i64 q)) b q := by
  unfold PB at *
  simp [World.setCell, Array.getElem?_modify, h]
theorem Kb.set {b : Nat} (w : World) (i : Nat) (v : Value) : Kb b w (w.setCell ⟨b, i, none⟩ v) :=
  ⟨rfl, rfl, rfl, by simp [World.setCell], fun k _ hk => Below.heap_setCell _ _ _ _ (fun e => hk (by rw [e]))⟩
theorem Kb.own {b r : Nat} {a w : World} (h : Kb b a w) (hr : a.heap.size ≤ r) (i : Nat) (v : Value) : Kb b a (w.setCell ⟨r, i, none⟩ v) :=
  World.grownBy.andThen h (Kb.set (b := r) w i v) (fun j e => .inl (by cases e; exact hr))
theorem PB.far {w : World} {b p r : Nat} (h : PB w b p) (hr : b ≠ r) (i : Nat) (v : Value) : PB (w.setCell ⟨r, i, none⟩ v) b p :=
  (Below.heap_setCell _ _ _ _ (by show b ≠ r; exact hr)).trans h
set_option maxRecDepth 100000 in
set_option maxHeartbeats 4000000 in
theorem q_peek0 (b : Nat) (w : World) (h : PB w b 0) :
    Calls Tryz.prog 20 #[.pointer (some ⟨b, 0, none⟩)] w fun e w' => e = .returned (.agg #[.int .i64 1, .string ⟨#[109, 111, 109, 101, 110, 116]⟩]) ∧ PB w' b 0 ∧ Kb b w w' := by
  have hne : b ≠ w.heap.size := Nat.ne_of_lt h.lt
  go_enter Tryz.func20, Tryz.ntmps20
  go_wp2_with fail
  have g0 := Gn.al (w := w) (.cells #[.int .i64 0, .string ⟨#[]⟩] 63)
  have hr := hnew w (.cells #[.int .i64 0, .string ⟨#[]⟩] 63)
  have hk : Kb b w _ := Kb.of g0
  replace h := h.up g0
  clear g0
  generalize w.alloc (.cells #[.int .i64 0, .string ⟨#[]⟩] 63) = w0 at *
  generalize ebr : w.heap.size = br at *
  replace ebr := Lib.hid ebr
  have ts := tx_size
  refine wp_loop_rounds 1 ?_
  rw [rounds_succ]
  go_wp2_with fail
  have c0 := h.s; have c1 := h.p; have lt := h.lt
  have t0 := tx_0
  try simp only [List.append_eq, List.cons_append, List.nil_append]
  refine wp_region_gr (by kernel_rfl) (lex_of_chk (by kernel_rfl) (by kernel_rfl)) ?_
  repeat (go_big_quiet_step ((go_at_call 42; with_reducible apply qa (l_nws 109 rfl _); rfl)))
  refine wpQuiet_nil ?_
  intro w1 kk
  clear c0 c1 lt
  replace hk := hk.gn kk; replace hr := Gn.block kk hr; replace h := h.up kk
  clear kk
  clear t0
  have c0 := h.s; have c1 := h.p; have lt := h.lt
  go_wp2_with fail
  try simp only [List.append_eq, List.cons_append, List.nil_append]
  refine wp_region_gr (by kernel_rfl) (lex_of_chk (by kernel_rfl) (by kernel_rfl)) ?_
  repeat (go_big_quiet_step (fail))
  refine wpQuiet_nil ?_
  intro w2 kk
  clear c0 c1 lt
  replace hk := hk.gn kk; replace hr := Gn.block kk hr; replace h := h.up kk
  clear kk
  have c0 := h.s; have c1 := h.p; have lt := h.lt
  have r0 := obj_cell hr 0 rfl; have r1 := obj_cell hr 1 rfl; have rz := blk_lt hr; have f0 := box_fz (i := 0) hr; have f1 := box_fz (i := 1) hr
  have e1 : (tx.extract 0 29).toList.isEmpty = false := by kernel_rfl
  have e2 : ((tx.extract 0 29)[0]'(by decide)).toNat = 109 := by kernel_rfl
  go_wp2_with fail
  clear c0 c1 lt e1 e2 r0 r1 rz f0 f1
  have C0 := fun g => (h.up (w' := gr w2 g) ⟨g, rfl⟩).s
  have C1 := fun g => (h.up (w' := gr w2 g) ⟨g, rfl⟩).p
  try simp only [List.append_eq, List.cons_append, List.nil_append]
  refine Fk.wp_region_flow 12 (by kernel_rfl) (by kernel_rfl) ?_
  refine Fk.flow_one rfl (freeB_spec (by kernel_rfl)) ?_
  go_big_quiet_step (fail)
  refine wpQuiet_nil ?_
  apply Fk.flow_is
  · exact freeB_spec (by kernel_rfl)
  · intro g K hK
    go_wp2_with fail
    exact hK _ (Up.refl _)
  · rfl
  refine Fk.flow_one rfl (freeB_spec (by kernel_rfl)) ?_
  go_big_quiet_step (fail)
  refine wpQuiet_nil ?_
  refine Fk.flow_one rfl (freeB_spec (by kernel_rfl)) ?_
  go_big_quiet_step (fail)
  refine wpQuiet_nil ?_
  refine Fk.flow_one rfl (freeB_spec (by kernel_rfl)) ?_
  go_big_quiet_step (fail)
  refine wpQuiet_nil ?_
  apply Fk.flow_is
  · exact freeB_spec (by kernel_rfl)
  · intro g K hK
    go_wp2_with fail
    exact hK _ (Up.refl _)
  · rfl
  refine Fk.flow_one rfl (freeB_spec (by kernel_rfl)) ?_
  go_big_quiet_step (fail)
  refine wpQuiet_nil ?_
  refine Fk.flow_one rfl (freeB_spec (by kernel_rfl)) ?_
  go_big_quiet_step (fail)
  refine wpQuiet_nil ?_
  refine Fk.flow_one rfl (freeB_spec (by kernel_rfl)) ?_
  go_big_quiet_step (fail)
  refine wpQuiet_nil ?_
  apply Fk.flow_is
  · exact freeB_spec (by kernel_rfl)
  · intro g K hK
    go_wp2_with fail
    refine (q_span0 _ _ (h.up ⟨g, rfl⟩)).mono ?_
    rintro e w' ⟨rfl, rfl⟩
    go_wp2_with fail
    exact hK _ (Up.refl _)
  · rfl
  apply Fk.flow_is
  · exact freeB_spec (by kernel_rfl)
  · intro g K hK
    go_wp2_with fail
    exact hK _ (Up.refl _)
  · rfl
  refine Fk.flow_one rfl (freeB_spec (by kernel_rfl)) ?_
  go_big_quiet_step (fail)
  refine wpQuiet_nil ?_
  intro V N X hΓ hdis g hX
  clear hΓ hdis hX C0 C1
  have kg : Gn w2 (gr w2 g) := ⟨g, rfl⟩
  replace hk := hk.gn kg; replace hr := Gn.block kg hr; replace h := h.up kg
  clear kg
  generalize gr w2 g = w3 at *
  conv => arg 5; simp only [fill, Act.put, List.setIfInBounds_toArray, List.set_cons_succ, List.set_cons_zero]
  have e3 : tx.extract 0 6 = ⟨#[109, 111, 109, 101, 110, 116]⟩ := by kernel_rfl
  have r0 := obj_cell hr 0 rfl; have r1 := obj_cell hr 1 rfl; have rz := blk_lt hr; have f0 := box_fz (i := 0) hr; have f1 := box_fz (i := 1) hr
  go_wp2_with fail
  exact bodyPost_ret (v := .agg #[.int .i64 1, .string ⟨#[109, 111, 109, 101, 110, 116]⟩]) (by simp [results, Tryz.results20, go_sem, r0, r1, e3]) rfl ⟨rfl, (h.far hne _ _).far hne _ _, (hk.own (Nat.le_of_eq ebr.out) _ _).own (Nat.le_of_eq ebr.out) _ _⟩
set_option maxRecDepth 100000 in
set_option maxHeartbeats 4000000 in
theorem q_peek6 (b : Nat) (w : World) (h : PB w b 6) :
    Calls Tryz.prog 20 #[.pointer (some ⟨b, 0, none⟩)] w fun e w' => e = .returned (.agg #[.int .i64 1, .string ⟨#[118, 97, 108, 117, 101]⟩]) ∧ PB w' b 7 ∧ Kb b w w' := by
  have hne : b ≠ w.heap.size := Nat.ne_of_lt h.lt
  go_enter Tryz.func20, Tryz.ntmps20
  go_wp2_with fail
  have g0 := Gn.al (w := w) (.cells #[.int .i64 0, .string ⟨#[]⟩] 63)
  have hr := hnew w (.cells #[.int .i64 0, .string ⟨#[]⟩] 63)
  have hk : Kb b w _ := Kb.of g0
  replace h := h.up g0
  clear g0
  generalize w.alloc (.cells #[.int .i64 0, .string ⟨#[]⟩] 63) = w0 at *
  generalize ebr : w.heap.size = br at *
  replace ebr := Lib.hid ebr
  have ts := tx_size
  refine wp_loop_rounds 2 ?_
  rw [rounds_succ]
  go_wp2_with fail
  have c0 := h.s; have c1 := h.p; have lt := h.lt
  have t0 := tx_6
  try simp only [List.append_eq, List.cons_append, List.nil_append]
  refine wp_region_gr (by kernel_rfl) (lex_of_chk (by kernel_rfl) (by kernel_rfl)) ?_
  repeat (go_big_quiet_step ((go_at_call 42; with_reducible apply qa (l_ws 32 rfl _); rfl)))
  refine wpQuiet_nil ?_
  intro w1 kk
  clear c0 c1 lt
  replace hk := hk.gn kk; replace hr := Gn.block kk hr; replace h := h.up kk
  clear kk
  clear t0
  have c0 := h.s; have c1 := h.p; have lt := h.lt
  have f0 := h.fz 1
  go_wp2_with fail
  clear c0 c1 lt f0
  replace hk := hk.trans (Kb.set w1 1 (.int .i64 7))
  replace h : PB (w1.setCell ⟨b, 1, none⟩ (.int .i64 7)) b 7 := h.set 7
  replace hr : (w1.setCell ⟨b, 1, none⟩ (.int .i64 7)).heap[br]? = _ := (Below.heap_setCell _ _ _ _ (Ne.symm hne)).trans hr
  generalize (w1.setCell ⟨b, 1, none⟩ (.int .i64 7)) = w2 at *
  rw [rounds_succ]
  go_wp2_with fail
  have c0 := h.s; have c1 := h.p; have lt := h.lt
  have t0 := tx_7
  try simp only [List.append_eq, List.cons_append, List.nil_append]
  refine wp_region_gr (by kernel_rfl) (lex_of_chk (by kernel_rfl) (by kernel_rfl)) ?_
  repeat (go_big_quiet_step ((go_at_call 42; with_reducible apply qa (l_nws 118 rfl _); rfl)))
  refine wpQuiet_nil ?_
  intro w3 kk
  clear c0 c1 lt
  replace hk := hk.gn kk; replace hr := Gn.block kk hr; replace h := h.up kk
  clear kk
  clear t0
  have c0 := h.s; have c1 := h.p; have lt := h.lt
  go_wp2_with fail
  try simp only [List.append_eq, List.cons_append, List.nil_append]
  refine wp_region_gr (by kernel_rfl) (lex_of_chk (by kernel_rfl) (by kernel_rfl)) ?_
  repeat (go_big_quiet_step (fail))
  refine wpQuiet_nil ?_
  intro w4 kk
  clear c0 c1 lt
  replace hk := hk.gn kk; replace hr := Gn.block kk hr; replace h := h.up kk
  clear kk
  have c0 := h.s; have c1 := h.p; have lt := h.lt
  have r0 := obj_cell hr 0 rfl; have r1 := obj_cell hr 1 rfl; have rz := blk_lt hr; have f0 := box_fz (i := 0) hr; have f1 := box_fz (i := 1) hr
  have e1 : (tx.extract 7 29).toList.isEmpty = false := by kernel_rfl
  have e2 : ((tx.extract 7 29)[0]'(by decide)).toNat = 118 := by kernel_rfl
  go_wp2_with fail
  clear c0 c1 lt e1 e2 r0 r1 rz f0 f1
  have C0 := fun g => (h.up (w' := gr w4 g) ⟨g, rfl⟩).s
  have C1 := fun g => (h.up (w' := gr w4 g) ⟨g, rfl⟩).p
  try simp only [List.append_eq, List.cons_append, List.nil_append]
  refine Fk.wp_region_flow 12 (by kernel_rfl) (by kernel_rfl) ?_
  refine Fk.flow_one rfl (freeB_spec (by kernel_rfl)) ?_
  go_big_quiet_step (fail)
  refine wpQuiet_nil ?_
  apply Fk.flow_is
  · exact freeB_spec (by kernel_rfl)
  · intro g K hK
    go_wp2_with fail
    exact hK _ (Up.refl _)
  · rfl
  refine Fk.flow_one rfl (freeB_spec (by kernel_rfl)) ?_
  go_big_quiet_step (fail)
  refine wpQuiet_nil ?_
  refine Fk.flow_one rfl (freeB_spec (by kernel_rfl)) ?_
  go_big_quiet_step (fail)
  refine wpQuiet_nil ?_
  refine Fk.flow_one rfl (freeB_spec (by kernel_rfl)) ?_
  go_big_quiet_step (fail)
  refine wpQuiet_nil ?_
  apply Fk.flow_is
  · exact freeB_spec (by kernel_rfl)
  · intro g K hK
    go_wp2_with fail
    exact hK _ (Up.refl _)
  · rfl
  refine Fk.flow_one rfl (freeB_spec (by kernel_rfl)) ?_
  go_big_quiet_step (fail)
  refine wpQuiet_nil ?_
  refine Fk.flow_one rfl (freeB_spec (by kernel_rfl)) ?_
  go_big_quiet_step (fail)
  refine wpQuiet_nil ?_
  refine Fk.flow_one rfl (freeB_spec (by kernel_rfl)) ?_
  go_big_quiet_step (fail)
  refine wpQuiet_nil ?_
  apply Fk.flow_is
  · exact freeB_spec (by kernel_rfl)
  · intro g K hK
    go_wp2_with fail
    refine (q_span7 _ _ (h.up ⟨g, rfl⟩)).mono ?_
    rintro e w' ⟨rfl, rfl⟩
    go_wp2_with fail
    exact hK _ (Up.refl _)
  · rfl
  apply Fk.flow_is
  · exact freeB_spec (by kernel_rfl)
  · intro g K hK
    go_wp2_with fail
    exact hK _ (Up.refl _)
  · rfl
  refine Fk.flow_one rfl (freeB_spec (by kernel_rfl)) ?_
  go_big_quiet_step (fail)
  refine wpQuiet_nil ?_
  intro V N X hΓ hdis g hX
  clear hΓ hdis hX C0 C1
  have kg : Gn w4 (gr w4 g) := ⟨g, rfl⟩
  replace hk := hk.gn kg; replace hr := Gn.block kg hr; replace h := h.up kg
  clear kg
  generalize gr w4 g = w5 at *
  conv => arg 5; simp only [fill, Act.put, List.setIfInBounds_toArray, List.set_cons_succ, List.set_cons_zero]
  have e3 : tx.extract 7 12 = ⟨#[118, 97, 108, 117, 101]⟩ := by kernel_rfl
  have r0 := obj_cell hr 0 rfl; have r1 := obj_cell hr 1 rfl; have rz := blk_lt hr; have f0 := box_fz (i := 0) hr; have f1 := box_fz (i := 1) hr
  go_wp2_with fail
  exact bodyPost_ret (v := .agg #[.int .i64 1, .string ⟨#[118, 97, 108, 117, 101]⟩]) (by simp [results, Tryz.results20, go_sem, r0, r1, e3]) rfl ⟨rfl, (h.far hne _ _).far hne _ _, (hk.own (Nat.le_of_eq ebr.out) _ _).own (Nat.le_of_eq ebr.out) _ _⟩
set_option maxRecDepth 100000 in
set_option maxHeartbeats 4000000 in
theorem q_peek7 (b : Nat) (w : World) (h : PB w b 7) :
    Calls Tryz.prog 20 #[.pointer (some ⟨b, 0, none⟩)] w fun e w' => e = .returned (.agg #[.int .i64 1, .string ⟨#[118, 97, 108, 117, 101]⟩]) ∧ PB w' b 7 ∧ Kb b w w' := by
  have hne : b ≠ w.heap.size := Nat.ne_of_lt h.lt
  go_enter Tryz.func20, Tryz.ntmps20
  go_wp2_with fail
  have g0 := Gn.al (w := w) (.cells #[.int .i64 0, .string ⟨#[]⟩] 63)
  have hr := hnew w (.cells #[.int .i64 0, .string ⟨#[]⟩] 63)
  have hk : Kb b w _ := Kb.of g0
  replace h := h.up g0
  clear g0
  generalize w.alloc (.cells #[.int .i64 0, .string ⟨#[]⟩] 63) = w0 at *
  generalize ebr : w.heap.size = br at *
  replace ebr := Lib.hid ebr
  have ts := tx_size
  refine wp_loop_rounds 1 ?_
  rw [rounds_succ]
  go_wp2_with fail
  have c0 := h.s; have c1 := h.p; have lt := h.lt
  have t0 := tx_7
  try simp only [List.append_eq, List.cons_append, List.nil_append]
  refine wp_region_gr (by kernel_rfl) (lex_of_chk (by kernel_rfl) (by kernel_rfl)) ?_
  repeat (go_big_quiet_step ((go_at_call 42; with_reducible apply qa (l_nws 118 rfl _); rfl)))
  refine wpQuiet_nil ?_
  intro w1 kk
  clear c0 c1 lt
  replace hk := hk.gn kk; replace hr := Gn.block kk hr; replace h := h.up kk
  clear kk
  clear t0
  have c0 := h.s; have c1 := h.p; have lt := h.lt
  go_wp2_with fail
  try simp only [List.append_eq, List.cons_append, List.nil_append]
  refine wp_region_gr (by kernel_rfl) (lex_of_chk (by kernel_rfl) (by kernel_rfl)) ?_
  repeat (go_big_quiet_step (fail))
  refine wpQuiet_nil ?_
  intro w2 kk
  clear c0 c1 lt
  replace hk := hk.gn kk; replace hr := Gn.block kk hr; replace h := h.up kk
  clear kk
  have c0 := h.s; have c1 := h.p; have lt := h.lt
  have r0 := obj_cell hr 0 rfl; have r1 := obj_cell hr 1 rfl; have rz := blk_lt hr; have f0 := box_fz (i := 0) hr; have f1 := box_fz (i := 1) hr
  have e1 : (tx.extract 7 29).toList.isEmpty = false := by kernel_rfl
  have e2 : ((tx.extract 7 29)[0]'(by decide)).toNat = 118 := by kernel_rfl
  go_wp2_with fail
  clear c0 c1 lt e1 e2 r0 r1 rz f0 f1
  have C0 := fun g => (h.up (w' := gr w2 g) ⟨g, rfl⟩).s
  have C1 := fun g => (h.up (w' := gr w2 g) ⟨g, rfl⟩).p
  try simp only [List.append_eq, List.cons_append, List.nil_append]
  refine Fk.wp_region_flow 12 (by kernel_rfl) (by kernel_rfl) ?_
  refine Fk.flow_one rfl (freeB_spec (by kernel_rfl)) ?_
  go_big_quiet_step (fail)
  refine wpQuiet_nil ?_
  apply Fk.flow_is
  · exact freeB_spec (by kernel_rfl)
  · intro g K hK
    go_wp2_with fail
    exact hK _ (Up.refl _)
  · rfl
  refine Fk.flow_one rfl (freeB_spec (by kernel_rfl)) ?_
  go_big_quiet_step (fail)
  refine wpQuiet_nil ?_
  refine Fk.flow_one rfl (freeB_spec (by kernel_rfl)) ?_
  go_big_quiet_step (fail)
  refine wpQuiet_nil ?_
  refine Fk.flow_one rfl (freeB_spec (by kernel_rfl)) ?_
  go_big_quiet_step (fail)
  refine wpQuiet_nil ?_
  apply Fk.flow_is
  · exact freeB_spec (by kernel_rfl)
  · intro g K hK
    go_wp2_with fail
    exact hK _ (Up.refl _)
  · rfl
  refine Fk.flow_one rfl (freeB_spec (by kernel_rfl)) ?_
  go_big_quiet_step (fail)
  refine wpQuiet_nil ?_
  refine Fk.flow_one rfl (freeB_spec (by kernel_rfl)) ?_
  go_big_quiet_step (fail)
  refine wpQuiet_nil ?_
  refine Fk.flow_one rfl (freeB_spec (by kernel_rfl)) ?_
  go_big_quiet_step (fail)
  refine wpQuiet_nil ?_
  apply Fk.flow_is
  · exact freeB_spec (by kernel_rfl)
  · intro g K hK
    go_wp2_with fail
    refine (q_span7 _ _ (h.up ⟨g, rfl⟩)).mono ?_
    rintro e w' ⟨rfl, rfl⟩
    go_wp2_with fail
    exact hK _ (Up.refl _)
  · rfl
  apply Fk.flow_is
  · exact freeB_spec (by kernel_rfl)
  · intro g K hK
    go_wp2_with fail
    exact hK _ (Up.refl _)
  · rfl
  refine Fk.flow_one rfl (freeB_spec (by kernel_rfl)) ?_
  go_big_quiet_step (fail)
  refine wpQuiet_nil ?_
  intro V N X hΓ hdis g hX
  clear hΓ hdis hX C0 C1
  have kg : Gn w2 (gr w2 g) := ⟨g, rfl⟩
  replace hk := hk.gn kg; replace hr := Gn.block kg hr; replace h := h.up kg
  clear kg
  generalize gr w2 g = w3 at *
  conv => arg 5; simp only [fill, Act.put, List.setIfInBounds_toArray, List.set_cons_succ, List.set_cons_zero]
  have e3 : tx.extract 7 12 = ⟨#[118, 97, 108, 117, 101]⟩ := by kernel_rfl
  have r0 := obj_cell hr 0 rfl; have r1 := obj_cell hr 1 rfl; have rz := blk_lt hr; have f0 := box_fz (i := 0) hr; have f1 := box_fz (i := 1) hr
  go_wp2_with fail
  exact bodyPost_ret (v := .agg #[.int .i64 1, .string ⟨#[118, 97, 108, 117, 101]⟩]) (by simp [results, Tryz.results20, go_sem, r0, r1, e3]) rfl ⟨rfl, (h.far hne _ _).far hne _ _, (hk.own (Nat.le_of_eq ebr.out) _ _).own (Nat.le_of_eq ebr.out) _ _⟩
set_option maxRecDepth 100000 in
set_option maxHeartbeats 4000000 in
theorem q_peek12 (b : Nat) (w : World) (h : PB w b 12) :
    Calls Tryz.prog 20 #[.pointer (some ⟨b, 0, none⟩)] w fun e w' => e = .returned (.agg #[.int .i64 2, .string ⟨#[50]⟩]) ∧ PB w' b 13 ∧ Kb b w w' := by
  have hne : b ≠ w.heap.size := Nat.ne_of_lt h.lt
  go_enter Tryz.func20, Tryz.ntmps20
  go_wp2_with fail
  have g0 := Gn.al (w := w) (.cells #[.int .i64 0, .string ⟨#[]⟩] 63)
  have hr := hnew w (.cells #[.int .i64 0, .string ⟨#[]⟩] 63)
  have hk : Kb b w _ := Kb.of g0
  replace h := h.up g0
  clear g0
  generalize w.alloc (.cells #[.int .i64 0, .string ⟨#[]⟩] 63) = w0 at *
  generalize ebr : w.heap.size = br at *
  replace ebr := Lib.hid ebr
  have ts := tx_size
  refine wp_loop_rounds 2 ?_
  rw [rounds_succ]
  go_wp2_with fail
  have c0 := h.s; have c1 := h.p; have lt := h.lt
  have t0 := tx_12
  try simp only [List.append_eq, List.cons_append, List.nil_append]
  refine wp_region_gr (by kernel_rfl) (lex_of_chk (by kernel_rfl) (by kernel_rfl)) ?_
  repeat (go_big_quiet_step ((go_at_call 42; with_reducible apply qa (l_ws 32 rfl _); rfl)))
  refine wpQuiet_nil ?_
  intro w1 kk
  clear c0 c1 lt
  replace hk := hk.gn kk; replace hr := Gn.block kk hr; replace h := h.up kk
  clear kk
  clear t0
  have c0 := h.s; have c1 := h.p; have lt := h.lt
  have f0 := h.fz 1
  go_wp2_with fail
  clear c0 c1 lt f0
  replace hk := hk.trans (Kb.set w1 1 (.int .i64 13))
  replace h : PB (w1.setCell ⟨b, 1, none⟩ (.int .i64 13)) b 13 := h.set 13
  replace hr : (w1.setCell ⟨b, 1, none⟩ (.int .i64 13)).heap[br]? = _ := (Below.heap_setCell _ _ _ _ (Ne.symm hne)).trans hr
  generalize (w1.setCell ⟨b, 1, none⟩ (.int .i64 13)) = w2 at *
  rw [rounds_succ]
  go_wp2_with fail
  have c0 := h.s; have c1 := h.p; have lt := h.lt
  have t0 := tx_13
  try simp only [List.append_eq, List.cons_append, List.nil_append]
  refine wp_region_gr (by kernel_rfl) (lex_of_chk (by kernel_rfl) (by kernel_rfl)) ?_
  repeat (go_big_quiet_step ((go_at_call 42; with_reducible apply qa (l_nws 50 rfl _); rfl)))
  refine wpQuiet_nil ?_
  intro w3 kk
  clear c0 c1 lt
  replace hk := hk.gn kk; replace hr := Gn.block kk hr; replace h := h.up kk
  clear kk
  clear t0
  have c0 := h.s; have c1 := h.p; have lt := h.lt
  go_wp2_with fail
  try simp only [List.append_eq, List.cons_append, List.nil_append]
  refine wp_region_gr (by kernel_rfl) (lex_of_chk (by kernel_rfl) (by kernel_rfl)) ?_
  repeat (go_big_quiet_step (fail))
  refine wpQuiet_nil ?_
  intro w4 kk
  clear c0 c1 lt
  replace hk := hk.gn kk; replace hr := Gn.block kk hr; replace h := h.up kk
  clear kk
  have c0 := h.s; have c1 := h.p; have lt := h.lt
  have r0 := obj_cell hr 0 rfl; have r1 := obj_cell hr 1 rfl; have rz := blk_lt hr; have f0 := box_fz (i := 0) hr; have f1 := box_fz (i := 1) hr
  have e1 : (tx.extract 13 29).toList.isEmpty = false := by kernel_rfl
  have e2 : ((tx.extract 13 29)[0]'(by decide)).toNat = 50 := by kernel_rfl
  go_wp2_with fail
  clear c0 c1 lt e1 e2 r0 r1 rz f0 f1
  have C0 := fun g => (h.up (w' := gr w4 g) ⟨g, rfl⟩).s
  have C1 := fun g => (h.up (w' := gr w4 g) ⟨g, rfl⟩).p
  try simp only [List.append_eq, List.cons_append, List.nil_append]
  refine Fk.wp_region_flow 12 (by kernel_rfl) (by kernel_rfl) ?_
  refine Fk.flow_one rfl (freeB_spec (by kernel_rfl)) ?_
  go_big_quiet_step (fail)
  refine wpQuiet_nil ?_
  apply Fk.flow_is
  · exact freeB_spec (by kernel_rfl)
  · intro g K hK
    go_wp2_with fail
    exact hK _ (Up.refl _)
  · rfl
  refine Fk.flow_one rfl (freeB_spec (by kernel_rfl)) ?_
  go_big_quiet_step (fail)
  refine wpQuiet_nil ?_
  refine Fk.flow_one rfl (freeB_spec (by kernel_rfl)) ?_
  go_big_quiet_step (fail)
  refine wpQuiet_nil ?_
  refine Fk.flow_one rfl (freeB_spec (by kernel_rfl)) ?_
  go_big_quiet_step (fail)
  refine wpQuiet_nil ?_
  apply Fk.flow_is
  · exact freeB_spec (by kernel_rfl)
  · intro g K hK
    go_wp2_with fail
    exact hK _ (Up.refl _)
  · rfl
  refine Fk.flow_one rfl (freeB_spec (by kernel_rfl)) ?_
  go_big_quiet_step (fail)
  refine wpQuiet_nil ?_
  refine Fk.flow_one rfl (freeB_spec (by kernel_rfl)) ?_
  go_big_quiet_step (fail)
  refine wpQuiet_nil ?_
  refine Fk.flow_one rfl (freeB_spec (by kernel_rfl)) ?_
  go_big_quiet_step (fail)
  refine wpQuiet_nil ?_
  apply Fk.flow_is
  · exact freeB_spec (by kernel_rfl)
  · intro g K hK
    go_wp2_with fail
    refine (q_span13 _ _ (h.up ⟨g, rfl⟩)).mono ?_
    rintro e w' ⟨rfl, rfl⟩
    go_wp2_with fail
    exact hK _ (Up.refl _)
  · rfl
  apply Fk.flow_is
  · exact freeB_spec (by kernel_rfl)
  · intro g K hK
    go_wp2_with fail
    exact hK _ (Up.refl _)
  · rfl
  refine Fk.flow_one rfl (freeB_spec (by kernel_rfl)) ?_
  go_big_quiet_step (fail)
  refine wpQuiet_nil ?_
  intro V N X hΓ hdis g hX
  clear hΓ hdis hX C0 C1
  have kg : Gn w4 (gr w4 g) := ⟨g, rfl⟩
  replace hk := hk.gn kg; replace hr := Gn.block kg hr; replace h := h.up kg
  clear kg
  generalize gr w4 g = w5 at *
  conv => arg 5; simp only [fill, Act.put, List.setIfInBounds_toArray, List.set_cons_succ, List.set_cons_zero]
  have e3 : tx.extract 13 14 = ⟨#[50]⟩ := by kernel_rfl
  have r0 := obj_cell hr 0 rfl; have r1 := obj_cell hr 1 rfl; have rz := blk_lt hr; have f0 := box_fz (i := 0) hr; have f1 := box_fz (i := 1) hr
  go_wp2_with fail
  exact bodyPost_ret (v := .agg #[.int .i64 2, .string ⟨#[50]⟩]) (by simp [results, Tryz.results20, go_sem, r0, r1, e3]) rfl ⟨rfl, (h.far hne _ _).far hne _ _, (hk.own (Nat.le_of_eq ebr.out) _ _).own (Nat.le_of_eq ebr.out) _ _⟩
set_option maxRecDepth 100000 in
set_option maxHeartbeats 4000000 in
theorem q_peek14 (b : Nat) (w : World) (h : PB w b 14) :
    Calls Tryz.prog 20 #[.pointer (some ⟨b, 0, none⟩)] w fun e w' => e = .returned (.agg #[.int .i64 1, .string ⟨#[119, 104, 101, 114, 101]⟩]) ∧ PB w' b 15 ∧ Kb b w w' := by
  have hne : b ≠ w.heap.size := Nat.ne_of_lt h.lt
  go_enter Tryz.func20, Tryz.ntmps20
  go_wp2_with fail
  have g0 := Gn.al (w := w) (.cells #[.int .i64 0, .string ⟨#[]⟩] 63)
  have hr := hnew w (.cells #[.int .i64 0, .string ⟨#[]⟩] 63)
  have hk : Kb b w _ := Kb.of g0
  replace h := h.up g0
  clear g0
  generalize w.alloc (.cells #[.int .i64 0, .string ⟨#[]⟩] 63) = w0 at *
  generalize ebr : w.heap.size = br at *
  replace ebr := Lib.hid ebr
  have ts := tx_size
  refine wp_loop_rounds 2 ?_
  rw [rounds_succ]
  go_wp2_with fail
  have c0 := h.s; have c1 := h.p; have lt := h.lt
  have t0 := tx_14
  try simp only [List.append_eq, List.cons_append, List.nil_append]
  refine wp_region_gr (by kernel_rfl) (lex_of_chk (by kernel_rfl) (by kernel_rfl)) ?_
  repeat (go_big_quiet_step ((go_at_call 42; with_reducible apply qa (l_ws 32 rfl _); rfl)))
  refine wpQuiet_nil ?_
  intro w1 kk
  clear c0 c1 lt
  replace hk := hk.gn kk; replace hr := Gn.block kk hr; replace h := h.up kk
  clear kk
  clear t0
  have c0 := h.s; have c1 := h.p; have lt := h.lt
  have f0 := h.fz 1
  go_wp2_with fail
  clear c0 c1 lt f0
  replace hk := hk.trans (Kb.set w1 1 (.int .i64 15))
  replace h : PB (w1.setCell ⟨b, 1, none⟩ (.int .i64 15)) b 15 := h.set 15
  replace hr : (w1.setCell ⟨b, 1, none⟩ (.int .i64 15)).heap[br]? = _ := (Below.heap_setCell _ _ _ _ (Ne.symm hne)).trans hr
  generalize (w1.setCell ⟨b, 1, none⟩ (.int .i64 15)) = w2 at *
  rw [rounds_succ]
  go_wp2_with fail
  have c0 := h.s; have c1 := h.p; have lt := h.lt
  have t0 := tx_15
  try simp only [List.append_eq, List.cons_append, List.nil_append]
  refine wp_region_gr (by kernel_rfl) (lex_of_chk (by kernel_rfl) (by kernel_rfl)) ?_
  repeat (go_big_quiet_step ((go_at_call 42; with_reducible apply qa (l_nws 119 rfl _); rfl)))
  refine wpQuiet_nil ?_
  intro w3 kk
  clear c0 c1 lt
  replace hk := hk.gn kk; replace hr := Gn.block kk hr; replace h := h.up kk
  clear kk
  clear t0
  have c0 := h.s; have c1 := h.p; have lt := h.lt
  go_wp2_with fail
  try simp only [List.append_eq, List.cons_append, List.nil_append]
  refine wp_region_gr (by kernel_rfl) (lex_of_chk (by kernel_rfl) (by kernel_rfl)) ?_
  repeat (go_big_quiet_step (fail))
  refine wpQuiet_nil ?_
  intro w4 kk
  clear c0 c1 lt
  replace hk := hk.gn kk; replace hr := Gn.block kk hr; replace h := h.up kk
  clear kk
  have c0 := h.s; have c1 := h.p; have lt := h.lt
  have r0 := obj_cell hr 0 rfl; have r1 := obj_cell hr 1 rfl; have rz := blk_lt hr; have f0 := box_fz (i := 0) hr; have f1 := box_fz (i := 1) hr
  have e1 : (tx.extract 15 29).toList.isEmpty = false := by kernel_rfl
  have e2 : ((tx.extract 15 29)[0]'(by decide)).toNat = 119 := by kernel_rfl
  go_wp2_with fail
  clear c0 c1 lt e1 e2 r0 r1 rz f0 f1
  have C0 := fun g => (h.up (w' := gr w4 g) ⟨g, rfl⟩).s
  have C1 := fun g => (h.up (w' := gr w4 g) ⟨g, rfl⟩).p
  try simp only [List.append_eq, List.cons_append, List.nil_append]
  refine Fk.wp_region_flow 12 (by kernel_rfl) (by kernel_rfl) ?_
  refine Fk.flow_one rfl (freeB_spec (by kernel_rfl)) ?_
  go_big_quiet_step (fail)
  refine wpQuiet_nil ?_
  apply Fk.flow_is
  · exact freeB_spec (by kernel_rfl)
  · intro g K hK
    go_wp2_with fail
    exact hK _ (Up.refl _)
  · rfl
  refine Fk.flow_one rfl (freeB_spec (by kernel_rfl)) ?_
  go_big_quiet_step (fail)
  refine wpQuiet_nil ?_
  refine Fk.flow_one rfl (freeB_spec (by kernel_rfl)) ?_
  go_big_quiet_step (fail)
  refine wpQuiet_nil ?_
  refine Fk.flow_one rfl (freeB_spec (by kernel_rfl)) ?_
  go_big_quiet_step (fail)
  refine wpQuiet_nil ?_
  apply Fk.flow_is
  · exact freeB_spec (by kernel_rfl)
  · intro g K hK
    go_wp2_with fail
    exact hK _ (Up.refl _)
  · rfl
  refine Fk.flow_one rfl (freeB_spec (by kernel_rfl)) ?_
  go_big_quiet_step (fail)
  refine wpQuiet_nil ?_
  refine Fk.flow_one rfl (freeB_spec (by kernel_rfl)) ?_
  go_big_quiet_step (fail)
  refine wpQuiet_nil ?_
  refine Fk.flow_one rfl (freeB_spec (by kernel_rfl)) ?_
  go_big_quiet_step (fail)
  refine wpQuiet_nil ?_
  apply Fk.flow_is
  · exact freeB_spec (by kernel_rfl)
  · intro g K hK
    go_wp2_with fail
    refine (q_span15 _ _ (h.up ⟨g, rfl⟩)).mono ?_
    rintro e w' ⟨rfl, rfl⟩
    go_wp2_with fail
    exact hK _ (Up.refl _)
  · rfl
  apply Fk.flow_is
  · exact freeB_spec (by kernel_rfl)
  · intro g K hK
    go_wp2_with fail
    exact hK _ (Up.refl _)
  · rfl
  refine Fk.flow_one rfl (freeB_spec (by kernel_rfl)) ?_
  go_big_quiet_step (fail)
  refine wpQuiet_nil ?_
  intro V N X hΓ hdis g hX
  clear hΓ hdis hX C0 C1
  have kg : Gn w4 (gr w4 g) := ⟨g, rfl⟩
  replace hk := hk.gn kg; replace hr := Gn.block kg hr; replace h := h.up kg
  clear kg
  generalize gr w4 g = w5 at *
  conv => arg 5; simp only [fill, Act.put, List.setIfInBounds_toArray, List.set_cons_succ, List.set_cons_zero]
  have e3 : tx.extract 15 20 = ⟨#[119, 104, 101, 114, 101]⟩ := by kernel_rfl
  have r0 := obj_cell hr 0 rfl; have r1 := obj_cell hr 1 rfl; have rz := blk_lt hr; have f0 := box_fz (i := 0) hr; have f1 := box_fz (i := 1) hr
  go_wp2_with fail
  exact bodyPost_ret (v := .agg #[.int .i64 1, .string ⟨#[119, 104, 101, 114, 101]⟩]) (by simp [results, Tryz.results20, go_sem, r0, r1, e3]) rfl ⟨rfl, (h.far hne _ _).far hne _ _, (hk.own (Nat.le_of_eq ebr.out) _ _).own (Nat.le_of_eq ebr.out) _ _⟩
set_option maxRecDepth 100000 in
set_option maxHeartbeats 4000000 in
theorem q_peek20 (b : Nat) (w : World) (h : PB w b 20) :
    Calls Tryz.prog 20 #[.pointer (some ⟨b, 0, none⟩)] w fun e w' => e = .returned (.agg #[.int .i64 1, .string ⟨#[107, 105, 110, 100]⟩]) ∧ PB w' b 21 ∧ Kb b w w' := by
  have hne : b ≠ w.heap.size := Nat.ne_of_lt h.lt
  go_enter Tryz.func20, Tryz.ntmps20
  go_wp2_with fail
  have g0 := Gn.al (w := w) (.cells #[.int .i64 0, .string ⟨#[]⟩] 63)
  have hr := hnew w (.cells #[.int .i64 0, .string ⟨#[]⟩] 63)
  have hk : Kb b w _ := Kb.of g0
  replace h := h.up g0
  clear g0
  generalize w.alloc (.cells #[.int .i64 0, .string ⟨#[]⟩] 63) = w0 at *
  generalize ebr : w.heap.size = br at *
  replace ebr := Lib.hid ebr
  have ts := tx_size
  refine wp_loop_rounds 2 ?_
  rw [rounds_succ]
  go_wp2_with fail
  have c0 := h.s; have c1 := h.p; have lt := h.lt
  have t0 := tx_20
  try simp only [List.append_eq, List.cons_append, List.nil_append]
  refine wp_region_gr (by kernel_rfl) (lex_of_chk (by kernel_rfl) (by kernel_rfl)) ?_
  repeat (go_big_quiet_step ((go_at_call 42; with_reducible apply qa (l_ws 32 rfl _); rfl)))
  refine wpQuiet_nil ?_
  intro w1 kk
  clear c0 c1 lt
  replace hk := hk.gn kk; replace hr := Gn.block kk hr; replace h := h.up kk
  clear kk
  clear t0
  have c0 := h.s; have c1 := h.p; have lt := h.lt
  have f0 := h.fz 1
  go_wp2_with fail
  clear c0 c1 lt f0
  replace hk := hk.trans (Kb.set w1 1 (.int .i64 21))
  replace h : PB (w1.setCell ⟨b, 1, none⟩ (.int .i64 21)) b 21 := h.set 21
  replace hr : (w1.setCell ⟨b, 1, none⟩ (.int .i64 21)).heap[br]? = _ := (Below.heap_setCell _ _ _ _ (Ne.symm hne)).trans hr
  generalize (w1.setCell ⟨b, 1, none⟩ (.int .i64 21)) = w2 at *
  rw [rounds_succ]
  go_wp2_with fail
  have c0 := h.s; have c1 := h.p; have lt := h.lt
  have t0 := tx_21
  try simp only [List.append_eq, List.cons_append, List.nil_append]
  refine wp_region_gr (by kernel_rfl) (lex_of_chk (by kernel_rfl) (by kernel_rfl)) ?_
  repeat (go_big_quiet_step ((go_at_call 42; with_reducible apply qa (l_nws 107 rfl _); rfl)))
  refine wpQuiet_nil ?_
  intro w3 kk
  clear c0 c1 lt
  replace hk := hk.gn kk; replace hr := Gn.block kk hr; replace h := h.up kk
  clear kk
  clear t0
  have c0 := h.s; have c1 := h.p; have lt := h.lt
  go_wp2_with fail
  try simp only [List.append_eq, List.cons_append, List.nil_append]
  refine wp_region_gr (by kernel_rfl) (lex_of_chk (by kernel_rfl) (by kernel_rfl)) ?_
  repeat (go_big_quiet_step (fail))
  refine wpQuiet_nil ?_
  intro w4 kk
  clear c0 c1 lt
  replace hk := hk.gn kk; replace hr := Gn.block kk hr; replace h := h.up kk
  clear kk
  have c0 := h.s; have c1 := h.p; have lt := h.lt
  have r0 := obj_cell hr 0 rfl; have r1 := obj_cell hr 1 rfl; have rz := blk_lt hr; have f0 := box_fz (i := 0) hr; have f1 := box_fz (i := 1) hr
  have e1 : (tx.extract 21 29).toList.isEmpty = false := by kernel_rfl
  have e2 : ((tx.extract 21 29)[0]'(by decide)).toNat = 107 := by kernel_rfl
  go_wp2_with fail
  clear c0 c1 lt e1 e2 r0 r1 rz f0 f1
  have C0 := fun g => (h.up (w' := gr w4 g) ⟨g, rfl⟩).s
  have C1 := fun g => (h.up (w' := gr w4 g) ⟨g, rfl⟩).p
  try simp only [List.append_eq, List.cons_append, List.nil_append]
  refine Fk.wp_region_flow 12 (by kernel_rfl) (by kernel_rfl) ?_
  refine Fk.flow_one rfl (freeB_spec (by kernel_rfl)) ?_
  go_big_quiet_step (fail)
  refine wpQuiet_nil ?_
  apply Fk.flow_is
  · exact freeB_spec (by kernel_rfl)
  · intro g K hK
    go_wp2_with fail
    exact hK _ (Up.refl _)
  · rfl
  refine Fk.flow_one rfl (freeB_spec (by kernel_rfl)) ?_
  go_big_quiet_step (fail)
  refine wpQuiet_nil ?_
  refine Fk.flow_one rfl (freeB_spec (by kernel_rfl)) ?_
  go_big_quiet_step (fail)
  refine wpQuiet_nil ?_
  refine Fk.flow_one rfl (freeB_spec (by kernel_rfl)) ?_
  go_big_quiet_step (fail)
  refine wpQuiet_nil ?_
  apply Fk.flow_is
  · exact freeB_spec (by kernel_rfl)
  · intro g K hK
    go_wp2_with fail
    exact hK _ (Up.refl _)
  · rfl
  refine Fk.flow_one rfl (freeB_spec (by kernel_rfl)) ?_
  go_big_quiet_step (fail)
  refine wpQuiet_nil ?_
  refine Fk.flow_one rfl (freeB_spec (by kernel_rfl)) ?_
  go_big_quiet_step (fail)
  refine wpQuiet_nil ?_
  refine Fk.flow_one rfl (freeB_spec (by kernel_rfl)) ?_
  go_big_quiet_step (fail)
  refine wpQuiet_nil ?_
  apply Fk.flow_is
  · exact freeB_spec (by kernel_rfl)
  · intro g K hK
    go_wp2_with fail
    refine (q_span21 _ _ (h.up ⟨g, rfl⟩)).mono ?_
    rintro e w' ⟨rfl, rfl⟩
    go_wp2_with fail
    exact hK _ (Up.refl _)
  · rfl
  apply Fk.flow_is
  · exact freeB_spec (by kernel_rfl)
  · intro g K hK
    go_wp2_with fail
    exact hK _ (Up.refl _)
  · rfl
  refine Fk.flow_one rfl (freeB_spec (by kernel_rfl)) ?_
  go_big_quiet_step (fail)
  refine wpQuiet_nil ?_
  intro V N X hΓ hdis g hX
  clear hΓ hdis hX C0 C1
  have kg : Gn w4 (gr w4 g) := ⟨g, rfl⟩
  replace hk := hk.gn kg; replace hr := Gn.block kg hr; replace h := h.up kg
  clear kg
  generalize gr w4 g = w5 at *
  conv => arg 5; simp only [fill, Act.put, List.setIfInBounds_toArray, List.set_cons_succ, List.set_cons_zero]
  have e3 : tx.extract 21 25 = ⟨#[107, 105, 110, 100]⟩ := by kernel_rfl
  have r0 := obj_cell hr 0 rfl; have r1 := obj_cell hr 1 rfl; have rz := blk_lt hr; have f0 := box_fz (i := 0) hr; have f1 := box_fz (i := 1) hr
  go_wp2_with fail
  exact bodyPost_ret (v := .agg #[.int .i64 1, .string ⟨#[107, 105, 110, 100]⟩]) (by simp [results, Tryz.results20, go_sem, r0, r1, e3]) rfl ⟨rfl, (h.far hne _ _).far hne _ _, (hk.own (Nat.le_of_eq ebr.out) _ _).own (Nat.le_of_eq ebr.out) _ _⟩
set_option maxRecDepth 100000 in
set_option maxHeartbeats 4000000 in
theorem q_peek21 (b : Nat) (w : World) (h : PB w b 21) :
    Calls Tryz.prog 20 #[.pointer (some ⟨b, 0, none⟩)] w fun e w' => e = .returned (.agg #[.int .i64 1, .string ⟨#[107, 105, 110, 100]⟩]) ∧ PB w' b 21 ∧ Kb b w w' := by
  have hne : b ≠ w.heap.size := Nat.ne_of_lt h.lt
  go_enter Tryz.func20, Tryz.ntmps20
  go_wp2_with fail
  have g0 := Gn.al (w := w) (.cells #[.int .i64 0, .string ⟨#[]⟩] 63)
  have hr := hnew w (.cells #[.int .i64 0, .string ⟨#[]⟩] 63)
  have hk : Kb b w _ := Kb.of g0
  replace h := h.up g0
  clear g0
  generalize w.alloc (.cells #[.int .i64 0, .string ⟨#[]⟩] 63) = w0 at *
  generalize ebr : w.heap.size = br at *
  replace ebr := Lib.hid ebr
  have ts := tx_size
  refine wp_loop_rounds 1 ?_
  rw [rounds_succ]
  go_wp2_with fail
  have c0 := h.s; have c1 := h.p; have lt := h.lt
  have t0 := tx_21
  try simp only [List.append_eq, List.cons_append, List.nil_append]
  refine wp_region_gr (by kernel_rfl) (lex_of_chk (by kernel_rfl) (by kernel_rfl)) ?_
  repeat (go_big_quiet_step ((go_at_call 42; with_reducible apply qa (l_nws 107 rfl _); rfl)))
  refine wpQuiet_nil ?_
  intro w1 kk
  clear c0 c1 lt
  replace hk := hk.gn kk; replace hr := Gn.block kk hr; replace h := h.up kk
  clear kk
  clear t0
  have c0 := h.s; have c1 := h.p; have lt := h.lt
  go_wp2_with fail
  try simp only [List.append_eq, List.cons_append, List.nil_append]
  refine wp_region_gr (by kernel_rfl) (lex_of_chk (by kernel_rfl) (by kernel_rfl)) ?_
  repeat (go_big_quiet_step (fail))
  refine wpQuiet_nil ?_
  intro w2 kk
  clear c0 c1 lt
  replace hk := hk.gn kk; replace hr := Gn.block kk hr; replace h := h.up kk
  clear kk
  have c0 := h.s; have c1 := h.p; have lt := h.lt
  have r0 := obj_cell hr 0 rfl; have r1 := obj_cell hr 1 rfl; have rz := blk_lt hr; have f0 := box_fz (i := 0) hr; have f1 := box_fz (i := 1) hr
  have e1 : (tx.extract 21 29).toList.isEmpty = false := by kernel_rfl
  have e2 : ((tx.extract 21 29)[0]'(by decide)).toNat = 107 := by kernel_rfl
  go_wp2_with fail
  clear c0 c1 lt e1 e2 r0 r1 rz f0 f1
  have C0 := fun g => (h.up (w' := gr w2 g) ⟨g, rfl⟩).s
  have C1 := fun g => (h.up (w' := gr w2 g) ⟨g, rfl⟩).p
  try simp only [List.append_eq, List.cons_append, List.nil_append]
  refine Fk.wp_region_flow 12 (by kernel_rfl) (by kernel_rfl) ?_
  refine Fk.flow_one rfl (freeB_spec (by kernel_rfl)) ?_
  go_big_quiet_step (fail)
  refine wpQuiet_nil ?_
  apply Fk.flow_is
  · exact freeB_spec (by kernel_rfl)
  · intro g K hK
    go_wp2_with fail
    exact hK _ (Up.refl _)
  · rfl
  refine Fk.flow_one rfl (freeB_spec (by kernel_rfl)) ?_
  go_big_quiet_step (fail)
  refine wpQuiet_nil ?_
  refine Fk.flow_one rfl (freeB_spec (by kernel_rfl)) ?_
  go_big_quiet_step (fail)
  refine wpQuiet_nil ?_
  refine Fk.flow_one rfl (freeB_spec (by kernel_rfl)) ?_
  go_big_quiet_step (fail)
  refine wpQuiet_nil ?_
  apply Fk.flow_is
  · exact freeB_spec (by kernel_rfl)
  · intro g K hK
    go_wp2_with fail
    exact hK _ (Up.refl _)
  · rfl
  refine Fk.flow_one rfl (freeB_spec (by kernel_rfl)) ?_
  go_big_quiet_step (fail)
  refine wpQuiet_nil ?_
  refine Fk.flow_one rfl (freeB_spec (by kernel_rfl)) ?_
  go_big_quiet_step (fail)
  refine wpQuiet_nil ?_
  refine Fk.flow_one rfl (freeB_spec (by kernel_rfl)) ?_
  go_big_quiet_step (fail)
  refine wpQuiet_nil ?_
  apply Fk.flow_is
  · exact freeB_spec (by kernel_rfl)
  · intro g K hK
    go_wp2_with fail
    refine (q_span21 _ _ (h.up ⟨g, rfl⟩)).mono ?_
    rintro e w' ⟨rfl, rfl⟩
    go_wp2_with fail
    exact hK _ (Up.refl _)
  · rfl
  apply Fk.flow_is
  · exact freeB_spec (by kernel_rfl)
  · intro g K hK
    go_wp2_with fail
    exact hK _ (Up.refl _)
  · rfl
  refine Fk.flow_one rfl (freeB_spec (by kernel_rfl)) ?_
  go_big_quiet_step (fail)
  refine wpQuiet_nil ?_
  intro V N X hΓ hdis g hX
  clear hΓ hdis hX C0 C1
  have kg : Gn w2 (gr w2 g) := ⟨g, rfl⟩
  replace hk := hk.gn kg; replace hr := Gn.block kg hr; replace h := h.up kg
  clear kg
  generalize gr w2 g = w3 at *
  conv => arg 5; simp only [fill, Act.put, List.setIfInBounds_toArray, List.set_cons_succ, List.set_cons_zero]
  have e3 : tx.extract 21 25 = ⟨#[107, 105, 110, 100]⟩ := by kernel_rfl
  have r0 := obj_cell hr 0 rfl; have r1 := obj_cell hr 1 rfl; have rz := blk_lt hr; have f0 := box_fz (i := 0) hr; have f1 := box_fz (i := 1) hr
  go_wp2_with fail
  exact bodyPost_ret (v := .agg #[.int .i64 1, .string ⟨#[107, 105, 110, 100]⟩]) (by simp [results, Tryz.results20, go_sem, r0, r1, e3]) rfl ⟨rfl, (h.far hne _ _).far hne _ _, (hk.own (Nat.le_of_eq ebr.out) _ _).own (Nat.le_of_eq ebr.out) _ _⟩
set_option maxRecDepth 100000 in
set_option maxHeartbeats 4000000 in
theorem q_peek25 (b : Nat) (w : World) (h : PB w b 25) :
    Calls Tryz.prog 20 #[.pointer (some ⟨b, 0, none⟩)] w fun e w' => e = .returned (.agg #[.int .i64 3, .string ⟨#[61]⟩]) ∧ PB w' b 26 ∧ Kb b w w' := by
  have hne : b ≠ w.heap.size := Nat.ne_of_lt h.lt
  go_enter Tryz.func20, Tryz.ntmps20
  go_wp2_with fail
  have g0 := Gn.al (w := w) (.cells #[.int .i64 0, .string ⟨#[]⟩] 63)
  have hr := hnew w (.cells #[.int .i64 0, .string ⟨#[]⟩] 63)
  have hk : Kb b w _ := Kb.of g0
  replace h := h.up g0
  clear g0
  generalize w.alloc (.cells #[.int .i64 0, .string ⟨#[]⟩] 63) = w0 at *
  generalize ebr : w.heap.size = br at *
  replace ebr := Lib.hid ebr
  have ts := tx_size
  refine wp_loop_rounds 2 ?_
  rw [rounds_succ]
  go_wp2_with fail
  have c0 := h.s; have c1 := h.p; have lt := h.lt
  have t0 := tx_25
  try simp only [List.append_eq, List.cons_append, List.nil_append]
  refine wp_region_gr (by kernel_rfl) (lex_of_chk (by kernel_rfl) (by kernel_rfl)) ?_
  repeat (go_big_quiet_step ((go_at_call 42; with_reducible apply qa (l_ws 32 rfl _); rfl)))
  refine wpQuiet_nil ?_
  intro w1 kk
  clear c0 c1 lt
  replace hk := hk.gn kk; replace hr := Gn.block kk hr; replace h := h.up kk
  clear kk
  clear t0
  have c0 := h.s; have c1 := h.p; have lt := h.lt
  have f0 := h.fz 1
  go_wp2_with fail
  clear c0 c1 lt f0
  replace hk := hk.trans (Kb.set w1 1 (.int .i64 26))
  replace h : PB (w1.setCell ⟨b, 1, none⟩ (.int .i64 26)) b 26 := h.set 26
  replace hr : (w1.setCell ⟨b, 1, none⟩ (.int .i64 26)).heap[br]? = _ := (Below.heap_setCell _ _ _ _ (Ne.symm hne)).trans hr
  generalize (w1.setCell ⟨b, 1, none⟩ (.int .i64 26)) = w2 at *
  rw [rounds_succ]
  go_wp2_with fail
  have c0 := h.s; have c1 := h.p; have lt := h.lt
  have t0 := tx_26
  try simp only [List.append_eq, List.cons_append, List.nil_append]
  refine wp_region_gr (by kernel_rfl) (lex_of_chk (by kernel_rfl) (by kernel_rfl)) ?_
  repeat (go_big_quiet_step ((go_at_call 42; with_reducible apply qa (l_nws 61 rfl _); rfl)))
  refine wpQuiet_nil ?_
  intro w3 kk
  clear c0 c1 lt
  replace hk := hk.gn kk; replace hr := Gn.block kk hr; replace h := h.up kk
  clear kk
  clear t0
  have c0 := h.s; have c1 := h.p; have lt := h.lt
  go_wp2_with fail
  try simp only [List.append_eq, List.cons_append, List.nil_append]
  refine wp_region_gr (by kernel_rfl) (lex_of_chk (by kernel_rfl) (by kernel_rfl)) ?_
  repeat (go_big_quiet_step (fail))
  refine wpQuiet_nil ?_
  intro w4 kk
  clear c0 c1 lt
  replace hk := hk.gn kk; replace hr := Gn.block kk hr; replace h := h.up kk
  clear kk
  have c0 := h.s; have c1 := h.p; have lt := h.lt
  have r0 := obj_cell hr 0 rfl; have r1 := obj_cell hr 1 rfl; have rz := blk_lt hr; have f0 := box_fz (i := 0) hr; have f1 := box_fz (i := 1) hr
  have e1 : (tx.extract 26 29).toList.isEmpty = false := by kernel_rfl
  have e2 : ((tx.extract 26 29)[0]'(by decide)).toNat = 61 := by kernel_rfl
  go_wp2_with fail
  exact bodyPost_ret (v := .agg #[.int .i64 3, .string ⟨#[61]⟩]) (by simp [results, Tryz.results20, go_sem, r0, r1]) rfl ⟨rfl, (h.far hne _ _).far hne _ _, (hk.own (Nat.le_of_eq ebr.out) _ _).own (Nat.le_of_eq ebr.out) _ _⟩
set_option maxRecDepth 100000 in
set_option maxHeartbeats 4000000 in
theorem q_peek27 (b : Nat) (w : World) (h : PB w b 27) :
    Calls Tryz.prog 20 #[.pointer (some ⟨b, 0, none⟩)] w fun e w' => e = .returned (.agg #[.int .i64 2, .string ⟨#[53]⟩]) ∧ PB w' b 28 ∧ Kb b w w' := by
  have hne : b ≠ w.heap.size := Nat.ne_of_lt h.lt
  go_enter Tryz.func20, Tryz.ntmps20
  go_wp2_with fail
  have g0 := Gn.al (w := w) (.cells #[.int .i64 0, .string ⟨#[]⟩] 63)
  have hr := hnew w (.cells #[.int .i64 0, .string ⟨#[]⟩] 63)
  have hk : Kb b w _ := Kb.of g0
  replace h := h.up g0
  clear g0
  generalize w.alloc (.cells #[.int .i64 0, .string ⟨#[]⟩] 63) = w0 at *
  generalize ebr : w.heap.size = br at *
  replace ebr := Lib.hid ebr
  have ts := tx_size
  refine wp_loop_rounds 2 ?_
  rw [rounds_succ]
  go_wp2_with fail
  have c0 := h.s; have c1 := h.p; have lt := h.lt
  have t0 := tx_27
  try simp only [List.append_eq, List.cons_append, List.nil_append]
  refine wp_region_gr (by kernel_rfl) (lex_of_chk (by kernel_rfl) (by kernel_rfl)) ?_
  repeat (go_big_quiet_step ((go_at_call 42; with_reducible apply qa (l_ws 32 rfl _); rfl)))
  refine wpQuiet_nil ?_
  intro w1 kk
  clear c0 c1 lt
  replace hk := hk.gn kk; replace hr := Gn.block kk hr; replace h := h.up kk
  clear kk
  clear t0
  have c0 := h.s; have c1 := h.p; have lt := h.lt
  have f0 := h.fz 1
  go_wp2_with fail
  clear c0 c1 lt f0
  replace hk := hk.trans (Kb.set w1 1 (.int .i64 28))
  replace h : PB (w1.setCell ⟨b, 1, none⟩ (.int .i64 28)) b 28 := h.set 28
  replace hr : (w1.setCell ⟨b, 1, none⟩ (.int .i64 28)).heap[br]? = _ := (Below.heap_setCell _ _ _ _ (Ne.symm hne)).trans hr
  generalize (w1.setCell ⟨b, 1, none⟩ (.int .i64 28)) = w2 at *
  rw [rounds_succ]
  go_wp2_with fail
  have c0 := h.s; have c1 := h.p; have lt := h.lt
  have t0 := tx_28
  try simp only [List.append_eq, List.cons_append, List.nil_append]
  refine wp_region_gr (by kernel_rfl) (lex_of_chk (by kernel_rfl) (by kernel_rfl)) ?_
  repeat (go_big_quiet_step ((go_at_call 42; with_reducible apply qa (l_nws 53 rfl _); rfl)))
  refine wpQuiet_nil ?_
  intro w3 kk
  clear c0 c1 lt
  replace hk := hk.gn kk; replace hr := Gn.block kk hr; replace h := h.up kk
  clear kk
  clear t0
  have c0 := h.s; have c1 := h.p; have lt := h.lt
  go_wp2_with fail
  try simp only [List.append_eq, List.cons_append, List.nil_append]
  refine wp_region_gr (by kernel_rfl) (lex_of_chk (by kernel_rfl) (by kernel_rfl)) ?_
  repeat (go_big_quiet_step (fail))
  refine wpQuiet_nil ?_
  intro w4 kk
  clear c0 c1 lt
  replace hk := hk.gn kk; replace hr := Gn.block kk hr; replace h := h.up kk
  clear kk
  have c0 := h.s; have c1 := h.p; have lt := h.lt
  have r0 := obj_cell hr 0 rfl; have r1 := obj_cell hr 1 rfl; have rz := blk_lt hr; have f0 := box_fz (i := 0) hr; have f1 := box_fz (i := 1) hr
  have e1 : (tx.extract 28 29).toList.isEmpty = false := by kernel_rfl
  have e2 : ((tx.extract 28 29)[0]'(by decide)).toNat = 53 := by kernel_rfl
  go_wp2_with fail
  clear c0 c1 lt e1 e2 r0 r1 rz f0 f1
  have C0 := fun g => (h.up (w' := gr w4 g) ⟨g, rfl⟩).s
  have C1 := fun g => (h.up (w' := gr w4 g) ⟨g, rfl⟩).p
  try simp only [List.append_eq, List.cons_append, List.nil_append]
  refine Fk.wp_region_flow 12 (by kernel_rfl) (by kernel_rfl) ?_
  refine Fk.flow_one rfl (freeB_spec (by kernel_rfl)) ?_
  go_big_quiet_step (fail)
  refine wpQuiet_nil ?_
  apply Fk.flow_is
  · exact freeB_spec (by kernel_rfl)
  · intro g K hK
    go_wp2_with fail
    exact hK _ (Up.refl _)
  · rfl
  refine Fk.flow_one rfl (freeB_spec (by kernel_rfl)) ?_
  go_big_quiet_step (fail)
  refine wpQuiet_nil ?_
  refine Fk.flow_one rfl (freeB_spec (by kernel_rfl)) ?_
  go_big_quiet_step (fail)
  refine wpQuiet_nil ?_
  refine Fk.flow_one rfl (freeB_spec (by kernel_rfl)) ?_
  go_big_quiet_step (fail)
  refine wpQuiet_nil ?_
  apply Fk.flow_is
  · exact freeB_spec (by kernel_rfl)
  · intro g K hK
    go_wp2_with fail
    exact hK _ (Up.refl _)
  · rfl
  refine Fk.flow_one rfl (freeB_spec (by kernel_rfl)) ?_
  go_big_quiet_step (fail)
  refine wpQuiet_nil ?_
  refine Fk.flow_one rfl (freeB_spec (by kernel_rfl)) ?_
  go_big_quiet_step (fail)
  refine wpQuiet_nil ?_
  refine Fk.flow_one rfl (freeB_spec (by kernel_rfl)) ?_
  go_big_quiet_step (fail)
  refine wpQuiet_nil ?_
  apply Fk.flow_is
  · exact freeB_spec (by kernel_rfl)
  · intro g K hK
    go_wp2_with fail
    refine (q_span28 _ _ (h.up ⟨g, rfl⟩)).mono ?_
    rintro e w' ⟨rfl, rfl⟩
    go_wp2_with fail
    exact hK _ (Up.refl _)
  · rfl
  apply Fk.flow_is
  · exact freeB_spec (by kernel_rfl)
  · intro g K hK
    go_wp2_with fail
    exact hK _ (Up.refl _)
  · rfl
  refine Fk.flow_one rfl (freeB_spec (by kernel_rfl)) ?_
  go_big_quiet_step (fail)
  refine wpQuiet_nil ?_
  intro V N X hΓ hdis g hX
  clear hΓ hdis hX C0 C1
  have kg : Gn w4 (gr w4 g) := ⟨g, rfl⟩
  replace hk := hk.gn kg; replace hr := Gn.block kg hr; replace h := h.up kg
  clear kg
  generalize gr w4 g = w5 at *
  conv => arg 5; simp only [fill, Act.put, List.setIfInBounds_toArray, List.set_cons_succ, List.set_cons_zero]
  have e3 : tx.extract 28 29 = ⟨#[53]⟩ := by kernel_rfl
  have r0 := obj_cell hr 0 rfl; have r1 := obj_cell hr 1 rfl; have rz := blk_lt hr; have f0 := box_fz (i := 0) hr; have f1 := box_fz (i := 1) hr
  go_wp2_with fail
  exact bodyPost_ret (v := .agg #[.int .i64 2, .string ⟨#[53]⟩]) (by simp [results, Tryz.results20, go_sem, r0, r1, e3]) rfl ⟨rfl, (h.far hne _ _).far hne _ _, (hk.own (Nat.le_of_eq ebr.out) _ _).own (Nat.le_of_eq ebr.out) _ _⟩
set_option maxRecDepth 100000 in
set_option maxHeartbeats 4000000 in
theorem q_peek29 (b : Nat) (w : World) (h : PB w b 29) :
    Calls Tryz.prog 20 #[.pointer (some ⟨b, 0, none⟩)] w fun e w' => e = .returned (.agg #[.int .i64 0, .string ⟨#[]⟩]) ∧ PB w' b 29 ∧ Kb b w w' := by
  have hne : b ≠ w.heap.size := Nat.ne_of_lt h.lt
  go_enter Tryz.func20, Tryz.ntmps20
  go_wp2_with fail
  have g0 := Gn.al (w := w) (.cells #[.int .i64 0, .string ⟨#[]⟩] 63)
  have hr := hnew w (.cells #[.int .i64 0, .string ⟨#[]⟩] 63)
  have hk : Kb b w _ := Kb.of g0
  replace h := h.up g0
  clear g0
  generalize w.alloc (.cells #[.int .i64 0, .string ⟨#[]⟩] 63) = w0 at *
  generalize ebr : w.heap.size = br at *
  replace ebr := Lib.hid ebr
  have ts := tx_size
  refine wp_loop_rounds 1 ?_
  rw [rounds_succ]
  go_wp2_with fail
  have c0 := h.s; have c1 := h.p; have lt := h.lt
  try simp only [List.append_eq, List.cons_append, List.nil_append]
  refine wp_region_gr (by kernel_rfl) (lex_of_chk (by kernel_rfl) (by kernel_rfl)) ?_
  repeat (go_big_quiet_step (fail))
  refine wpQuiet_nil ?_
  intro w1 kk
  clear c0 c1 lt
  replace hk := hk.gn kk; replace hr := Gn.block kk hr; replace h := h.up kk
  clear kk
  have c0 := h.s; have c1 := h.p; have lt := h.lt
  go_wp2_with fail
  try simp only [List.append_eq, List.cons_append, List.nil_append]
  refine wp_region_gr (by kernel_rfl) (lex_of_chk (by kernel_rfl) (by kernel_rfl)) ?_
  repeat (go_big_quiet_step (fail))
  refine wpQuiet_nil ?_
  intro w2 kk
  clear c0 c1 lt
  replace hk := hk.gn kk; replace hr := Gn.block kk hr; replace h := h.up kk
  clear kk
  have c0 := h.s; have c1 := h.p; have lt := h.lt
  have r0 := obj_cell hr 0 rfl; have r1 := obj_cell hr 1 rfl; have rz := blk_lt hr; have f0 := box_fz (i := 0) hr; have f1 := box_fz (i := 1) hr
  have e1 : (tx.extract 29 29).toList.isEmpty = true := by kernel_rfl
  go_wp2_with fail
  exact bodyPost_ret (v := .agg #[.int .i64 0, .string ⟨#[]⟩]) (by simp [results, Tryz.results20, go_sem, r0, r1]) rfl ⟨rfl, (h.far hne _ _).far hne _ _, (hk.own (Nat.le_of_eq ebr.out) _ _).own (Nat.le_of_eq ebr.out) _ _⟩
end Go.Proofs.YtgambglgkilgkaaGreatDoor
