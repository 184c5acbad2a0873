/- The walk of law03.sanity. -/
import Derived.Test.YtjchccpicddpoaaPx
namespace Go.Proofs.Ytjchccpicddpoaa
open Go.RowKit Att Att.CRing
theorem san_ex : ∃ (I : List Ext → List Ext) (LI : List Int → List Ext),
    (∀ {l : List Ext}, l.length ≤ 100000 → ∀ u w, isSl l u w → Calls Try.prog 33 #[u] w (Ans (sv (I l)) w)) ∧
    (∀ {l : List Ext} {x y : Ext}, l.length ≤ 100000 → ev (I l) x = y → ∀ u v w, isSl l u w → isV (.agg #[.int .u64 (Zm.i (Ext.a (x))), .int .u64 (Zm.i (Ext.b (x)))]) v w → Calls Try.prog 35 #[u, v] w (Ans (fun v _ _ => v = .agg #[.int .u64 (Zm.i (Ext.a (y))), .int .u64 (Zm.i (Ext.b (y)))]) w)) ∧
    (∀ {l : List Int}, l.length ≤ 1000 → ∀ u w, isSi l u w → Calls Try.prog 44 #[u] w (Ans (sv (LI l)) w)) ∧
    (∀ (l : List Int) {w : World} {A : Option Addr} {n c : Nat}, SlI w A n c l → l.length ≤ 1000 → Calls Try.prog 44 #[.slice A n c] w (RetSl w (LI l))) ∧
    Hid (∀ l, (LI l).length = l.length) ∧
    Hid (trim (pmul (LI [1, 1]) (LI [1, -1])) = LI [1, 0, -1]) ∧ Hid (I (LI [1, 2, 5]) = LI [1, 0, 1]) ∧ Hid (trim (dq (LI [-1, 0, 1]) (int 2)) = LI [2, 1]) ∧ Hid (ev (LI [-1, 0, 1]) (int 2) = int 3) ∧
    Hid (rts (LI [-1, 0, 1]) (LI [0, 1, -1, 2, 1]) 5 = [1, 2, 4]) ∧ Hid (rts [] (LI [5]) 1 = [0]) ∧ Hid ((trim (LI [4, 0, 7, 0])).length = 3) ∧ Hid (trim (LI [4, 0, 0]) = LI [4]) ∧ Hid (ev (LI [1, 2, 3]) (int 10) = int 321) ∧
    Hid (ev (I (LI [0, 1, 4])) (int (-3)) = int 9) ∧ Hid (trim (psub (LI [1, 2]) (LI [1, 2])) = []) ∧ Hid (trim (padd (LI [1, 2]) (LI [1])) = LI [2, 2]) ∧ Hid (trim (psca (LI [1, 2]) (int (-2))) = LI [-2, -4]) := by
  obtain ⟨I, hI, -, hT, -, hIl, hIt, hIe⟩ := inter_ex
  refine ⟨I, li, hI, hT, k_ints, ?_, Lib.hid (fun l => List.length_map ..), Lib.hid sx1, Lib.hid (sx2 hIl hIt hIe), Lib.hid sx3, Lib.hid sx4, Lib.hid sx5, Lib.hid sx6, Lib.hid sx7, Lib.hid sx8, Lib.hid sx9, Lib.hid (sx10 hIl hIt hIe), Lib.hid sx11, Lib.hid sx12, Lib.hid sx13⟩
  intro l w A n c h hl
  obtain rfl := h.len
  exact o_ints A _ c l w h hl
theorem SlI.new {w : World} {b : Nat} {l : List Int} (hb : b = w.heap.size) (hr : ∀ z ∈ l, -9223372036854775808 ≤ z ∧ z ≤ 9223372036854775807) (hs : l.length ≤ 9223372036854775807) : SlI (w.alloc (.cells (fi l).toArray 2)) (some ⟨b, 0, none⟩) l.length l.length l := by
  subst hb; exact SlI.of' (hnew _ _) hr hs
theorem ex_len' {ops : Array Oper} {W : World} {o : Oper} {Γ : List Ent} {a : Act} {x : Operand} {l : List Ext} {z : Int} (hz : (l.length : Int) = z) (hop : o.op = .call { callee := .builtin .len, args := #[x], argTypes := #[22] })
    (hw : ∀ V, Region.wanted o (yielded ops (fill Γ V a).tmps) = true) (hx : Arg ops W o Γ a x (isSl l)) : ExS Try.prog ops W o Γ a (fun v _ _ => v = .int .i64 z) := by
  subst hz; exact ex_len hop hw hx
set_option maxHeartbeats 4000000 in
set_option maxRecDepth 20000 in
theorem o_sanity (w : World) : Calls Try.prog 11 #[] w fun e w' => e = .returned (.bool true) ∧ ∃ g, w' = gr w g := by
  obtain ⟨I, LI, hI, hT, HK, HO, HL, X1, X2, X3, X4, X5, X6, X7, X8, X9, X10, X11, X12, X13⟩ := san_ex
  go_enter Try.func11, Try.ntmps11
  go_wp2_with fail
  refine (HO [-1, 0, 1] (SlI.new rfl (by simp) (by simp)) (by simp)).mono ?_
  rintro e w1 ⟨A1, n1, c1, rfl, s1, g1⟩
  go_wp2_with fail
  refine (x_fromInt 2 (by omega) (by omega) _).mono ?_
  rintro e w2 ⟨rfl, g2⟩
  obtain rfl := s1.len
  go_wp2_with fail
  refine (p_divRoot A1 _ c1 _ (int 2) _ (s1.up g2) (by rw [HL.out]; decide)).mono ?_
  rw [X3.out, X4.out]
  rintro e w3 ⟨A3, n3, c3, rfl, s3, g3⟩
  have hg := (Gn.trans (Gn.al _) g1).trans (Gn.trans g2 g3)
  clear g1 g2 g3 s1
  go_wp2_with fail
  have hb := hnew w3 (.cells #[.int .u64 (Zm.i (Ext.a (int 3))), .int .u64 (Zm.i (Ext.b (int 3)))] 25)
  have s3 := s3.up (Gn.al (.cells #[.int .u64 (Zm.i (Ext.a (int 3))), .int .u64 (Zm.i (Ext.b (int 3)))] 25))
  have hg := hg.trans (Gn.al (.cells #[.int .u64 (Zm.i (Ext.a (int 3))), .int .u64 (Zm.i (Ext.b (int 3)))] 25))
  have hz : w3.heap.size + 1 = (w3.alloc (.cells #[.int .u64 (Zm.i (Ext.a (int 3))), .int .u64 (Zm.i (Ext.b (int 3)))] 25)).heap.size := by simp
  generalize w3.alloc (.cells #[.int .u64 (Zm.i (Ext.a (int 3))), .int .u64 (Zm.i (Ext.b (int 3)))] 25) = w4 at *
  generalize w3.heap.size = b3 at *
  refine (HO [-1, 0, 1] (SlI.new hz (by simp) (by simp)) (by simp)).mono ?_
  clear hz
  rintro e w5 ⟨A5, n5, c5, rfl, s5, g5⟩
  go_wp2_with fail
  refine (HO [0, 1, -1, 2, 1] (SlI.new rfl (by simp) (by simp)) (by simp)).mono ?_
  rintro e w6 ⟨A6, n6, c6, rfl, s6, g6⟩
  obtain rfl := s5.len
  obtain rfl := s6.len
  go_wp2_with fail
  have s5 := s5.up (Gn.trans (Gn.al _) g6)
  refine (p_roots _ _ _ _ _ _ _ _ _ s5 s6 (by rw [HL.out]; decide) (by rw [HL.out]; decide)).mono ?_
  rw [show (LI [0, 1, -1, 2, 1]).length = 5 from HL.out _, X5.out]
  rintro e w7 ⟨A7, c7, rfl, s7, g7⟩
  have gA := ((Gn.trans (Gn.al _) g5).trans (Gn.trans (Gn.al _) g6)).trans g7
  have hb := gA.block hb
  have s3 := s3.up gA
  have hg := hg.trans gA
  clear gA g5 g6 g7 s5 s6
  go_wp2_with fail
  refine (HO [5] (SlI.new rfl (by simp) (by simp)) (by simp)).mono ?_
  rintro e w8 ⟨A8, n8, c8, rfl, s8, g8⟩
  obtain rfl := s8.len
  go_wp2_with fail
  refine (p_roots _ _ _ _ _ _ _ _ _ (Sl.nil _) s8 (by simp) (by rw [HL.out]; decide)).mono ?_
  rw [show (LI [5]).length = 1 from HL.out _, X6.out]
  rintro e w9 ⟨A9, c9, rfl, s9, g9⟩
  have gA := (Gn.trans (Gn.al _) g8).trans g9
  have hb := gA.block hb
  have s3 := s3.up gA
  have s7 := s7.up gA
  have hg := hg.trans gA
  clear gA g8 g9 s8
  go_wp2_with fail
  have hq : isSl (LI [2, 1]) (.slice A3 n3 c3) w9 := ⟨_, _, _, rfl, s3⟩
  obtain ⟨bz, oz, rfl, hbz, hcz⟩ := s7.cells (by simp)
  have q0 : w9.cell? ⟨bz, oz, none⟩ = some (.int .i64 1) := hcz 0 1 rfl
  have q1 : w9.cell? ⟨bz, oz + 1, none⟩ = some (.int .i64 2) := hcz 1 2 rfl
  have q2 : w9.cell? ⟨bz, oz + 2, none⟩ = some (.int .i64 4) := hcz 2 4 rfl
  have c1 := box_a hb
  have c2 := box_b hb
  have c3 := blk_lt hb
  clear hcz s3 s7 s9
  try simp only [List.append_eq, List.cons_append, List.nil_append]
  refine Fk.wp_region_flow 107 (by kernel_rfl) (by kernel_rfl) ?_
  refine flow_exS _ rfl (ex_bi (l := [1, 1]) rfl (want_fill (by kernel_rfl) (by kernel_rfl)) (by kernel_rfl) rfl (by decide) (by decide) (by decide) (by kernel_rfl)) ?_
  refine flow_exS _ rfl (ex_call1 (HK (by decide)) rfl (by kernel_rfl) (want_fill (by kernel_rfl) (by kernel_rfl)) (arg_si 0 rfl (by kernel_rfl) (by kernel_rfl))) ?_
  refine flow_exS _ rfl (ex_bi (l := [1, -1]) rfl (want_fill (by kernel_rfl) (by kernel_rfl)) (by kernel_rfl) rfl (by decide) (by decide) (by decide) (by kernel_rfl)) ?_
  refine flow_exS _ rfl (ex_call1 (HK (by decide)) rfl (by kernel_rfl) (want_fill (by kernel_rfl) (by kernel_rfl)) (arg_si 0 rfl (by kernel_rfl) (by kernel_rfl))) ?_
  refine flow_exS _ rfl (ex_call2 (k_pmul (by rw [HL.out]; decide) (by rw [HL.out]; decide)) rfl (by kernel_rfl) (want_fill (by kernel_rfl) (by kernel_rfl)) (arg_sv 2 rfl (by kernel_rfl) (by kernel_rfl)) (arg_sv 0 rfl (by kernel_rfl) (by kernel_rfl))) ?_
  refine flow_exS _ rfl (ex_bi (l := [1, 0, -1]) rfl (want_fill (by kernel_rfl) (by kernel_rfl)) (by kernel_rfl) rfl (by decide) (by decide) (by decide) (by kernel_rfl)) ?_
  refine flow_exS _ rfl (ex_call1 (HK (by decide)) rfl (by kernel_rfl) (want_fill (by kernel_rfl) (by kernel_rfl)) (arg_si 0 rfl (by kernel_rfl) (by kernel_rfl))) ?_
  refine flow_knS (.bool true) rfl (ex_call2 (k_same (decide_eq_true X1.out)) rfl (by kernel_rfl) (want_fill (by kernel_rfl) (by kernel_rfl)) (arg_sv 2 rfl (by kernel_rfl) (by kernel_rfl)) (arg_sv 0 rfl (by kernel_rfl) (by kernel_rfl))) ?_
  conv => arg 8; simp only [Act.put, List.setIfInBounds_toArray, List.set_cons_succ, List.set_cons_zero]
  refine Fk.flow_one rfl (freeB_spec (by kernel_rfl)) ?_
  go_big_quiet_step (fail)
  refine wpQuiet_nil ?_
  refine flow_exS _ rfl (ex_bi (l := [1, 2, 5]) rfl (want_fill (by kernel_rfl) (by kernel_rfl)) (by kernel_rfl) rfl (by decide) (by decide) (by decide) (by kernel_rfl)) ?_
  refine flow_exS _ rfl (ex_call1 (HK (by decide)) rfl (by kernel_rfl) (want_fill (by kernel_rfl) (by kernel_rfl)) (arg_si 0 rfl (by kernel_rfl) (by kernel_rfl))) ?_
  refine flow_exS _ rfl (ex_call1 (hI (by rw [HL.out]; decide)) rfl (by kernel_rfl) (want_fill (by kernel_rfl) (by kernel_rfl)) (arg_sv 0 rfl (by kernel_rfl) (by kernel_rfl))) ?_
  refine flow_exS _ rfl (ex_bi (l := [1, 0, 1]) rfl (want_fill (by kernel_rfl) (by kernel_rfl)) (by kernel_rfl) rfl (by decide) (by decide) (by decide) (by kernel_rfl)) ?_
  refine flow_exS _ rfl (ex_call1 (HK (by decide)) rfl (by kernel_rfl) (want_fill (by kernel_rfl) (by kernel_rfl)) (arg_si 0 rfl (by kernel_rfl) (by kernel_rfl))) ?_
  refine flow_knS (.bool true) rfl (ex_call2 (k_same (decide_eq_true X2.out)) rfl (by kernel_rfl) (want_fill (by kernel_rfl) (by kernel_rfl)) (arg_sv 2 rfl (by kernel_rfl) (by kernel_rfl)) (arg_sv 0 rfl (by kernel_rfl) (by kernel_rfl))) ?_
  conv => arg 8; simp only [Act.put, List.setIfInBounds_toArray, List.set_cons_succ, List.set_cons_zero]
  refine Fk.flow_one rfl (freeB_spec (by kernel_rfl)) ?_
  go_big_quiet_step (fail)
  refine wpQuiet_nil ?_
  refine Fk.flow_one rfl (freeB_spec (by kernel_rfl)) ?_
  go_big_quiet_step (fail)
  refine wpQuiet_nil ?_
  refine Fk.flow_one rfl (freeB_spec (by kernel_rfl)) ?_
  go_big_quiet_step (fail)
  refine wpQuiet_nil ?_
  refine flow_exS _ rfl (ex_bi (l := [2, 1]) rfl (want_fill (by kernel_rfl) (by kernel_rfl)) (by kernel_rfl) rfl (by decide) (by decide) (by decide) (by kernel_rfl)) ?_
  refine flow_exS _ rfl (ex_call1 (HK (by decide)) rfl (by kernel_rfl) (want_fill (by kernel_rfl) (by kernel_rfl)) (arg_si 0 rfl (by kernel_rfl) (by kernel_rfl))) ?_
  refine flow_knS (.bool true) rfl (ex_call2 (k_same (decide_eq_true rfl)) rfl (by kernel_rfl) (want_fill (by kernel_rfl) (by kernel_rfl)) (arg_s0 (by kernel_rfl) rfl hq) (arg_sv 0 rfl (by kernel_rfl) (by kernel_rfl))) ?_
  conv => arg 8; simp only [Act.put, List.setIfInBounds_toArray, List.set_cons_succ, List.set_cons_zero]
  refine Fk.flow_one rfl (freeB_spec (by kernel_rfl)) ?_
  go_big_quiet_step (fail)
  refine wpQuiet_nil ?_
  refine Fk.flow_one rfl (freeB_spec (by kernel_rfl)) ?_
  go_big_quiet_step (fail)
  refine wpQuiet_nil ?_
  refine Fk.flow_one rfl (freeB_spec (by kernel_rfl)) ?_
  go_big_quiet_step (fail)
  refine wpQuiet_nil ?_
  apply Fk.flow_is
  · exact freeB_spec (by kernel_rfl)
  · intro g K hK
    go_wp2_with fail
    refine (x_fromInt (3) (by omega) (by omega) _).mono ?_
    rintro e w' ⟨rfl, g', rfl⟩
    go_wp2_with fail
    exact hK _ (up_comp g g')
  · rfl
  refine Fk.flow_one rfl (freeB_spec (by kernel_rfl)) ?_
  go_big_quiet_step (fail)
  refine wpQuiet_nil ?_
  refine Fk.flow_one rfl (freeB_spec (by kernel_rfl)) ?_
  go_big_quiet_step (fail)
  refine wpQuiet_nil ?_
  refine Fk.flow_one rfl (freeB_spec (by kernel_rfl)) ?_
  go_big_quiet_step (fail)
  refine wpQuiet_nil ?_
  refine Fk.flow_one rfl (freeB_spec (by kernel_rfl)) ?_
  go_big_quiet_step (fail)
  refine wpQuiet_nil ?_
  refine Fk.flow_one rfl (freeB_spec (by kernel_rfl)) ?_
  go_big_quiet_step (fail)
  refine wpQuiet_nil ?_
  refine Fk.flow_one rfl (freeB_spec (by kernel_rfl)) ?_
  go_big_quiet_step (fail)
  refine wpQuiet_nil ?_
  refine Fk.flow_one rfl (freeB_spec (by kernel_rfl)) ?_
  go_big_quiet_step (fail)
  refine wpQuiet_nil ?_
  refine Fk.flow_one rfl (freeB_spec (by kernel_rfl)) ?_
  go_big_quiet_step (fail)
  refine wpQuiet_nil ?_
  refine Fk.flow_one rfl (freeB_spec (by kernel_rfl)) ?_
  go_big_quiet_step (fail)
  refine wpQuiet_nil ?_
  refine Fk.flow_one rfl (freeB_spec (by kernel_rfl)) ?_
  go_big_quiet_step (fail)
  refine wpQuiet_nil ?_
  refine Fk.flow_one rfl (freeB_spec (by kernel_rfl)) ?_
  go_big_quiet_step (fail)
  refine wpQuiet_nil ?_
  refine Fk.flow_one rfl (freeB_spec (by kernel_rfl)) ?_
  go_big_quiet_step (fail)
  refine wpQuiet_nil ?_
  refine Fk.flow_one rfl (freeB_spec (by kernel_rfl)) ?_
  go_big_quiet_step (fail)
  refine wpQuiet_nil ?_
  refine Fk.flow_one rfl (freeB_spec (by kernel_rfl)) ?_
  go_big_quiet_step (fail)
  refine wpQuiet_nil ?_
  refine Fk.flow_one rfl (freeB_spec (by kernel_rfl)) ?_
  go_big_quiet_step (fail)
  refine wpQuiet_nil ?_
  refine Fk.flow_one rfl (freeB_spec (by kernel_rfl)) ?_
  go_big_quiet_step (fail)
  refine wpQuiet_nil ?_
  refine Fk.flow_one rfl (freeB_spec (by kernel_rfl)) ?_
  go_big_quiet_step (fail)
  refine wpQuiet_nil ?_
  refine Fk.flow_one rfl (freeB_spec (by kernel_rfl)) ?_
  go_big_quiet_step (fail)
  refine wpQuiet_nil ?_
  refine Fk.flow_one rfl (freeB_spec (by kernel_rfl)) ?_
  go_big_quiet_step (fail)
  refine wpQuiet_nil ?_
  refine Fk.flow_one rfl (freeB_spec (by kernel_rfl)) ?_
  go_big_quiet_step (fail)
  refine wpQuiet_nil ?_
  refine Fk.flow_one rfl (freeB_spec (by kernel_rfl)) ?_
  go_big_quiet_step (fail)
  refine wpQuiet_nil ?_
  refine flow_knS (.int .i64 (-1)) rfl (ex_call1 (k_pdeg (l := []) (by simp) (by decide)) rfl (by kernel_rfl) (want_fill (by kernel_rfl) (by kernel_rfl)) (arg_nil)) ?_
  conv => arg 8; simp only [Act.put, List.setIfInBounds_toArray, List.set_cons_succ, List.set_cons_zero]
  refine Fk.flow_one rfl (freeB_spec (by kernel_rfl)) ?_
  go_big_quiet_step (fail)
  refine wpQuiet_nil ?_
  refine Fk.flow_one rfl (freeB_spec (by kernel_rfl)) ?_
  go_big_quiet_step (fail)
  refine wpQuiet_nil ?_
  refine Fk.flow_one rfl (freeB_spec (by kernel_rfl)) ?_
  go_big_quiet_step (fail)
  refine wpQuiet_nil ?_
  refine flow_exS _ rfl (ex_bi (l := [4, 0, 7, 0]) rfl (want_fill (by kernel_rfl) (by kernel_rfl)) (by kernel_rfl) rfl (by decide) (by decide) (by decide) (by kernel_rfl)) ?_
  refine flow_exS _ rfl (ex_call1 (HK (by decide)) rfl (by kernel_rfl) (want_fill (by kernel_rfl) (by kernel_rfl)) (arg_si 0 rfl (by kernel_rfl) (by kernel_rfl))) ?_
  refine flow_knS (.int .i64 2) rfl (ex_call1 (k_pdeg (by rw [HL.out]; decide) (by rw [X7.out]; rfl)) rfl (by kernel_rfl) (want_fill (by kernel_rfl) (by kernel_rfl)) (arg_sv 0 rfl (by kernel_rfl) (by kernel_rfl))) ?_
  conv => arg 8; simp only [Act.put, List.setIfInBounds_toArray, List.set_cons_succ, List.set_cons_zero]
  refine Fk.flow_one rfl (freeB_spec (by kernel_rfl)) ?_
  go_big_quiet_step (fail)
  refine wpQuiet_nil ?_
  refine Fk.flow_one rfl (freeB_spec (by kernel_rfl)) ?_
  go_big_quiet_step (fail)
  refine wpQuiet_nil ?_
  refine Fk.flow_one rfl (freeB_spec (by kernel_rfl)) ?_
  go_big_quiet_step (fail)
  refine wpQuiet_nil ?_
  refine flow_exS _ rfl (ex_bi (l := [4, 0, 0]) rfl (want_fill (by kernel_rfl) (by kernel_rfl)) (by kernel_rfl) rfl (by decide) (by decide) (by decide) (by kernel_rfl)) ?_
  refine flow_exS _ rfl (ex_call1 (HK (by decide)) rfl (by kernel_rfl) (want_fill (by kernel_rfl) (by kernel_rfl)) (arg_si 0 rfl (by kernel_rfl) (by kernel_rfl))) ?_
  refine flow_exS _ rfl (ex_call1 (k_ptrim (by rw [HL.out]; decide)) rfl (by kernel_rfl) (want_fill (by kernel_rfl) (by kernel_rfl)) (arg_sv 0 rfl (by kernel_rfl) (by kernel_rfl))) ?_
  refine flow_exS _ rfl (ex_bi (l := [4]) rfl (want_fill (by kernel_rfl) (by kernel_rfl)) (by kernel_rfl) rfl (by decide) (by decide) (by decide) (by kernel_rfl)) ?_
  refine flow_exS _ rfl (ex_call1 (HK (by decide)) rfl (by kernel_rfl) (want_fill (by kernel_rfl) (by kernel_rfl)) (arg_si 0 rfl (by kernel_rfl) (by kernel_rfl))) ?_
  refine flow_knS (.bool true) rfl (ex_call2 (k_same (decide_eq_true X8.out)) rfl (by kernel_rfl) (want_fill (by kernel_rfl) (by kernel_rfl)) (arg_sv 2 rfl (by kernel_rfl) (by kernel_rfl)) (arg_sv 0 rfl (by kernel_rfl) (by kernel_rfl))) ?_
  conv => arg 8; simp only [Act.put, List.setIfInBounds_toArray, List.set_cons_succ, List.set_cons_zero]
  refine Fk.flow_one rfl (freeB_spec (by kernel_rfl)) ?_
  go_big_quiet_step (fail)
  refine wpQuiet_nil ?_
  refine Fk.flow_one rfl (freeB_spec (by kernel_rfl)) ?_
  go_big_quiet_step (fail)
  refine wpQuiet_nil ?_
  refine flow_exS _ rfl (ex_bi (l := [1, 2, 3]) rfl (want_fill (by kernel_rfl) (by kernel_rfl)) (by kernel_rfl) rfl (by decide) (by decide) (by decide) (by kernel_rfl)) ?_
  refine flow_exS _ rfl (ex_call1 (HK (by decide)) rfl (by kernel_rfl) (want_fill (by kernel_rfl) (by kernel_rfl)) (arg_si 0 rfl (by kernel_rfl) (by kernel_rfl))) ?_
  apply Fk.flow_is
  · exact freeB_spec (by kernel_rfl)
  · intro g K hK
    go_wp2_with fail
    refine (x_fromInt (10) (by omega) (by omega) _).mono ?_
    rintro e w' ⟨rfl, g', rfl⟩
    go_wp2_with fail
    exact hK _ (up_comp g g')
  · rfl
  refine flow_knS (.agg #[.int .u64 (Zm.i (Ext.a ((int 321 : Ext)))), .int .u64 (Zm.i (Ext.b ((int 321 : Ext))))]) rfl (ex_call2 (k_pev (by rw [HL.out]; decide) X9.out) rfl (by kernel_rfl) (want_fill (by kernel_rfl) (by kernel_rfl)) (arg_sv 0 rfl (by kernel_rfl) (by kernel_rfl)) (arg_v (by kernel_rfl) rfl)) ?_
  conv => arg 8; simp only [Act.put, List.setIfInBounds_toArray, List.set_cons_succ, List.set_cons_zero]
  apply Fk.flow_is
  · exact freeB_spec (by kernel_rfl)
  · intro g K hK
    go_wp2_with fail
    refine (x_fromInt (321) (by omega) (by omega) _).mono ?_
    rintro e w' ⟨rfl, g', rfl⟩
    go_wp2_with fail
    exact hK _ (up_comp g g')
  · rfl
  refine Fk.flow_one rfl (freeB_spec (by kernel_rfl)) ?_
  go_big_quiet_step (fail)
  refine wpQuiet_nil ?_
  refine Fk.flow_one rfl (freeB_spec (by kernel_rfl)) ?_
  go_big_quiet_step (fail)
  refine wpQuiet_nil ?_
  refine Fk.flow_one rfl (freeB_spec (by kernel_rfl)) ?_
  go_big_quiet_step (fail)
  refine wpQuiet_nil ?_
  refine flow_exS _ rfl (ex_bi (l := [0, 1, 4]) rfl (want_fill (by kernel_rfl) (by kernel_rfl)) (by kernel_rfl) rfl (by decide) (by decide) (by decide) (by kernel_rfl)) ?_
  refine flow_exS _ rfl (ex_call1 (HK (by decide)) rfl (by kernel_rfl) (want_fill (by kernel_rfl) (by kernel_rfl)) (arg_si 0 rfl (by kernel_rfl) (by kernel_rfl))) ?_
  apply Fk.flow_is
  · exact freeB_spec (by kernel_rfl)
  · intro g K hK
    go_wp2_with fail
    refine (x_fromInt (-3) (by omega) (by omega) _).mono ?_
    rintro e w' ⟨rfl, g', rfl⟩
    go_wp2_with fail
    exact hK _ (up_comp g g')
  · rfl
  refine flow_knS (.agg #[.int .u64 (Zm.i (Ext.a ((int 9 : Ext)))), .int .u64 (Zm.i (Ext.b ((int 9 : Ext))))]) rfl (ex_call2 (hT (by rw [HL.out]; decide) X10.out) rfl (by kernel_rfl) (want_fill (by kernel_rfl) (by kernel_rfl)) (arg_sv 0 rfl (by kernel_rfl) (by kernel_rfl)) (arg_v (by kernel_rfl) rfl)) ?_
  conv => arg 8; simp only [Act.put, List.setIfInBounds_toArray, List.set_cons_succ, List.set_cons_zero]
  apply Fk.flow_is
  · exact freeB_spec (by kernel_rfl)
  · intro g K hK
    go_wp2_with fail
    refine (x_fromInt (9) (by omega) (by omega) _).mono ?_
    rintro e w' ⟨rfl, g', rfl⟩
    go_wp2_with fail
    exact hK _ (up_comp g g')
  · rfl
  refine Fk.flow_one rfl (freeB_spec (by kernel_rfl)) ?_
  go_big_quiet_step (fail)
  refine wpQuiet_nil ?_
  refine Fk.flow_one rfl (freeB_spec (by kernel_rfl)) ?_
  go_big_quiet_step (fail)
  refine wpQuiet_nil ?_
  refine Fk.flow_one rfl (freeB_spec (by kernel_rfl)) ?_
  go_big_quiet_step (fail)
  refine wpQuiet_nil ?_
  refine flow_exS _ rfl (ex_bi (l := [1, 2]) rfl (want_fill (by kernel_rfl) (by kernel_rfl)) (by kernel_rfl) rfl (by decide) (by decide) (by decide) (by kernel_rfl)) ?_
  refine flow_exS _ rfl (ex_call1 (HK (by decide)) rfl (by kernel_rfl) (want_fill (by kernel_rfl) (by kernel_rfl)) (arg_si 0 rfl (by kernel_rfl) (by kernel_rfl))) ?_
  refine flow_exS _ rfl (ex_bi (l := [1, 2]) rfl (want_fill (by kernel_rfl) (by kernel_rfl)) (by kernel_rfl) rfl (by decide) (by decide) (by decide) (by kernel_rfl)) ?_
  refine flow_exS _ rfl (ex_call1 (HK (by decide)) rfl (by kernel_rfl) (want_fill (by kernel_rfl) (by kernel_rfl)) (arg_si 0 rfl (by kernel_rfl) (by kernel_rfl))) ?_
  refine flow_exS _ rfl (ex_call2 (k_psub (by rw [HL.out]; decide) (by rw [HL.out]; decide)) rfl (by kernel_rfl) (want_fill (by kernel_rfl) (by kernel_rfl)) (arg_sv 2 rfl (by kernel_rfl) (by kernel_rfl)) (arg_sv 0 rfl (by kernel_rfl) (by kernel_rfl))) ?_
  refine flow_knS (.int .i64 0) rfl (ex_len' (by rw [X11.out]; rfl) rfl (want_fill (by kernel_rfl) (by kernel_rfl)) (arg_sv 0 rfl (by kernel_rfl) (by kernel_rfl))) ?_
  conv => arg 8; simp only [Act.put, List.setIfInBounds_toArray, List.set_cons_succ, List.set_cons_zero]
  refine Fk.flow_one rfl (freeB_spec (by kernel_rfl)) ?_
  go_big_quiet_step (fail)
  refine wpQuiet_nil ?_
  refine Fk.flow_one rfl (freeB_spec (by kernel_rfl)) ?_
  go_big_quiet_step (fail)
  refine wpQuiet_nil ?_
  refine Fk.flow_one rfl (freeB_spec (by kernel_rfl)) ?_
  go_big_quiet_step (fail)
  refine wpQuiet_nil ?_
  refine flow_exS _ rfl (ex_bi (l := [1, 2]) rfl (want_fill (by kernel_rfl) (by kernel_rfl)) (by kernel_rfl) rfl (by decide) (by decide) (by decide) (by kernel_rfl)) ?_
  refine flow_exS _ rfl (ex_call1 (HK (by decide)) rfl (by kernel_rfl) (want_fill (by kernel_rfl) (by kernel_rfl)) (arg_si 0 rfl (by kernel_rfl) (by kernel_rfl))) ?_
  refine flow_exS _ rfl (ex_bi (l := [1]) rfl (want_fill (by kernel_rfl) (by kernel_rfl)) (by kernel_rfl) rfl (by decide) (by decide) (by decide) (by kernel_rfl)) ?_
  refine flow_exS _ rfl (ex_call1 (HK (by decide)) rfl (by kernel_rfl) (want_fill (by kernel_rfl) (by kernel_rfl)) (arg_si 0 rfl (by kernel_rfl) (by kernel_rfl))) ?_
  refine flow_exS _ rfl (ex_call2 (k_padd (by rw [HL.out]; decide) (by rw [HL.out]; decide)) rfl (by kernel_rfl) (want_fill (by kernel_rfl) (by kernel_rfl)) (arg_sv 2 rfl (by kernel_rfl) (by kernel_rfl)) (arg_sv 0 rfl (by kernel_rfl) (by kernel_rfl))) ?_
  refine flow_exS _ rfl (ex_bi (l := [2, 2]) rfl (want_fill (by kernel_rfl) (by kernel_rfl)) (by kernel_rfl) rfl (by decide) (by decide) (by decide) (by kernel_rfl)) ?_
  refine flow_exS _ rfl (ex_call1 (HK (by decide)) rfl (by kernel_rfl) (want_fill (by kernel_rfl) (by kernel_rfl)) (arg_si 0 rfl (by kernel_rfl) (by kernel_rfl))) ?_
  refine flow_knS (.bool true) rfl (ex_call2 (k_same (decide_eq_true X12.out)) rfl (by kernel_rfl) (want_fill (by kernel_rfl) (by kernel_rfl)) (arg_sv 2 rfl (by kernel_rfl) (by kernel_rfl)) (arg_sv 0 rfl (by kernel_rfl) (by kernel_rfl))) ?_
  conv => arg 8; simp only [Act.put, List.setIfInBounds_toArray, List.set_cons_succ, List.set_cons_zero]
  refine Fk.flow_one rfl (freeB_spec (by kernel_rfl)) ?_
  go_big_quiet_step (fail)
  refine wpQuiet_nil ?_
  refine Fk.flow_one rfl (freeB_spec (by kernel_rfl)) ?_
  go_big_quiet_step (fail)
  refine wpQuiet_nil ?_
  refine flow_exS _ rfl (ex_bi (l := [1, 2]) rfl (want_fill (by kernel_rfl) (by kernel_rfl)) (by kernel_rfl) rfl (by decide) (by decide) (by decide) (by kernel_rfl)) ?_
  refine flow_exS _ rfl (ex_call1 (HK (by decide)) rfl (by kernel_rfl) (want_fill (by kernel_rfl) (by kernel_rfl)) (arg_si 0 rfl (by kernel_rfl) (by kernel_rfl))) ?_
  apply Fk.flow_is
  · exact freeB_spec (by kernel_rfl)
  · intro g K hK
    go_wp2_with fail
    refine (x_fromInt (-2) (by omega) (by omega) _).mono ?_
    rintro e w' ⟨rfl, g', rfl⟩
    go_wp2_with fail
    exact hK _ (up_comp g g')
  · rfl
  refine flow_exS _ rfl (ex_call2 (k_psca (by rw [HL.out]; decide)) rfl (by kernel_rfl) (want_fill (by kernel_rfl) (by kernel_rfl)) (arg_sv 0 rfl (by kernel_rfl) (by kernel_rfl)) (arg_v (by kernel_rfl) rfl)) ?_
  refine flow_exS _ rfl (ex_bi (l := [-2, -4]) rfl (want_fill (by kernel_rfl) (by kernel_rfl)) (by kernel_rfl) rfl (by decide) (by decide) (by decide) (by kernel_rfl)) ?_
  refine flow_exS _ rfl (ex_call1 (HK (by decide)) rfl (by kernel_rfl) (want_fill (by kernel_rfl) (by kernel_rfl)) (arg_si 0 rfl (by kernel_rfl) (by kernel_rfl))) ?_
  refine flow_knS (.bool true) rfl (ex_call2 (k_same (decide_eq_true X13.out)) rfl (by kernel_rfl) (want_fill (by kernel_rfl) (by kernel_rfl)) (arg_sv 2 rfl (by kernel_rfl) (by kernel_rfl)) (arg_sv 0 rfl (by kernel_rfl) (by kernel_rfl))) ?_
  conv => arg 8; simp only [Act.put, List.setIfInBounds_toArray, List.set_cons_succ, List.set_cons_zero]
  refine Fk.flow_one rfl (freeB_spec (by kernel_rfl)) ?_
  go_big_quiet_step (fail)
  refine wpQuiet_nil ?_
  intro V N' X hΓ hdis g hX
  clear hΓ hdis hX
  have hgn : Gn w9 (gr w9 g) := ⟨g, rfl⟩
  generalize gr w9 g = w10 at *
  conv => arg 5; simp only [fill, Act.put, List.setIfInBounds_toArray, List.set_cons_succ, List.set_cons_zero]
  clear c1 c2 c3 q0 q1 q2 hbz
  go_wp2_with fail
  go_ret
  exact ⟨rfl, hg.trans hgn⟩
end Go.Proofs.Ytjchccpicddpoaa
