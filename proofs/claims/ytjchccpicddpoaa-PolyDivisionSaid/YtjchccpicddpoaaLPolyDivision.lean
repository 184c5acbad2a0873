/- PolyDivision: for every row and every pair of numbers of 64 bits the law on DivRoot returns true; no conditions. -/
import Derived.Test.YtjchccpicddpoaaFrm
import Derived.Test.YtjchccpicddpoaaPl
import Derived.Test.YtjchccpicddpoaaOp
namespace Go.Proofs.Ytjchccpicddpoaa.lawPolyDivision
open Go.ChangeShapes Go.WideShapes Go.ChangeAt Go.RowKit Att Att.CRing

set_option maxRecDepth 100000 in
set_option maxHeartbeats 4000000 in
theorem walk (w : World) (a0 : Option Addr) (len0 cap0 : Nat) (x0 : List (Int × Int)) (x1a : Int) (x1b : Int) (h_x0 : SlR w a0 len0 cap0 x0) (h_x1a : In64 x1a) (h_x1b : In64 x1b) :
    Calls Try.prog 8 #[.slice a0 len0 cap0, .agg #[.int .u64 x1a, .int .u64 x1b]] w fun e w' => e = .returned (.bool true) ∧ Below w.heap.size w w' := by
  refine Calls.mono (R := fun e w' => e = .returned (.bool true) ∧ Gn w w') ?_ (fun e w' h => ⟨h.1, h.2.below⟩)
  go_enter Try.func8, Try.ntmps8
  go_wp2_with fail
  have hx := hnew w (.cells #[.int .u64 x1a, .int .u64 x1b] 25)
  have hg : Gn w (w.alloc (.cells #[.int .u64 x1a, .int .u64 x1b] 25)) := Gn.al _
  generalize w.alloc (.cells #[.int .u64 x1a, .int .u64 x1b] 25) = w0 at *
  generalize w.heap.size = bx at *
  refine (o_sanity _).mono ?_
  rintro e w1 ⟨rfl, g⟩
  replace hg := hg.trans g
  replace hx := Gn.block g hx
  clear g
  go_wp2_with fail
  skip
  refine (x_madeL a0 len0 cap0 x0 20 _ (h_x0.up hg) (by omega)).mono ?_
  rintro e w2 ⟨v, rfl, o, g⟩
  obtain ⟨Ap, cp, rfl, s⟩ := o.sl
  replace hg := hg.trans g
  replace hx := Gn.block g hx
  clear g
  have hp : isSl ((x0.take 20).map mkP) (.slice Ap ((x0.take 20).map mkP).length cp) w2 := ⟨_, _, _, rfl, s⟩
  have lp : ((x0.take 20).map mkP).length ≤ 20 := by simp; omega
  generalize ((x0.take 20).map mkP) = p at *
  clear o s
  have q0 := obj_cell hx 0 rfl
  have q1 := obj_cell hx 1 rfl
  have ql := blk_lt hx
  go_wp2_with fail
  clear q0 q1 ql
  refine (x_mk x1a x1b _).mono ?_
  rintro e w3 ⟨rfl, g⟩
  replace hg := hg.trans g
  replace hx := Gn.block g hx
  replace hp := isSl.gn hp g
  clear g
  generalize mk x1a x1b = y at *
  go_wp2_with fail
  skip
  have hy := hnew w3 (.cells #[.int .u64 (Zm.i (Ext.a y)), .int .u64 (Zm.i (Ext.b y))] 25)
  replace hg := hg.trans (Gn.al (w := w3) (.cells #[.int .u64 (Zm.i (Ext.a y)), .int .u64 (Zm.i (Ext.b y))] 25))
  replace hx := Gn.block (Gn.al (w := w3) (.cells #[.int .u64 (Zm.i (Ext.a y)), .int .u64 (Zm.i (Ext.b y))] 25)) hx
  replace hp := isSl.gn hp (Gn.al (w := w3) (.cells #[.int .u64 (Zm.i (Ext.a y)), .int .u64 (Zm.i (Ext.b y))] 25))
  skip
  generalize w3.alloc (.cells #[.int .u64 (Zm.i (Ext.a y)), .int .u64 (Zm.i (Ext.b y))] 25) = w4 at *
  generalize w3.heap.size = bhy at *
  refine (x_neg y _).mono ?_
  rintro e w5 ⟨rfl, g⟩
  replace hg := hg.trans g
  replace hx := Gn.block g hx
  replace hp := isSl.gn hp g
  replace hy := Gn.block g hy
  clear g
  go_wp2_with fail
  skip
  refine (x_fromInt 1 (by omega) (by omega) _).mono ?_
  rintro e w6 ⟨rfl, g⟩
  replace hg := hg.trans g
  replace hx := Gn.block g hx
  replace hp := isSl.gn hp g
  replace hy := Gn.block g hy
  clear g
  have d1 := box_a hy
  have d2 := box_b hy
  have d3 := blk_lt hy
  go_wp2_with fail
  clear d1 d2 d3
  have hn : isSl [-y, int 1] (.slice (some ⟨w6.heap.size, 0, none⟩) 2 2) (w6.alloc (.cells #[.int .u64 (Zm.i (Ext.a (-y))), .int .u64 (Zm.i (Ext.b (-y))), .int .u64 (Zm.i (Ext.a (int 1))), .int .u64 (Zm.i (Ext.b (int 1)))] 25)) := sl_two (-y) (int 1)
  replace hg := hg.trans (Gn.al (w := w6) (.cells #[.int .u64 (Zm.i (Ext.a (-y))), .int .u64 (Zm.i (Ext.b (-y))), .int .u64 (Zm.i (Ext.a (int 1))), .int .u64 (Zm.i (Ext.b (int 1)))] 25))
  replace hx := Gn.block (Gn.al (w := w6) (.cells #[.int .u64 (Zm.i (Ext.a (-y))), .int .u64 (Zm.i (Ext.b (-y))), .int .u64 (Zm.i (Ext.a (int 1))), .int .u64 (Zm.i (Ext.b (int 1)))] 25)) hx
  replace hp := isSl.gn hp (Gn.al (w := w6) (.cells #[.int .u64 (Zm.i (Ext.a (-y))), .int .u64 (Zm.i (Ext.b (-y))), .int .u64 (Zm.i (Ext.a (int 1))), .int .u64 (Zm.i (Ext.b (int 1)))] 25))
  replace hy := Gn.block (Gn.al (w := w6) (.cells #[.int .u64 (Zm.i (Ext.a (-y))), .int .u64 (Zm.i (Ext.b (-y))), .int .u64 (Zm.i (Ext.a (int 1))), .int .u64 (Zm.i (Ext.b (int 1)))] 25)) hy
  skip
  generalize w6.alloc (.cells #[.int .u64 (Zm.i (Ext.a (-y))), .int .u64 (Zm.i (Ext.b (-y))), .int .u64 (Zm.i (Ext.a (int 1))), .int .u64 (Zm.i (Ext.b (int 1)))] 25) = w7 at *
  generalize w6.heap.size = bn at *
  refine (p_divRoot Ap _ cp p y _ hp.sl (by omega)).mono ?_
  rintro e w8 ⟨Aq, nq, cq, rfl, s, g⟩
  replace hg := hg.trans g
  replace hx := Gn.block g hx
  replace hp := isSl.gn hp g
  replace hy := Gn.block g hy
  replace hn := isSl.gn hn g
  clear g
  have hq : isSl (trim (dq p y)) (.slice Aq nq cq) w8 := ⟨_, _, _, rfl, s⟩
  clear s
  obtain ⟨r, hr⟩ : ∃ r, r = ev p y := ⟨_, rfl⟩
  rw [← hr]
  have lq := bdq (l := p) (c := y) 20 lp
  replace hr := Lib.hid hr
  go_wp2_with fail
  skip
  have hbr := hnew w8 (.cells #[.int .u64 (Zm.i (Ext.a r)), .int .u64 (Zm.i (Ext.b r))] 25)
  replace hg := hg.trans (Gn.al (w := w8) (.cells #[.int .u64 (Zm.i (Ext.a r)), .int .u64 (Zm.i (Ext.b r))] 25))
  replace hx := Gn.block (Gn.al (w := w8) (.cells #[.int .u64 (Zm.i (Ext.a r)), .int .u64 (Zm.i (Ext.b r))] 25)) hx
  replace hp := isSl.gn hp (Gn.al (w := w8) (.cells #[.int .u64 (Zm.i (Ext.a r)), .int .u64 (Zm.i (Ext.b r))] 25))
  replace hy := Gn.block (Gn.al (w := w8) (.cells #[.int .u64 (Zm.i (Ext.a r)), .int .u64 (Zm.i (Ext.b r))] 25)) hy
  replace hn := isSl.gn hn (Gn.al (w := w8) (.cells #[.int .u64 (Zm.i (Ext.a r)), .int .u64 (Zm.i (Ext.b r))] 25))
  replace hq := isSl.gn hq (Gn.al (w := w8) (.cells #[.int .u64 (Zm.i (Ext.a r)), .int .u64 (Zm.i (Ext.b r))] 25))
  skip
  generalize w8.alloc (.cells #[.int .u64 (Zm.i (Ext.a r)), .int .u64 (Zm.i (Ext.b r))] 25) = w9 at *
  generalize w8.heap.size = bhbr at *
  have d1 := box_a hbr
  have d2 := box_b hbr
  have d3 := blk_lt hbr
  try simp only [List.append_eq, List.cons_append, List.nil_append]
  refine Fk.wp_region_flow 6 (by kernel_rfl) (by kernel_rfl) ?_
  refine Fk.flow_one rfl (freeB_spec (by kernel_rfl)) ?_
  go_big_quiet_step (fail)
  refine wpQuiet_nil ?_
  refine Fk.flow_one rfl (freeB_spec (by kernel_rfl)) ?_
  go_big_quiet_step (fail)
  refine wpQuiet_nil ?_
  refine flow_exS _ rfl (ex_call2 (k_pmul (by omega) (by simp)) rfl (by kernel_rfl) (want_fill (by kernel_rfl) (by kernel_rfl)) (arg_s0 (by kernel_rfl) rfl hq) (arg_s0 (by kernel_rfl) rfl hn)) ?_
  refine Fk.flow_one rfl (freeB_spec (by kernel_rfl)) ?_
  go_big_quiet_step (fail)
  refine wpQuiet_nil ?_
  refine flow_exS _ rfl (ex_one' (arg_v (by kernel_rfl) rfl) rfl (want_fill (by kernel_rfl) (by kernel_rfl))) ?_
  refine flow_exS _ rfl (ex_call2 (k_padd (Nat.le_trans (bpmul 22 (by simp; omega)) (by omega)) (by simp)) rfl (by kernel_rfl) (want_fill (by kernel_rfl) (by kernel_rfl)) (arg_sv 1 rfl (by kernel_rfl) (by kernel_rfl)) (arg_sv 0 rfl (by kernel_rfl) (by kernel_rfl))) ?_
  intro V N' X hΓ hdis g hX
  have hbk : isSl (trim (padd (trim (pmul (trim (dq p y)) [-y, int 1])) [r])) (V 34) (gr w9 g) := isSl.up (hΓ ⟨34, sv _⟩ (.head _)).1 (hX _ (.head _))
  clear hΓ hdis hX
  have hgn : Gn w9 (gr w9 g) := ⟨g, rfl⟩
  generalize gr w9 g = w10 at *
  replace hg := hg.trans hgn
  replace hx := Gn.block hgn hx
  replace hp := isSl.gn hp hgn
  replace hy := Gn.block hgn hy
  replace hn := isSl.gn hn hgn
  replace hq := isSl.gn hq hgn
  replace hbr := Gn.block hgn hbr
  clear hgn
  clear d1 d2 d3
  rw [show trim (padd (trim (pmul (trim (dq p y)) [-y, int 1])) [r]) = trim p by rw [hr.out]; exact dv1 p y] at hbk
  conv => arg 5; simp only [fill, Act.put, List.setIfInBounds_toArray, List.set_cons_succ, List.set_cons_zero]
  generalize V 31 = v31 at *
  generalize V 33 = v33 at *
  generalize V 34 = vbk at *
  go_wp2_with fail
  skip
  have d1 := box_a hy
  have d2 := box_b hy
  have d3 := blk_lt hy
  try simp only [List.append_eq, List.cons_append, List.nil_append]
  refine Fk.wp_region_flow 10 (by kernel_rfl) (by kernel_rfl) ?_
  refine Fk.flow_one rfl (freeB_spec (by kernel_rfl)) ?_
  go_big_quiet_step (fail)
  refine wpQuiet_nil ?_
  refine Fk.flow_one rfl (freeB_spec (by kernel_rfl)) ?_
  go_big_quiet_step (fail)
  refine wpQuiet_nil ?_
  refine flow_exS _ rfl (ex_call2 (k_pmul (by omega) (by simp)) rfl (by kernel_rfl) (want_fill (by kernel_rfl) (by kernel_rfl)) (arg_s0 (by kernel_rfl) rfl hp) (arg_s0 (by kernel_rfl) rfl hn)) ?_
  refine Fk.flow_one rfl (freeB_spec (by kernel_rfl)) ?_
  go_big_quiet_step (fail)
  refine wpQuiet_nil ?_
  refine flow_exS _ rfl (ex_call2 (k_pdivR (Nat.le_trans (bpmul 22 (by simp; omega)) (by omega)) (dv2 p y)) rfl (by kernel_rfl) (want_fill (by kernel_rfl) (by kernel_rfl)) (arg_sv 0 rfl (by kernel_rfl) (by kernel_rfl)) (arg_v (by kernel_rfl) rfl)) ?_
  refine flow_exS _ rfl (ex_mv (arg_se 0 rfl (by kernel_rfl) (by kernel_rfl)) rfl (want_fill (by kernel_rfl) (by kernel_rfl))) ?_
  refine flow_exS _ rfl (ex_e0 (arg_se 0 rfl (by kernel_rfl) (by kernel_rfl)) rfl (want_fill (by kernel_rfl) (by kernel_rfl))) ?_
  refine flow_knS _ rfl (ex_e1 (arg_se 1 rfl (by kernel_rfl) (by kernel_rfl)) rfl (want_fill (by kernel_rfl) (by kernel_rfl))) ?_
  conv => arg 8; simp only [Act.put, List.setIfInBounds_toArray, List.set_cons_succ, List.set_cons_zero]
  refine Fk.flow_ex newBox rfl (ex_alloc _ _ _ _) ?_
  refine flow_exS _ rfl (ex_as (arg_sv 1 rfl (by kernel_rfl) (by kernel_rfl)) rfl (want_fill (by kernel_rfl) (by kernel_rfl))) ?_
  intro V N' X hΓ hdis g hX
  have hs : isSl (trim (dq (trim (pmul p [-y, int 1])) y)) (V 12) (gr w10 g) := isSl.up (hΓ ⟨12, sv _⟩ (by simp)).1 (hX ⟨12, sv _⟩ (by simp))
  obtain ⟨bz, v13, z0, hz, -, -⟩ := end_box hΓ hX (s := 13) (by simp)
  clear hΓ hdis hX
  have hgn : Gn w10 (gr w10 g) := ⟨g, rfl⟩
  generalize gr w10 g = w11 at *
  replace hg := hg.trans hgn
  replace hx := Gn.block hgn hx
  replace hp := isSl.gn hp hgn
  replace hy := Gn.block hgn hy
  replace hn := isSl.gn hn hgn
  replace hq := isSl.gn hq hgn
  replace hbr := Gn.block hgn hbr
  replace hbk := isSl.gn hbk hgn
  clear hgn
  clear d1 d2 d3 z0
  rw [dv3 p y] at hs
  conv => arg 5; simp only [fill, v13, Act.put, List.setIfInBounds_toArray, List.set_cons_succ, List.set_cons_zero]
  clear v13
  generalize V 38 = v38 at *
  generalize V 40 = v40 at *
  generalize V 35 = v35 at *
  generalize V 41 = v41 at *
  generalize V 12 = v12 at *
  refine tail_store (b := bz) (x := 0) rfl rfl hz ?_
  refine wpList_nil ?_
  rw [set2_zero hz]
  have z0 := obj_cell hz 0 rfl
  have z1 := obj_cell hz 1 rfl
  have z2 := blk_lt hz
  have d1 := box_a hbr
  have d2 := box_b hbr
  have d3 := blk_lt hbr
  have f1 := box_a hy
  have f2 := box_b hy
  have f3 := blk_lt hy
  go_wp2_with fail
  clear d1 d2 d3 f1 f2 f3
  have d1 := box_a hbr
  have d2 := box_b hbr
  have d3 := blk_lt hbr
  have f1 := box_a hy
  have f2 := box_b hy
  have f3 := blk_lt hy

  try simp only [List.append_eq, List.cons_append, List.nil_append]
  refine Fk.wp_region_flow 25 (by kernel_rfl) (by kernel_rfl) ?_
  refine Fk.flow_one rfl (freeB_spec (by kernel_rfl)) ?_
  go_big_quiet_step (fail)
  refine wpQuiet_nil ?_
  refine Fk.flow_one rfl (freeB_spec (by kernel_rfl)) ?_
  go_big_quiet_step (fail)
  refine wpQuiet_nil ?_
  refine Fk.flow_one rfl (freeB_spec (by kernel_rfl)) ?_
  go_big_quiet_step (fail)
  refine wpQuiet_nil ?_
  refine Fk.flow_one rfl (freeB_spec (by kernel_rfl)) ?_
  go_big_quiet_step (fail)
  refine wpQuiet_nil ?_
  refine flow_exS _ rfl (ex_call1 (k_ptrim (by first | omega | exact bpadd _ (by omega) (by omega) | exact bpsub _ (by omega) (by omega) | exact bpmul _ (by omega) | exact bpsca _ (by omega) | exact Nat.le_trans (bpmul 1000 (by omega)) (by omega))) rfl (by kernel_rfl) (want_fill (by kernel_rfl) (by kernel_rfl)) (arg_s0 (by kernel_rfl) rfl hp)) ?_
  refine flow_knS (.bool true) rfl (ex_call2 (k_same (decide_eq_true rfl)) rfl (by kernel_rfl) (want_fill (by kernel_rfl) (by kernel_rfl)) (arg_s0 (by kernel_rfl) rfl hbk) (arg_sv 0 rfl (by kernel_rfl) (by kernel_rfl))) ?_
  conv => arg 8; simp only [Act.put, List.setIfInBounds_toArray, List.set_cons_succ, List.set_cons_zero]
  refine Fk.flow_one rfl (freeB_spec (by kernel_rfl)) ?_
  go_big_quiet_step (fail)
  refine wpQuiet_nil ?_
  refine Fk.flow_one rfl (freeB_spec (by kernel_rfl)) ?_
  go_big_quiet_step (fail)
  refine wpQuiet_nil ?_
  refine Fk.flow_one rfl (freeB_spec (by kernel_rfl)) ?_
  go_big_quiet_step (fail)
  refine wpQuiet_nil ?_
  refine Fk.flow_one rfl (freeB_spec (by kernel_rfl)) ?_
  go_big_quiet_step (fail)
  refine wpQuiet_nil ?_
  refine Fk.flow_one rfl (freeB_spec (by kernel_rfl)) ?_
  go_big_quiet_step (fail)
  refine wpQuiet_nil ?_
  refine flow_knS (.agg #[.int .u64 (Zm.i (Ext.a (r))), .int .u64 (Zm.i (Ext.b (r)))]) rfl (ex_call2 (k_pev (y := r) (by first | omega | exact bpadd _ (by omega) (by omega) | exact bpsub _ (by omega) (by omega) | exact bpmul _ (by omega) | exact bpsca _ (by omega) | exact Nat.le_trans (bpmul 1000 (by omega)) (by omega)) hr.out.symm) rfl (by kernel_rfl) (want_fill (by kernel_rfl) (by kernel_rfl)) (arg_s0 (by kernel_rfl) rfl hp) (arg_v (by kernel_rfl) rfl)) ?_
  conv => arg 8; simp only [Act.put, List.setIfInBounds_toArray, List.set_cons_succ, List.set_cons_zero]
  refine Fk.flow_one rfl (freeB_spec (by kernel_rfl)) ?_
  go_big_quiet_step (fail)
  refine wpQuiet_nil ?_
  refine Fk.flow_one rfl (freeB_spec (by kernel_rfl)) ?_
  go_big_quiet_step (fail)
  refine wpQuiet_nil ?_
  refine Fk.flow_one rfl (freeB_spec (by kernel_rfl)) ?_
  go_big_quiet_step (fail)
  refine wpQuiet_nil ?_
  refine Fk.flow_one rfl (freeB_spec (by kernel_rfl)) ?_
  go_big_quiet_step (fail)
  refine wpQuiet_nil ?_
  refine Fk.flow_one rfl (freeB_spec (by kernel_rfl)) ?_
  go_big_quiet_step (fail)
  refine wpQuiet_nil ?_
  refine Fk.flow_one rfl (freeB_spec (by kernel_rfl)) ?_
  go_big_quiet_step (fail)
  refine wpQuiet_nil ?_
  refine Fk.flow_one rfl (freeB_spec (by kernel_rfl)) ?_
  go_big_quiet_step (fail)
  refine wpQuiet_nil ?_
  refine Fk.flow_one rfl (freeB_spec (by kernel_rfl)) ?_
  go_big_quiet_step (fail)
  refine wpQuiet_nil ?_
  refine Fk.flow_one rfl (freeB_spec (by kernel_rfl)) ?_
  go_big_quiet_step (fail)
  refine wpQuiet_nil ?_
  refine Fk.flow_one rfl (freeB_spec (by kernel_rfl)) ?_
  go_big_quiet_step (fail)
  refine wpQuiet_nil ?_
  refine flow_exS _ rfl (ex_call1 (k_ptrim (by first | omega | exact bpadd _ (by omega) (by omega) | exact bpsub _ (by omega) (by omega) | exact bpmul _ (by omega) | exact bpsca _ (by omega) | exact Nat.le_trans (bpmul 1000 (by omega)) (by omega))) rfl (by kernel_rfl) (want_fill (by kernel_rfl) (by kernel_rfl)) (arg_s0 (by kernel_rfl) rfl hp)) ?_
  refine flow_knS (.bool true) rfl (ex_call2 (k_same (decide_eq_true rfl)) rfl (by kernel_rfl) (want_fill (by kernel_rfl) (by kernel_rfl)) (arg_s0 (by kernel_rfl) rfl hs) (arg_sv 0 rfl (by kernel_rfl) (by kernel_rfl))) ?_
  conv => arg 8; simp only [Act.put, List.setIfInBounds_toArray, List.set_cons_succ, List.set_cons_zero]
  refine Fk.flow_one rfl (freeB_spec (by kernel_rfl)) ?_
  go_big_quiet_step (fail)
  refine wpQuiet_nil ?_
  intro V N' X hΓ hdis g hX
  clear hΓ hdis hX
  have hgn : Gn w11 (gr w11 g) := ⟨g, rfl⟩
  generalize gr w11 g = we at *
  conv => arg 5; simp only [fill, Act.put, List.setIfInBounds_toArray, List.set_cons_succ, List.set_cons_zero]
  go_wp2_with fail
  clear d1 d2 d3 f1 f2 f3
  go_ret
  exact ⟨rfl, hg.trans hgn⟩

set_option linter.unusedVariables false in
set_option maxRecDepth 100000 in
set_option maxHeartbeats 1000000 in
theorem lifted (os : Os) (started : os.Started) (H : Type) (enc : TypeId × Value → H) :
    ReturnsInHanded {} Try.checked os 8 .any (Rows.polyDivisionSpec.pre6 enc Try.prog Try.f8 Rows.polyDivisionRow.domain false) (Rows.polyDivisionSpec.post enc Try.prog Try.f8 false true false false) := by
  refine returnsInHanded_of_change (C := Try.checked) own started (by kernel_rfl) Try.func8
    (ChangeSpec.witness6 (enc := enc) (C := Try.checked) false ⟨#[], #[.slice none 0 0, .agg #[.int .u64 0, .int .u64 0]], []⟩ 8 (by kernel_rfl) (by kernel_rfl) (by kernel_rfl) (by kernel_rfl)) ?_
  intro W base args ds gs before hval0 hW _ _
  have hval : ∀ (j : Nat) t v, Try.f8.params[j]? = some t → args[j]? = some v → Value.okWide Try.prog W .any base t v := hval0
  have hW' : DataW.Whole enc Try.prog Try.f8.params.toList Rows.polyDivisionSpec.vars false W args.toList ds gs before := hW
  obtain ⟨p, q, hA0, hV, rfl, hfz, hnd⟩ := hW
  have hA : DataW.TrodAll enc Try.prog W 0 (fun _ => true) true Try.f8.params.toList args.toList ds p := hA0
  rw [Try.params8] at hA hval
  obtain ⟨v0, vs0, d0, ds0, p0, q0, hargs, rfl, rfl, h0, r0⟩ := trodAll_cons hA
  obtain ⟨v1, vs1, d1, ds1, p1, q1, rfl, rfl, rfl, h1, r1⟩ := trodAll_cons r0
  obtain ⟨rfl, rfl, rfl⟩ := trodAll_nil r1
  obtain rfl : args = #[v0, v1] := by cases args; simp_all
  obtain ⟨rfl, rfl⟩ := trodVars_none hV
  obtain ⟨a0, len0, cap0, rfl⟩ := okWide_slice Try.underlying22 (hval 0 22 v0 rfl rfl)
  obtain ⟨x0, hz0⟩ := openExts h0
  obtain ⟨zs1, hlen1, rfl, hz1⟩ := aggs_open (k := .u64) (ts := [23, 23]) (n := 2) (by kernel_rfl) (by kernel_rfl) (by kernel_rfl) (by kernel_rfl) (hval 1 25 v1 rfl rfl)
  obtain ⟨x1a, x1b, rfl⟩ := list2 zs1 hlen1
  refine (walk W a0 len0 cap0 x0 x1a x1b hz0 ⟨(has_u64 (hz1 x1a (by simp))).1, (has_u64 (hz1 x1a (by simp))).2⟩ ⟨(has_u64 (hz1 x1b (by simp))).1, (has_u64 (hz1 x1b (by simp))).2⟩).mono fun e W' ⟨he, bel⟩ => ?_
  subst he
  exact ⟨_, rfl, law_post laidOut hW' rfl (by kernel_rfl) rfl Try.underlying4 rfl bel⟩

theorem proved : Rows.PolyDivisionSaid :=
  OpenClaim.holds_of_wide 8 Try.f8 rfl rfl rfl rfl rfl rfl rfl ⟨rfl, rfl, rfl, rfl, rfl⟩ rfl rfl rfl rfl rfl (by kernel_rfl) Try.func8 (by kernel_rfl)
    (of_decide_eq_true (by kernel_rfl)) (by unfold Func.isWrapper; first | (rw [if_pos (by decide +kernel)]; kernel_rfl) | (rw [if_neg (by decide +kernel)]; exact ⟨rfl, rfl⟩))
    (fun os started H enc _ => lifted os started H enc)
end Go.Proofs.Ytjchccpicddpoaa.lawPolyDivision
