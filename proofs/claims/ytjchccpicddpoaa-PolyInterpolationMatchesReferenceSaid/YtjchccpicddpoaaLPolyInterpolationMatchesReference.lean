/- PolyInterpolationMatchesReference: for every two rows and every pair of numbers of 64 bits the law on Interpolate, At, DivRoot and Roots returns true; no conditions. -/
import Derived.Test.YtjchccpicddpoaaFrm
import Derived.Test.YtjchccpicddpoaaPl
import Derived.Test.YtjchccpicddpoaaOp
namespace Go.Proofs.Ytjchccpicddpoaa.lawPolyInterpolationMatchesReference
open Go.ChangeShapes Go.WideShapes Go.ChangeAt Go.RowKit Att Att.CRing

set_option maxRecDepth 100000 in
set_option maxHeartbeats 4000000 in
theorem walk (w : World) (a0 : Option Addr) (len0 cap0 : Nat) (x0 : List (Int × Int)) (a1 : Option Addr) (len1 cap1 : Nat) (x1 : List (Int × Int)) (x2a : Int) (x2b : Int) (h_x0 : SlR w a0 len0 cap0 x0) (h_x1 : SlR w a1 len1 cap1 x1) (h_x2a : In64 x2a) (h_x2b : In64 x2b) :
    Calls Try.prog 4 #[.slice a0 len0 cap0, .slice a1 len1 cap1, .agg #[.int .u64 x2a, .int .u64 x2b]] w fun e w' => e = .returned (.bool true) ∧ Below w.heap.size w w' := by
  obtain ⟨I, hI, hJ, hT, hU, -, -, -⟩ := inter_ex
  refine Calls.mono (R := fun e w' => e = .returned (.bool true) ∧ Gn w w') ?_ (fun e w' h => ⟨h.1, h.2.below⟩)
  go_enter Try.func4, Try.ntmps4
  go_wp2_with fail
  have hx := hnew w (.cells #[.int .u64 x2a, .int .u64 x2b] 25)
  have hg : Gn w (w.alloc (.cells #[.int .u64 x2a, .int .u64 x2b] 25)) := Gn.al _
  generalize w.alloc (.cells #[.int .u64 x2a, .int .u64 x2b] 25) = w0 at *
  generalize w.heap.size = bx at *
  refine (o_sanity _).mono ?_
  rintro e w1 ⟨rfl, g⟩
  replace hg := hg.trans g
  replace hx := Gn.block g hx
  clear g
  go_wp2_with fail
  skip
  refine (x_madeL a0 len0 cap0 x0 10 _ (h_x0.up hg) (by omega)).mono ?_
  rintro e w2 ⟨v, rfl, o, g⟩
  obtain ⟨Ap, cp, rfl, s⟩ := o.sl
  replace hg := hg.trans g
  replace hx := Gn.block g hx
  clear g
  have hp : isSl ((x0.take 10).map mkP) (.slice Ap ((x0.take 10).map mkP).length cp) w2 := ⟨_, _, _, rfl, s⟩
  have lp : ((x0.take 10).map mkP).length ≤ 10 := by simp; omega
  generalize ((x0.take 10).map mkP) = p at *
  clear o s
  have q0 := obj_cell hx 0 rfl
  have q1 := obj_cell hx 1 rfl
  have ql := blk_lt hx
  go_wp2_with fail
  clear q0 q1 ql
  refine (x_mk x2a x2b _).mono ?_
  rintro e w3 ⟨rfl, g⟩
  replace hg := hg.trans g
  replace hx := Gn.block g hx
  replace hp := isSl.gn hp g
  clear g
  generalize mk x2a x2b = y at *
  go_wp2_with fail
  skip
  have hy := hnew w3 (.cells #[.int .u64 (Zm.i (Ext.a y)), .int .u64 (Zm.i (Ext.b y))] 25)
  replace hg := hg.trans (Gn.al (w := w3) (.cells #[.int .u64 (Zm.i (Ext.a y)), .int .u64 (Zm.i (Ext.b y))] 25))
  replace hx := Gn.block (Gn.al (w := w3) (.cells #[.int .u64 (Zm.i (Ext.a y)), .int .u64 (Zm.i (Ext.b y))] 25)) hx
  replace hp := isSl.gn hp (Gn.al (w := w3) (.cells #[.int .u64 (Zm.i (Ext.a y)), .int .u64 (Zm.i (Ext.b y))] 25))
  skip
  generalize w3.alloc (.cells #[.int .u64 (Zm.i (Ext.a y)), .int .u64 (Zm.i (Ext.b y))] 25) = w4 at *
  generalize w3.heap.size = bhy at *
  refine (x_madeL a1 len1 cap1 x1 10 _ (h_x1.up hg) (by omega)).mono ?_
  rintro e w5 ⟨v, rfl, o, g⟩
  obtain ⟨Ar, cr, rfl, s⟩ := o.sl
  replace hg := hg.trans g
  replace hx := Gn.block g hx
  replace hp := isSl.gn hp g
  replace hy := Gn.block g hy
  clear g
  have hr : isSl ((x1.take 10).map mkP) (.slice Ar ((x1.take 10).map mkP).length cr) w5 := ⟨_, _, _, rfl, s⟩
  have lr : ((x1.take 10).map mkP).length ≤ 10 := by simp; omega
  generalize ((x1.take 10).map mkP) = r at *
  clear o s
  obtain ⟨z, hz⟩ : ∃ z, z = ev p y := ⟨_, rfl⟩
  replace hz := Lib.hid hz
  obtain ⟨zs, hzs⟩ : ∃ zs, zs = rts p r r.length := ⟨_, rfl⟩
  have lz := rts_le p r r.length
  rw [← hzs] at lz
  replace hzs := Lib.hid hzs
  have d1 := box_a hy
  have d2 := box_b hy
  have d3 := blk_lt hy
  go_wp2_with fail
  clear d1 d2 d3
  refine (p_divRoot Ap _ cp p y _ hp.sl (by omega)).mono ?_
  rw [← hz.out]
  rintro e w6 ⟨Aq, nq, cq, rfl, s, g⟩
  replace hg := hg.trans g
  replace hx := Gn.block g hx
  replace hp := isSl.gn hp g
  replace hy := Gn.block g hy
  replace hr := isSl.gn hr g
  clear g
  have hq : isSl (trim (dq p y)) (.slice Aq nq cq) w6 := ⟨_, _, _, rfl, s⟩
  clear s
  have d1 := box_a hy
  have d2 := box_b hy
  have d3 := blk_lt hy
  go_wp2_with fail
  clear d1 d2 d3
  have hb1 := hnew w6 (.cells #[.int .u64 (Zm.i (Ext.a z)), .int .u64 (Zm.i (Ext.b z))] 25)
  replace hg := hg.trans (Gn.al (w := w6) (.cells #[.int .u64 (Zm.i (Ext.a z)), .int .u64 (Zm.i (Ext.b z))] 25))
  replace hx := Gn.block (Gn.al (w := w6) (.cells #[.int .u64 (Zm.i (Ext.a z)), .int .u64 (Zm.i (Ext.b z))] 25)) hx
  replace hp := isSl.gn hp (Gn.al (w := w6) (.cells #[.int .u64 (Zm.i (Ext.a z)), .int .u64 (Zm.i (Ext.b z))] 25))
  replace hy := Gn.block (Gn.al (w := w6) (.cells #[.int .u64 (Zm.i (Ext.a z)), .int .u64 (Zm.i (Ext.b z))] 25)) hy
  replace hr := isSl.gn hr (Gn.al (w := w6) (.cells #[.int .u64 (Zm.i (Ext.a z)), .int .u64 (Zm.i (Ext.b z))] 25))
  replace hq := isSl.gn hq (Gn.al (w := w6) (.cells #[.int .u64 (Zm.i (Ext.a z)), .int .u64 (Zm.i (Ext.b z))] 25))
  skip
  generalize w6.alloc (.cells #[.int .u64 (Zm.i (Ext.a z)), .int .u64 (Zm.i (Ext.b z))] 25) = w7 at *
  generalize w6.heap.size = bhb1 at *
  refine (x_divRoot Ap _ cp p y _ hp.sl (by omega)).mono ?_
  rw [← hz.out]
  rintro e w8 ⟨As, ns, cs, rfl, s, g⟩
  replace hg := hg.trans g
  replace hx := Gn.block g hx
  replace hp := isSl.gn hp g
  replace hy := Gn.block g hy
  replace hr := isSl.gn hr g
  replace hq := isSl.gn hq g
  replace hb1 := Gn.block g hb1
  clear g
  have hs : isSl (trim (dq p y)) (.slice As ns cs) w8 := ⟨_, _, _, rfl, s⟩
  clear s
  have d1 := box_a hy
  have d2 := box_b hy
  have d3 := blk_lt hy
  go_wp2_with fail
  clear d1 d2 d3
  have hb2 := hnew w8 (.cells #[.int .u64 (Zm.i (Ext.a z)), .int .u64 (Zm.i (Ext.b z))] 25)
  replace hg := hg.trans (Gn.al (w := w8) (.cells #[.int .u64 (Zm.i (Ext.a z)), .int .u64 (Zm.i (Ext.b z))] 25))
  replace hx := Gn.block (Gn.al (w := w8) (.cells #[.int .u64 (Zm.i (Ext.a z)), .int .u64 (Zm.i (Ext.b z))] 25)) hx
  replace hp := isSl.gn hp (Gn.al (w := w8) (.cells #[.int .u64 (Zm.i (Ext.a z)), .int .u64 (Zm.i (Ext.b z))] 25))
  replace hy := Gn.block (Gn.al (w := w8) (.cells #[.int .u64 (Zm.i (Ext.a z)), .int .u64 (Zm.i (Ext.b z))] 25)) hy
  replace hr := isSl.gn hr (Gn.al (w := w8) (.cells #[.int .u64 (Zm.i (Ext.a z)), .int .u64 (Zm.i (Ext.b z))] 25))
  replace hq := isSl.gn hq (Gn.al (w := w8) (.cells #[.int .u64 (Zm.i (Ext.a z)), .int .u64 (Zm.i (Ext.b z))] 25))
  replace hb1 := Gn.block (Gn.al (w := w8) (.cells #[.int .u64 (Zm.i (Ext.a z)), .int .u64 (Zm.i (Ext.b z))] 25)) hb1
  replace hs := isSl.gn hs (Gn.al (w := w8) (.cells #[.int .u64 (Zm.i (Ext.a z)), .int .u64 (Zm.i (Ext.b z))] 25))
  skip
  generalize w8.alloc (.cells #[.int .u64 (Zm.i (Ext.a z)), .int .u64 (Zm.i (Ext.b z))] 25) = w9 at *
  generalize w8.heap.size = bhb2 at *
  have hc := p_roots Ap _ cp p Ar _ cr r w9 hp.sl hr.sl (by omega) (by omega)
  rw [← hzs.out] at hc
  refine hc.mono ?_
  clear hc
  rintro e w10 ⟨Aa, ca, rfl, s, g⟩
  replace hg := hg.trans g
  replace hx := Gn.block g hx
  replace hp := isSl.gn hp g
  replace hy := Gn.block g hy
  replace hr := isSl.gn hr g
  replace hq := isSl.gn hq g
  replace hb1 := Gn.block g hb1
  replace hs := isSl.gn hs g
  replace hb2 := Gn.block g hb2
  clear g
  have hsa := s
  clear s
  go_wp2_with fail
  skip
  have hc := x_roots Ap _ cp p Ar _ cr r w10 hp.sl hr.sl (by omega) (by omega)
  rw [← hzs.out] at hc
  refine hc.mono ?_
  clear hc
  rintro e w11 ⟨Ab, cb, rfl, s, g⟩
  replace hg := hg.trans g
  replace hx := Gn.block g hx
  replace hp := isSl.gn hp g
  replace hy := Gn.block g hy
  replace hr := isSl.gn hr g
  replace hq := isSl.gn hq g
  replace hb1 := Gn.block g hb1
  replace hs := isSl.gn hs g
  replace hb2 := Gn.block g hb2
  replace hsa := SlI.up hsa g
  clear g
  have hsb := s
  clear s
  go_wp2_with fail
  skip
  go_loopw [17] (fun v wr => ∃ k : Nat, k ≤ zs.length ∧ v = .int .i64 k ∧ Gn w11 wr) (fun v _ => zs.length - (intOf v).toNat)
  case atStart => exact ⟨0, by omega, rfl, Gn.refl _⟩
  case round =>
    obtain ⟨k, hk, rfl, g⟩ := hrel
    by_cases h1 : k < zs.length
    · obtain ⟨b1, o1, z1, rfl, hz1, q1, q2, q3, q4⟩ := (hsa.up g).at_ h1
      obtain ⟨b2, o2, z2, rfl, hz2, r1, r2, r3, r4⟩ := (hsb.up g).at_ h1
      obtain rfl : z1 = z2 := Option.some.inj (hz1.symm.trans hz2)
      clear hz1 hz2
      go_wp2_with fail
      refine wp_region_gr (by kernel_rfl) (lex_of_chk (by kernel_rfl) (by kernel_rfl)) ?_
      repeat (go_big_quiet_step (fail))
      refine wpQuiet_nil ?_
      intro wr2 g2
      go_wp2_with fail
      exact ⟨⟨k + 1, by omega, by go_num, g.trans g2⟩, by simp [intOf]; omega⟩
    · skip
      obtain rfl : k = zs.length := by omega
      replace hg := hg.trans g
      replace hx := Gn.block g hx
      replace hp := isSl.gn hp g
      replace hy := Gn.block g hy
      replace hr := isSl.gn hr g
      replace hq := isSl.gn hq g
      replace hb1 := Gn.block g hb1
      replace hs := isSl.gn hs g
      replace hb2 := Gn.block g hb2
      replace hsa := SlI.up hsa g
      replace hsb := SlI.up hsb g
      clear g
      have d1 := box_a hy
      have d2 := box_b hy
      have d3 := blk_lt hy
      have f1 := box_a hb1
      have f2 := box_b hb1
      have f3 := blk_lt hb1
      have k1 := box_a hb2
      have k2 := box_b hb2
      have k3 := blk_lt hb2
      go_wp2_with fail
      clear d1 d2 d3 f1 f2 f3 k1 k2 k3
      have d1 := box_a hy
      have d2 := box_b hy
      have d3 := blk_lt hy
      have f1 := box_a hb1
      have f2 := box_b hb1
      have f3 := blk_lt hb1
      have k1 := box_a hb2
      have k2 := box_b hb2
      have k3 := blk_lt hb2

      try simp only [List.append_eq, List.cons_append, List.nil_append]
      refine Fk.wp_region_flow 27 (by kernel_rfl) (by kernel_rfl) ?_
      refine Fk.flow_one rfl (freeB_spec (by kernel_rfl)) ?_
      go_big_quiet_step (fail)
      refine wpQuiet_nil ?_
      refine Fk.flow_one rfl (freeB_spec (by kernel_rfl)) ?_
      go_big_quiet_step (fail)
      refine wpQuiet_nil ?_
      refine Fk.flow_one rfl (freeB_spec (by kernel_rfl)) ?_
      go_big_quiet_step (fail)
      refine wpQuiet_nil ?_
      refine flow_exS _ rfl (ex_call1 (hI (by omega)) rfl (by kernel_rfl) (want_fill (by kernel_rfl) (by kernel_rfl)) (arg_s0 (by kernel_rfl) rfl hp)) ?_
      refine Fk.flow_one rfl (freeB_spec (by kernel_rfl)) ?_
      go_big_quiet_step (fail)
      refine wpQuiet_nil ?_
      refine flow_exS _ rfl (ex_call1 (hJ (by omega)) rfl (by kernel_rfl) (want_fill (by kernel_rfl) (by kernel_rfl)) (arg_s0 (by kernel_rfl) rfl hp)) ?_
      refine flow_knS (.bool true) rfl (ex_call2 (k_same (decide_eq_true rfl)) rfl (by kernel_rfl) (want_fill (by kernel_rfl) (by kernel_rfl)) (arg_sv 1 rfl (by kernel_rfl) (by kernel_rfl)) (arg_sv 0 rfl (by kernel_rfl) (by kernel_rfl))) ?_
      conv => arg 8; simp only [Act.put, List.setIfInBounds_toArray, List.set_cons_succ, List.set_cons_zero]
      refine Fk.flow_one rfl (freeB_spec (by kernel_rfl)) ?_
      go_big_quiet_step (fail)
      refine wpQuiet_nil ?_
      refine Fk.flow_one rfl (freeB_spec (by kernel_rfl)) ?_
      go_big_quiet_step (fail)
      refine wpQuiet_nil ?_
      refine Fk.flow_one rfl (freeB_spec (by kernel_rfl)) ?_
      go_big_quiet_step (fail)
      refine wpQuiet_nil ?_
      refine Fk.flow_one rfl (freeB_spec (by kernel_rfl)) ?_
      go_big_quiet_step (fail)
      refine wpQuiet_nil ?_
      refine flow_knS (.agg #[.int .u64 (Zm.i (Ext.a (ev (I p) y))), .int .u64 (Zm.i (Ext.b (ev (I p) y)))]) rfl (ex_call2 (hT (by omega) rfl) rfl (by kernel_rfl) (want_fill (by kernel_rfl) (by kernel_rfl)) (arg_s0 (by kernel_rfl) rfl hp) (arg_v (by kernel_rfl) rfl)) ?_
      conv => arg 8; simp only [Act.put, List.setIfInBounds_toArray, List.set_cons_succ, List.set_cons_zero]
      refine Fk.flow_one rfl (freeB_spec (by kernel_rfl)) ?_
      go_big_quiet_step (fail)
      refine wpQuiet_nil ?_
      refine Fk.flow_one rfl (freeB_spec (by kernel_rfl)) ?_
      go_big_quiet_step (fail)
      refine wpQuiet_nil ?_
      refine flow_knS (.agg #[.int .u64 (Zm.i (Ext.a (ev (I p) y))), .int .u64 (Zm.i (Ext.b (ev (I p) y)))]) rfl (ex_call2 (hU (by omega) rfl) rfl (by kernel_rfl) (want_fill (by kernel_rfl) (by kernel_rfl)) (arg_s0 (by kernel_rfl) rfl hp) (arg_v (by kernel_rfl) rfl)) ?_
      conv => arg 8; simp only [Act.put, List.setIfInBounds_toArray, List.set_cons_succ, List.set_cons_zero]
      refine Fk.flow_one rfl (freeB_spec (by kernel_rfl)) ?_
      go_big_quiet_step (fail)
      refine wpQuiet_nil ?_
      refine Fk.flow_one rfl (freeB_spec (by kernel_rfl)) ?_
      go_big_quiet_step (fail)
      refine wpQuiet_nil ?_
      refine Fk.flow_one rfl (freeB_spec (by kernel_rfl)) ?_
      go_big_quiet_step (fail)
      refine wpQuiet_nil ?_
      refine Fk.flow_one rfl (freeB_spec (by kernel_rfl)) ?_
      go_big_quiet_step (fail)
      refine wpQuiet_nil ?_
      refine Fk.flow_one rfl (freeB_spec (by kernel_rfl)) ?_
      go_big_quiet_step (fail)
      refine wpQuiet_nil ?_
      refine flow_knS (.bool true) rfl (ex_call2 (k_same (decide_eq_true rfl)) rfl (by kernel_rfl) (want_fill (by kernel_rfl) (by kernel_rfl)) (arg_s0 (by kernel_rfl) rfl hq) (arg_s0 (by kernel_rfl) rfl hs)) ?_
      conv => arg 8; simp only [Act.put, List.setIfInBounds_toArray, List.set_cons_succ, List.set_cons_zero]
      refine Fk.flow_one rfl (freeB_spec (by kernel_rfl)) ?_
      go_big_quiet_step (fail)
      refine wpQuiet_nil ?_
      refine Fk.flow_one rfl (freeB_spec (by kernel_rfl)) ?_
      go_big_quiet_step (fail)
      refine wpQuiet_nil ?_
      refine Fk.flow_one rfl (freeB_spec (by kernel_rfl)) ?_
      go_big_quiet_step (fail)
      refine wpQuiet_nil ?_
      refine Fk.flow_one rfl (freeB_spec (by kernel_rfl)) ?_
      go_big_quiet_step (fail)
      refine wpQuiet_nil ?_
      refine Fk.flow_one rfl (freeB_spec (by kernel_rfl)) ?_
      go_big_quiet_step (fail)
      refine wpQuiet_nil ?_
      refine Fk.flow_one rfl (freeB_spec (by kernel_rfl)) ?_
      go_big_quiet_step (fail)
      refine wpQuiet_nil ?_
      intro V N' X hΓ hdis g hX
      clear hΓ hdis hX
      have hgn : Gn wr (gr wr g) := ⟨g, rfl⟩
      generalize gr wr g = we at *
      conv => arg 5; simp only [fill, Act.put, List.setIfInBounds_toArray, List.set_cons_succ, List.set_cons_zero]
      go_wp2_with fail
      clear d1 d2 d3 f1 f2 f3 k1 k2 k3
      go_ret
      exact ⟨rfl, hg.trans hgn⟩

set_option linter.unusedVariables false in
set_option maxRecDepth 100000 in
set_option maxHeartbeats 1000000 in
theorem lifted (os : Os) (started : os.Started) (H : Type) (enc : TypeId × Value → H) :
    ReturnsInHanded {} Try.checked os 4 .any (Rows.polyInterpolationMatchesReferenceSpec.pre6 enc Try.prog Try.f4 Rows.polyInterpolationMatchesReferenceRow.domain false) (Rows.polyInterpolationMatchesReferenceSpec.post enc Try.prog Try.f4 false true false false) := by
  refine returnsInHanded_of_change (C := Try.checked) own started (by kernel_rfl) Try.func4
    (ChangeSpec.witness6 (enc := enc) (C := Try.checked) false ⟨#[], #[.slice none 0 0, .slice none 0 0, .agg #[.int .u64 0, .int .u64 0]], []⟩ 8 (by kernel_rfl) (by kernel_rfl) (by kernel_rfl) (by kernel_rfl)) ?_
  intro W base args ds gs before hval0 hW _ _
  have hval : ∀ (j : Nat) t v, Try.f4.params[j]? = some t → args[j]? = some v → Value.okWide Try.prog W .any base t v := hval0
  have hW' : DataW.Whole enc Try.prog Try.f4.params.toList Rows.polyInterpolationMatchesReferenceSpec.vars false W args.toList ds gs before := hW
  obtain ⟨p, q, hA0, hV, rfl, hfz, hnd⟩ := hW
  have hA : DataW.TrodAll enc Try.prog W 0 (fun _ => true) true Try.f4.params.toList args.toList ds p := hA0
  rw [Try.params4] at hA hval
  obtain ⟨v0, vs0, d0, ds0, p0, q0, hargs, rfl, rfl, h0, r0⟩ := trodAll_cons hA
  obtain ⟨v1, vs1, d1, ds1, p1, q1, rfl, rfl, rfl, h1, r1⟩ := trodAll_cons r0
  obtain ⟨v2, vs2, d2, ds2, p2, q2, rfl, rfl, rfl, h2, r2⟩ := trodAll_cons r1
  obtain ⟨rfl, rfl, rfl⟩ := trodAll_nil r2
  obtain rfl : args = #[v0, v1, v2] := by cases args; simp_all
  obtain ⟨rfl, rfl⟩ := trodVars_none hV
  obtain ⟨a0, len0, cap0, rfl⟩ := okWide_slice Try.underlying22 (hval 0 22 v0 rfl rfl)
  obtain ⟨x0, hz0⟩ := openExts h0
  obtain ⟨a1, len1, cap1, rfl⟩ := okWide_slice Try.underlying22 (hval 1 22 v1 rfl rfl)
  obtain ⟨x1, hz1⟩ := openExts h1
  obtain ⟨zs2, hlen2, rfl, hz2⟩ := aggs_open (k := .u64) (ts := [23, 23]) (n := 2) (by kernel_rfl) (by kernel_rfl) (by kernel_rfl) (by kernel_rfl) (hval 2 25 v2 rfl rfl)
  obtain ⟨x2a, x2b, rfl⟩ := list2 zs2 hlen2
  refine (walk W a0 len0 cap0 x0 a1 len1 cap1 x1 x2a x2b hz0 hz1 ⟨(has_u64 (hz2 x2a (by simp))).1, (has_u64 (hz2 x2a (by simp))).2⟩ ⟨(has_u64 (hz2 x2b (by simp))).1, (has_u64 (hz2 x2b (by simp))).2⟩).mono fun e W' ⟨he, bel⟩ => ?_
  subst he
  exact ⟨_, rfl, law_post laidOut hW' rfl (by kernel_rfl) rfl Try.underlying4 rfl bel⟩

theorem proved : Rows.PolyInterpolationMatchesReferenceSaid :=
  OpenClaim.holds_of_wide 4 Try.f4 rfl rfl rfl rfl rfl rfl rfl ⟨rfl, rfl, rfl, rfl, rfl⟩ rfl rfl rfl rfl rfl (by kernel_rfl) Try.func4 (by kernel_rfl)
    (of_decide_eq_true (by kernel_rfl)) (by unfold Func.isWrapper; first | (rw [if_pos (by decide +kernel)]; kernel_rfl) | (rw [if_neg (by decide +kernel)]; exact ⟨rfl, rfl⟩))
    (fun os started H enc _ => lifted os started H enc)
end Go.Proofs.Ytjchccpicddpoaa.lawPolyInterpolationMatchesReference
