/- PolyAtIsInterpolation: for every two rows and every pair of numbers of 64 bits the law on At returns true; no conditions. -/
import Derived.Test.YtjchccpicddpoaaFrm
import Derived.Test.YtjchccpicddpoaaIq
import Derived.Test.YtjchccpicddpoaaTw
import Derived.Test.YtjchccpicddpoaaOp
namespace Go.Proofs.Ytjchccpicddpoaa.lawPolyAtIsInterpolation
open Go.ChangeShapes Go.WideShapes Go.ChangeAt Go.RowKit Att Att.CRing

set_option maxRecDepth 100000 in
set_option maxHeartbeats 4000000 in
theorem walk (w : World) (a0 : Option Addr) (len0 cap0 : Nat) (x0 : List (Int × Int)) (a1 : Option Addr) (len1 cap1 : Nat) (x1 : List (Int × Int)) (x2a : Int) (x2b : Int) (h_x0 : SlR w a0 len0 cap0 x0) (h_x1 : SlR w a1 len1 cap1 x1) (h_x2a : In64 x2a) (h_x2b : In64 x2b) :
    Calls Try.prog 7 #[.slice a0 len0 cap0, .slice a1 len1 cap1, .agg #[.int .u64 x2a, .int .u64 x2b]] w fun e w' => e = .returned (.bool true) ∧ Below w.heap.size w w' := by
  obtain ⟨I, hI, -, hT, -, hIl, hIt, hIe⟩ := inter_ex
  replace hIl := Lib.hid hIl
  replace hIt := Lib.hid hIt
  replace hIe := Lib.hid hIe
  refine Calls.mono (R := fun e w' => e = .returned (.bool true) ∧ Gn w w') ?_ (fun e w' h => ⟨h.1, h.2.below⟩)
  go_enter Try.func7, Try.ntmps7
  go_wp2_with fail
  have hx := hnew w (.cells #[.int .u64 x2a, .int .u64 x2b] 25)
  have hg : Gn w (w.alloc (.cells #[.int .u64 x2a, .int .u64 x2b] 25)) := Gn.al _
  generalize w.alloc (.cells #[.int .u64 x2a, .int .u64 x2b] 25) = w0 at *
  generalize w.heap.size = bx at *
  refine (o_sanity _).mono ?_
  rintro e w1 ⟨rfl, g⟩
  replace hg := hg.trans g
  replace hx := Gn.block g hx
  clear g
  go_wp2_with fail
  skip
  refine (x_exactly a0 len0 cap0 x0 6 _ (h_x0.up hg) (by omega)).mono ?_
  rintro e w2 ⟨v, rfl, o, g⟩
  obtain ⟨Aa, ca, rfl, s⟩ := o.sl
  replace hg := hg.trans g
  replace hx := Gn.block g hx
  clear g
  have ha : isSl ((x0.take 6).map mkP ++ List.replicate (6 - ((x0.take 6).map mkP).length) 0) (.slice Aa ((x0.take 6).map mkP ++ List.replicate (6 - ((x0.take 6).map mkP).length) 0).length ca) w2 := ⟨_, _, _, rfl, s⟩
  have la : ((x0.take 6).map mkP ++ List.replicate (6 - ((x0.take 6).map mkP).length) 0).length = 6 := by simp; omega
  generalize ((x0.take 6).map mkP ++ List.replicate (6 - ((x0.take 6).map mkP).length) 0) = a at *
  clear o s
  have la1 : a.length ≤ 6 := by omega
  have la2 : 6 ≤ a.length := by omega
  replace la := Lib.hid la
  go_wp2_with fail
  skip
  refine (x_exactly a1 len1 cap1 x1 6 _ (h_x1.up hg) (by omega)).mono ?_
  rintro e w3 ⟨v, rfl, o, g⟩
  obtain ⟨Ab, cb, rfl, s⟩ := o.sl
  replace hg := hg.trans g
  replace hx := Gn.block g hx
  replace ha := isSl.gn ha g
  clear g
  have hb : isSl ((x1.take 6).map mkP ++ List.replicate (6 - ((x1.take 6).map mkP).length) 0) (.slice Ab ((x1.take 6).map mkP ++ List.replicate (6 - ((x1.take 6).map mkP).length) 0).length cb) w3 := ⟨_, _, _, rfl, s⟩
  have lb : ((x1.take 6).map mkP ++ List.replicate (6 - ((x1.take 6).map mkP).length) 0).length = 6 := by simp; omega
  generalize ((x1.take 6).map mkP ++ List.replicate (6 - ((x1.take 6).map mkP).length) 0) = b at *
  clear o s
  have lb1 : b.length ≤ 6 := by omega
  have lb2 : 6 ≤ b.length := by omega
  replace lb := Lib.hid lb
  have q0 := obj_cell hx 0 rfl
  have q1 := obj_cell hx 1 rfl
  have ql := blk_lt hx
  go_wp2_with fail
  clear q0 q1 ql
  refine (x_mk x2a x2b _).mono ?_
  rintro e w4 ⟨rfl, g⟩
  replace hg := hg.trans g
  replace hx := Gn.block g hx
  replace ha := isSl.gn ha g
  replace hb := isSl.gn hb g
  clear g
  generalize mk x2a x2b = y at *
  have hy := hnew w4 (.cells #[.int .u64 (Zm.i (Ext.a y)), .int .u64 (Zm.i (Ext.b y))] 25)
  replace ha := ha.gn (Gn.al (w := w4) (.cells #[.int .u64 (Zm.i (Ext.a y)), .int .u64 (Zm.i (Ext.b y))] 25))
  replace hb := hb.gn (Gn.al (w := w4) (.cells #[.int .u64 (Zm.i (Ext.a y)), .int .u64 (Zm.i (Ext.b y))] 25))
  replace hg := hg.trans (Gn.al (w := w4) (.cells #[.int .u64 (Zm.i (Ext.a y)), .int .u64 (Zm.i (Ext.b y))] 25))
  have he1 := (Gn.al (w := (w4.alloc (.cells #[.int .u64 (Zm.i (Ext.a y)), .int .u64 (Zm.i (Ext.b y))] 25)).alloc (.cells #[] 25)) (.cells #[] 25)).block (hnew (w4.alloc (.cells #[.int .u64 (Zm.i (Ext.a y)), .int .u64 (Zm.i (Ext.b y))] 25)) (.cells #[] 25))
  have he2 := hnew ((w4.alloc (.cells #[.int .u64 (Zm.i (Ext.a y)), .int .u64 (Zm.i (Ext.b y))] 25)).alloc (.cells #[] 25)) (.cells #[] 25)
  have gE := (Gn.al (w := (w4.alloc (.cells #[.int .u64 (Zm.i (Ext.a y)), .int .u64 (Zm.i (Ext.b y))] 25))) (.cells #[] 25)).trans (Gn.al (.cells #[] 25))
  simp only [World.size_alloc] at he1 he2
  have T0 : Two (((w4.alloc (.cells #[.int .u64 (Zm.i (Ext.a y)), .int .u64 (Zm.i (Ext.b y))] 25)).alloc (.cells #[] 25)).alloc (.cells #[] 25)) (w4.alloc (.cells #[.int .u64 (Zm.i (Ext.a y)), .int .u64 (Zm.i (Ext.b y))] 25)).heap.size (.slice (some ⟨w4.heap.size + 1, 0, none⟩) 0 0) [] (.slice (some ⟨w4.heap.size + 1 + 1, 0, none⟩) 0 0) [] :=
    ⟨Ow.empty' he1 (by simp), Ow.empty' he2 (by simp), fun k h1 h2 => by simp only [Value.ownBlock, Option.some.injEq] at h1 h2; omega⟩
  have hbs : (w4.alloc (.cells #[.int .u64 (Zm.i (Ext.a y)), .int .u64 (Zm.i (Ext.b y))] 25)).heap.size ≤ (((w4.alloc (.cells #[.int .u64 (Zm.i (Ext.a y)), .int .u64 (Zm.i (Ext.b y))] 25)).alloc (.cells #[] 25)).alloc (.cells #[] 25)).heap.size := gE.size
  clear he1 he2
  go_wp2_with (at_builtin; refine wpList_app2 (.tmp 23) (.tmp 24) rfl T0.b hbs rfl (ha.gn gE).sl (by omega) (by simp; omega) ?_; intro vL wL ho hgr hbb; have T1 := (T0.symm.app ho hgr hbb).symm; have gL : Gn (w4.alloc (.cells #[.int .u64 (Zm.i (Ext.a y)), .int .u64 (Zm.i (Ext.b y))] 25)) wL := grown_gn gE T0.b (Nat.le_refl _) hgr; clear ho hgr hbb)
  rw [List.nil_append] at T1
  clear T0 gE hbs
  generalize (w4.alloc (.cells #[.int .u64 (Zm.i (Ext.a y)), .int .u64 (Zm.i (Ext.b y))] 25)) = w9 at *
  generalize w4.heap.size = bhy at *
  go_loopw [11, 13] (fun v i wr => ∃ k : Nat, k ≤ 6 ∧ i = .int .i64 k ∧ Two wr w9.heap.size v (tab k fun i => co a i + co b i) vL a ∧ Gn w9 wr) (fun _ i _ => 6 - (intOf i).toNat)
  case atStart => exact ⟨0, by omega, rfl, T1, gL⟩
  case round =>
    clear T1 gL
    obtain ⟨k, hk, rfl, T, g⟩ := hrel
    have lk : (tab k fun i => co a i + co b i).length = k := tab_length _ _
    by_cases h1 : k < 6
    · obtain ⟨b1, o1, x1, rfl, hz1, q1, q2, q3⟩ := (ha.gn g).sl.at_ (j := k) (by omega)
      obtain ⟨b2, o2, x2, rfl, hz2, r1, r2, r3⟩ := (hb.gn g).sl.at_ (j := k) (by omega)
      have hs1 := Lib.hid (show (tab k fun i => co a i + co b i) ++ [x1 + x2] = tab (k + 1) fun i => co a i + co b i by rw [tab_succ, co_at hz1, co_at hz2])
      clear hz1 hz2
      go_wp2_with fail
      try rw [show decide ((k : Int) < 6) = true from decide_eq_true (by omega)]
      try simp only [List.append_eq, List.cons_append, List.nil_append]
      refine Fk.wp_region_flow 11 (by kernel_rfl) (by kernel_rfl) ?_
      refine Fk.flow_one rfl (freeB_spec (by kernel_rfl)) ?_
      go_big_quiet_step (fail)
      refine wpQuiet_nil ?_
      refine Fk.flow_one rfl (freeB_spec (by kernel_rfl)) ?_
      go_big_quiet_step (fail)
      refine wpQuiet_nil ?_
      refine Fk.flow_one rfl (freeB_spec (by kernel_rfl)) ?_
      go_big_quiet_step (fail)
      refine wpQuiet_nil ?_
      refine Fk.flow_one rfl (freeB_spec (by kernel_rfl)) ?_
      go_big_quiet_step (fail)
      refine wpQuiet_nil ?_
      refine Fk.flow_one rfl (freeB_spec (by kernel_rfl)) ?_
      go_big_quiet_step (fail)
      refine wpQuiet_nil ?_
      refine Fk.flow_one rfl (freeB_spec (by kernel_rfl)) ?_
      go_big_quiet_step (fail)
      refine wpQuiet_nil ?_
      refine Fk.flow_one rfl (freeB_spec (by kernel_rfl)) ?_
      go_big_quiet_step (fail)
      refine wpQuiet_nil ?_
      refine Fk.flow_one rfl (freeB_spec (by kernel_rfl)) ?_
      go_big_quiet_step (fail)
      refine wpQuiet_nil ?_
      refine Fk.flow_one rfl (freeB_spec (by kernel_rfl)) ?_
      go_big_quiet_step (fail)
      refine wpQuiet_nil ?_
      apply Fk.flow_is
      · exact freeB_spec (by kernel_rfl)
      · intro g K hK
        go_wp2_with fail
        refine (x_add x1 x2 _).mono ?_
        rintro e w' ⟨rfl, g', rfl⟩
        go_wp2_with fail
        exact hK _ (up_comp g g')
      · rfl
      refine flow_exS _ rfl (ex_one' (arg_v (by kernel_rfl) rfl) rfl (want_fill (by kernel_rfl) (by kernel_rfl))) ?_
      intro V N' X hΓ hdis g2 hX
      have h40 : isSl [x1 + x2] (V 40) (gr wr g2) := isSl.up (hΓ ⟨40, sv _⟩ (.head _)).1 (hX _ (.head _))
      clear hΓ hdis hX
      have hgn : Gn wr (gr wr g2) := ⟨g2, rfl⟩
      have T2 := T.up hgn
      have g3 := g.trans hgn
      generalize gr wr g2 = wr2 at *
      conv => arg 5; simp only [fill, Act.put, List.setIfInBounds_toArray, List.set_cons_succ, List.set_cons_zero]
      generalize V 40 = v40 at *
      obtain ⟨A4, n4, c4, rfl, s4⟩ := h40
      obtain rfl := s4.len
      refine wpList_app2 (.tmp 30) (.tmp 40) rfl T2.a g3.size rfl s4 (by simp) (by simp; omega) ?_
      intro v5 w5 ho5 hg5 hb5
      have T5 := T2.app ho5 hg5 hb5
      have g5 := grown_gn g3 T2.a (Nat.le_refl _) hg5
      clear ho5 hg5 hb5 q1 q2 q3 r1 r2 r3
      rw [hs1.out] at T5
      conv => arg 5; simp only [Act.put, List.setIfInBounds_toArray, List.set_cons_succ, List.set_cons_zero]
      go_wp2_with fail
      exact ⟨⟨k + 1, by omega, by go_num, T5, g5⟩, by simp [intOf]; omega⟩
    · go_wp2_with fail
      try rw [show decide ((k : Int) < 6) = false from decide_eq_false (by omega)]
      have gS := g
      have TS : Two wr w9.heap.size u11 (tab k fun i => co a i + co b i) vL a := T
      clear T g
      go_loopw [12, 14] (fun v i wr => ∃ j : Nat, 6 ≤ j ∧ j ≤ 10 ∧ i = .int .i64 j ∧ Two wr w9.heap.size u11 (tab k fun i => co a i + co b i) v (a ++ tab (j - 6) fun i => ev (I a) (nde (6 + i))) ∧ Gn w9 wr) (fun _ i _ => 10 - (intOf i).toNat)
      case atStart => exact ⟨6, by omega, by omega, rfl, by simpa [tab] using TS, gS⟩
      case round =>
        clear TS gS
        obtain ⟨j, hj, hj2, rfl, T, g⟩ := hrel
        by_cases h2 : j < 10
        · have ha' := ha.gn g
          have hs2 := Lib.hid (show (a ++ tab (j - 6) fun i => ev (I a) (nde (6 + i))) ++ [ev (I a) (int (j : Int))] = a ++ tab (j + 1 - 6) fun i => ev (I a) (nde (6 + i)) by
            rw [List.append_assoc, show j + 1 - 6 = (j - 6) + 1 from by omega, tab_succ, show 6 + (j - 6) = j from by omega]; rfl)
          have ll : (a ++ tab (j - 6) fun i => ev (I a) (nde (6 + i))).length ≤ 100 := by rw [List.length_append, tab_length]; omega
          generalize (a ++ tab (j - 6) fun i => ev (I a) (nde (6 + i))) = LL at *
          go_wp2_with fail
          refine (x_fromInt (j : Int) (by omega) (by omega) _).mono ?_
          rintro e wa ⟨rfl, ga⟩
          go_wp2_with fail
          refine (hT (y := ev (I a) (int (j : Int))) (by omega) rfl _ _ _ (ha'.gn ga) rfl).mono ?_
          generalize ev (I a) (int (j : Int)) = z at *
          rintro e wb ⟨_, rfl, gb, rfl⟩
          have gA := Gn.trans ga (Gn.of gb)
          have T2 := T.up gA
          have g2 := g.trans gA
          clear ga gb gA
          go_wp2_with (at_builtin; refine wpList_app2 (.tmp 46) (.tmp 51) rfl (T2.up (Gn.al _)).b (by have := g2.size; simp; omega) rfl ((Blk.one z).sl (by simp)) (by simp) (by simp; omega) ?_; intro v4 w4 ho4 hg4 hb4; have T5 := ((T2.up (Gn.al _)).symm.app ho4 hg4 hb4).symm; have hg5 := grown_gn (g2.trans (Gn.al _)) (T2.up (Gn.al _)).b (Nat.le_refl _) hg4; clear hg4 ho4 hb4)
          exact ⟨⟨j + 1, by omega, by omega, by go_num, by rw [← hs2.out]; exact T5, hg5⟩, by simp [intOf]; omega⟩
        · have hj10 : j = 10 := by omega
          have hk6 : k = 6 := by omega
          have HS := Lib.hid (show ev (I (tab k fun i => co a i + co b i)) y = ev (I a) y + ev (I b) y by rw [hk6]; exact iq_sum hIl.out hIt.out hIe.out la.out lb.out y)
          have HL2 := Lib.hid (show ev (I (a ++ tab (j - 6) fun i => ev (I a) (nde (6 + i)))) y = ev (I a) y by rw [hj10]; exact congrArg (fun l => ev l y) (iq_long hIl.out hIt.out hIe.out la.out))
          clear hj10 hk6
          obtain ⟨As, cs, rfl, ss⟩ := T.a.sl
          obtain ⟨Al, cl, rfl, sl_⟩ := T.b.sl
          have hs : isSl (tab k fun i => co a i + co b i) (.slice As _ cs) wr := ⟨_, _, _, rfl, ss⟩
          have hl : isSl (a ++ tab (j - 6) fun i => ev (I a) (nde (6 + i))) (.slice Al _ cl) wr := ⟨_, _, _, rfl, sl_⟩
          have ls : (tab k fun i => co a i + co b i).length ≤ 100 := by omega
          have ll : (a ++ tab (j - 6) fun i => ev (I a) (nde (6 + i))).length ≤ 100 := by rw [List.length_append, tab_length]; omega
          clear lk
          generalize (tab k fun i => co a i + co b i) = lS at *
          generalize (a ++ tab (j - 6) fun i => ev (I a) (nde (6 + i))) = lL at *
          clear T ss sl_
          replace ha := ha.gn g
          replace hb := hb.gn g
          replace hy := g.block hy
          replace hg := hg.trans g
          clear g
          have d1 := box_a hy
          have d2 := box_b hy
          have d3 := blk_lt hy
          go_wp2_with fail
          clear d1 d2 d3
          have d1 := box_a hy
          have d2 := box_b hy
          have d3 := blk_lt hy
          try rw [show decide ((j : Int) < 10) = false from decide_eq_false (by omega)]
          obtain ⟨u, hu⟩ : ∃ u, u = ev (I a) y := ⟨_, rfl⟩
          obtain ⟨v, hv⟩ : ∃ v, v = ev (I b) y := ⟨_, rfl⟩
          replace hu := Lib.hid hu
          replace hv := Lib.hid hv

          try simp only [List.append_eq, List.cons_append, List.nil_append]
          refine Fk.wp_region_flow 33 (by kernel_rfl) (by kernel_rfl) ?_
          refine Fk.flow_one rfl (freeB_spec (by kernel_rfl)) ?_
          go_big_quiet_step (fail)
          refine wpQuiet_nil ?_
          refine Fk.flow_one rfl (freeB_spec (by kernel_rfl)) ?_
          go_big_quiet_step (fail)
          refine wpQuiet_nil ?_
          refine Fk.flow_one rfl (freeB_spec (by kernel_rfl)) ?_
          go_big_quiet_step (fail)
          refine wpQuiet_nil ?_
          refine Fk.flow_one rfl (freeB_spec (by kernel_rfl)) ?_
          go_big_quiet_step (fail)
          refine wpQuiet_nil ?_
          refine flow_knS (.agg #[.int .u64 (Zm.i (Ext.a (u))), .int .u64 (Zm.i (Ext.b (u)))]) rfl (ex_call2 (hT (y := u) (by omega) (hu.out.symm)) rfl (by kernel_rfl) (want_fill (by kernel_rfl) (by kernel_rfl)) (arg_s0 (by kernel_rfl) rfl ha) (arg_v (by kernel_rfl) rfl)) ?_
          conv => arg 8; simp only [Act.put, List.setIfInBounds_toArray, List.set_cons_succ, List.set_cons_zero]
          refine Fk.flow_one rfl (freeB_spec (by kernel_rfl)) ?_
          go_big_quiet_step (fail)
          refine wpQuiet_nil ?_
          refine flow_exS _ rfl (ex_call1 (hI (by omega)) rfl (by kernel_rfl) (want_fill (by kernel_rfl) (by kernel_rfl)) (arg_s0 (by kernel_rfl) rfl ha)) ?_
          refine Fk.flow_one rfl (freeB_spec (by kernel_rfl)) ?_
          go_big_quiet_step (fail)
          refine wpQuiet_nil ?_
          refine flow_knS (.agg #[.int .u64 (Zm.i (Ext.a (u))), .int .u64 (Zm.i (Ext.b (u)))]) rfl (ex_call2 (k_pev (y := u) (Nat.le_trans (hIl.out a) (by omega)) hu.out.symm) rfl (by kernel_rfl) (want_fill (by kernel_rfl) (by kernel_rfl)) (arg_sv 0 rfl (by kernel_rfl) (by kernel_rfl)) (arg_v (by kernel_rfl) rfl)) ?_
          conv => arg 8; simp only [Act.put, List.setIfInBounds_toArray, List.set_cons_succ, List.set_cons_zero]
          refine Fk.flow_one rfl (freeB_spec (by kernel_rfl)) ?_
          go_big_quiet_step (fail)
          refine wpQuiet_nil ?_
          refine Fk.flow_one rfl (freeB_spec (by kernel_rfl)) ?_
          go_big_quiet_step (fail)
          refine wpQuiet_nil ?_
          refine Fk.flow_one rfl (freeB_spec (by kernel_rfl)) ?_
          go_big_quiet_step (fail)
          refine wpQuiet_nil ?_
          refine Fk.flow_one rfl (freeB_spec (by kernel_rfl)) ?_
          go_big_quiet_step (fail)
          refine wpQuiet_nil ?_
          refine Fk.flow_one rfl (freeB_spec (by kernel_rfl)) ?_
          go_big_quiet_step (fail)
          refine wpQuiet_nil ?_
          refine flow_knS (.agg #[.int .u64 (Zm.i (Ext.a (u + v))), .int .u64 (Zm.i (Ext.b (u + v)))]) rfl (ex_call2 (hT (y := u + v) (by omega) (by rw [hu.out, hv.out]; exact HS.out)) rfl (by kernel_rfl) (want_fill (by kernel_rfl) (by kernel_rfl)) (arg_s0 (by kernel_rfl) rfl hs) (arg_v (by kernel_rfl) rfl)) ?_
          conv => arg 8; simp only [Act.put, List.setIfInBounds_toArray, List.set_cons_succ, List.set_cons_zero]
          refine Fk.flow_one rfl (freeB_spec (by kernel_rfl)) ?_
          go_big_quiet_step (fail)
          refine wpQuiet_nil ?_
          refine Fk.flow_one rfl (freeB_spec (by kernel_rfl)) ?_
          go_big_quiet_step (fail)
          refine wpQuiet_nil ?_
          refine flow_knS (.agg #[.int .u64 (Zm.i (Ext.a (u))), .int .u64 (Zm.i (Ext.b (u)))]) rfl (ex_call2 (hT (y := u) (by omega) (hu.out.symm)) rfl (by kernel_rfl) (want_fill (by kernel_rfl) (by kernel_rfl)) (arg_s0 (by kernel_rfl) rfl ha) (arg_v (by kernel_rfl) rfl)) ?_
          conv => arg 8; simp only [Act.put, List.setIfInBounds_toArray, List.set_cons_succ, List.set_cons_zero]
          refine Fk.flow_one rfl (freeB_spec (by kernel_rfl)) ?_
          go_big_quiet_step (fail)
          refine wpQuiet_nil ?_
          refine Fk.flow_one rfl (freeB_spec (by kernel_rfl)) ?_
          go_big_quiet_step (fail)
          refine wpQuiet_nil ?_
          refine flow_knS (.agg #[.int .u64 (Zm.i (Ext.a (v))), .int .u64 (Zm.i (Ext.b (v)))]) rfl (ex_call2 (hT (y := v) (by omega) (hv.out.symm)) rfl (by kernel_rfl) (want_fill (by kernel_rfl) (by kernel_rfl)) (arg_s0 (by kernel_rfl) rfl hb) (arg_v (by kernel_rfl) rfl)) ?_
          conv => arg 8; simp only [Act.put, List.setIfInBounds_toArray, List.set_cons_succ, List.set_cons_zero]
          apply Fk.flow_is
          · exact freeB_spec (by kernel_rfl)
          · intro g K hK
            go_wp2_with fail
            refine (x_add u v _).mono ?_
            rintro e w' ⟨rfl, g', rfl⟩
            go_wp2_with fail
            exact hK _ (up_comp g g')
          · rfl
          refine Fk.flow_one rfl (freeB_spec (by kernel_rfl)) ?_
          go_big_quiet_step (fail)
          refine wpQuiet_nil ?_
          refine Fk.flow_one rfl (freeB_spec (by kernel_rfl)) ?_
          go_big_quiet_step (fail)
          refine wpQuiet_nil ?_
          refine Fk.flow_one rfl (freeB_spec (by kernel_rfl)) ?_
          go_big_quiet_step (fail)
          refine wpQuiet_nil ?_
          refine Fk.flow_one rfl (freeB_spec (by kernel_rfl)) ?_
          go_big_quiet_step (fail)
          refine wpQuiet_nil ?_
          refine Fk.flow_one rfl (freeB_spec (by kernel_rfl)) ?_
          go_big_quiet_step (fail)
          refine wpQuiet_nil ?_
          refine flow_knS (.agg #[.int .u64 (Zm.i (Ext.a (u))), .int .u64 (Zm.i (Ext.b (u)))]) rfl (ex_call2 (hT (y := u) (by omega) (HL2.out.trans hu.out.symm)) rfl (by kernel_rfl) (want_fill (by kernel_rfl) (by kernel_rfl)) (arg_s0 (by kernel_rfl) rfl hl) (arg_v (by kernel_rfl) rfl)) ?_
          conv => arg 8; simp only [Act.put, List.setIfInBounds_toArray, List.set_cons_succ, List.set_cons_zero]
          refine Fk.flow_one rfl (freeB_spec (by kernel_rfl)) ?_
          go_big_quiet_step (fail)
          refine wpQuiet_nil ?_
          refine Fk.flow_one rfl (freeB_spec (by kernel_rfl)) ?_
          go_big_quiet_step (fail)
          refine wpQuiet_nil ?_
          refine flow_knS (.agg #[.int .u64 (Zm.i (Ext.a (u))), .int .u64 (Zm.i (Ext.b (u)))]) rfl (ex_call2 (hT (y := u) (by omega) (hu.out.symm)) rfl (by kernel_rfl) (want_fill (by kernel_rfl) (by kernel_rfl)) (arg_s0 (by kernel_rfl) rfl ha) (arg_v (by kernel_rfl) rfl)) ?_
          conv => arg 8; simp only [Act.put, List.setIfInBounds_toArray, List.set_cons_succ, List.set_cons_zero]
          refine Fk.flow_one rfl (freeB_spec (by kernel_rfl)) ?_
          go_big_quiet_step (fail)
          refine wpQuiet_nil ?_
          refine Fk.flow_one rfl (freeB_spec (by kernel_rfl)) ?_
          go_big_quiet_step (fail)
          refine wpQuiet_nil ?_
          intro V N' X hΓ hdis g hX
          clear hΓ hdis hX
          have hgn : Gn wr (gr wr g) := ⟨g, rfl⟩
          generalize gr wr g = we at *
          conv => arg 5; simp only [fill, Act.put, List.setIfInBounds_toArray, List.set_cons_succ, List.set_cons_zero]
          go_wp2_with fail
          clear d1 d2 d3
          go_ret
          exact ⟨rfl, hg.trans hgn⟩

set_option linter.unusedVariables false in
set_option maxRecDepth 100000 in
set_option maxHeartbeats 1000000 in
theorem lifted (os : Os) (started : os.Started) (H : Type) (enc : TypeId × Value → H) :
    ReturnsInHanded {} Try.checked os 7 .any (Rows.polyAtIsInterpolationSpec.pre6 enc Try.prog Try.f7 Rows.polyAtIsInterpolationRow.domain false) (Rows.polyAtIsInterpolationSpec.post enc Try.prog Try.f7 false true false false) := by
  refine returnsInHanded_of_change (C := Try.checked) own started (by kernel_rfl) Try.func7
    (ChangeSpec.witness6 (enc := enc) (C := Try.checked) false ⟨#[], #[.slice none 0 0, .slice none 0 0, .agg #[.int .u64 0, .int .u64 0]], []⟩ 8 (by kernel_rfl) (by kernel_rfl) (by kernel_rfl) (by kernel_rfl)) ?_
  intro W base args ds gs before hval0 hW _ _
  have hval : ∀ (j : Nat) t v, Try.f7.params[j]? = some t → args[j]? = some v → Value.okWide Try.prog W .any base t v := hval0
  have hW' : DataW.Whole enc Try.prog Try.f7.params.toList Rows.polyAtIsInterpolationSpec.vars false W args.toList ds gs before := hW
  obtain ⟨p, q, hA0, hV, rfl, hfz, hnd⟩ := hW
  have hA : DataW.TrodAll enc Try.prog W 0 (fun _ => true) true Try.f7.params.toList args.toList ds p := hA0
  rw [Try.params7] at hA hval
  obtain ⟨v0, vs0, d0, ds0, p0, q0, hargs, rfl, rfl, h0, r0⟩ := trodAll_cons hA
  obtain ⟨v1, vs1, d1, ds1, p1, q1, rfl, rfl, rfl, h1, r1⟩ := trodAll_cons r0
  obtain ⟨v2, vs2, d2, ds2, p2, q2, rfl, rfl, rfl, h2, r2⟩ := trodAll_cons r1
  obtain ⟨rfl, rfl, rfl⟩ := trodAll_nil r2
  obtain rfl : args = #[v0, v1, v2] := by cases args; simp_all
  obtain ⟨rfl, rfl⟩ := trodVars_none hV
  obtain ⟨a0, len0, cap0, rfl⟩ := okWide_slice Try.underlying22 (hval 0 22 v0 rfl rfl)
  obtain ⟨x0, hz0⟩ := openExts h0
  obtain ⟨a1, len1, cap1, rfl⟩ := okWide_slice Try.underlying22 (hval 1 22 v1 rfl rfl)
  obtain ⟨x1, hz1⟩ := openExts h1
  obtain ⟨zs2, hlen2, rfl, hz2⟩ := aggs_open (k := .u64) (ts := [23, 23]) (n := 2) (by kernel_rfl) (by kernel_rfl) (by kernel_rfl) (by kernel_rfl) (hval 2 25 v2 rfl rfl)
  obtain ⟨x2a, x2b, rfl⟩ := list2 zs2 hlen2
  refine (walk W a0 len0 cap0 x0 a1 len1 cap1 x1 x2a x2b hz0 hz1 ⟨(has_u64 (hz2 x2a (by simp))).1, (has_u64 (hz2 x2a (by simp))).2⟩ ⟨(has_u64 (hz2 x2b (by simp))).1, (has_u64 (hz2 x2b (by simp))).2⟩).mono fun e W' ⟨he, bel⟩ => ?_
  subst he
  exact ⟨_, rfl, law_post laidOut hW' rfl (by kernel_rfl) rfl Try.underlying4 rfl bel⟩

theorem proved : Rows.PolyAtIsInterpolationSaid :=
  OpenClaim.holds_of_wide 7 Try.f7 rfl rfl rfl rfl rfl rfl rfl ⟨rfl, rfl, rfl, rfl, rfl⟩ rfl rfl rfl rfl rfl (by kernel_rfl) Try.func7 (by kernel_rfl)
    (of_decide_eq_true (by kernel_rfl)) (by unfold Func.isWrapper; first | (rw [if_pos (by decide +kernel)]; kernel_rfl) | (rw [if_neg (by decide +kernel)]; exact ⟨rfl, rfl⟩))
    (fun os started H enc _ => lifted os started H enc)
end Go.Proofs.Ytjchccpicddpoaa.lawPolyAtIsInterpolation
