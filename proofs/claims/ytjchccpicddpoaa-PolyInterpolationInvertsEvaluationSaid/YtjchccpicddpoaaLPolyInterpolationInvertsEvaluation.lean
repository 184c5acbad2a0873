/- PolyInterpolationInvertsEvaluation: for every two rows and every number of 8 bits the law on interpolation and evaluation returns true; no conditions. -/
import Derived.Test.YtjchccpicddpoaaFrm
import Derived.Test.YtjchccpicddpoaaIq
import Derived.Test.YtjchccpicddpoaaOp
namespace Go.Proofs.Ytjchccpicddpoaa.lawPolyInterpolationInvertsEvaluation
open Go.ChangeShapes Go.WideShapes Go.ChangeAt Go.RowKit Att Att.CRing

set_option maxRecDepth 100000 in
set_option maxHeartbeats 4000000 in
theorem walk (w : World) (a0 : Option Addr) (len0 cap0 : Nat) (x0 : List (Int × Int)) (a1 : Option Addr) (len1 cap1 : Nat) (x1 : List (Int × Int)) (x2 : Int) (h_x0 : SlR w a0 len0 cap0 x0) (h_x1 : SlR w a1 len1 cap1 x1) (l_x2 : 0 ≤ x2) (u_x2 : x2 ≤ 255) :
    Calls Try.prog 6 #[.slice a0 len0 cap0, .slice a1 len1 cap1, .int .u8 x2] w fun e w' => e = .returned (.bool true) ∧ Below w.heap.size w w' := by
  obtain ⟨I, hI, -, hT, -, hIl, hIt, hIe⟩ := inter_ex
  replace hIl := Lib.hid hIl
  replace hIt := Lib.hid hIt
  replace hIe := Lib.hid hIe
  refine Calls.mono (R := fun e w' => e = .returned (.bool true) ∧ Gn w w') ?_ (fun e w' h => ⟨h.1, h.2.below⟩)
  go_enter Try.func6, Try.ntmps6
  go_wp2_with fail
  have hg : Gn w w := Gn.refl w
  refine (o_sanity _).mono ?_
  rintro e w1 ⟨rfl, g⟩
  replace hg := hg.trans g
  clear g
  go_wp2_with fail
  skip
  refine (x_madeL a0 len0 cap0 x0 12 _ (h_x0.up hg) (by omega)).mono ?_
  rintro e w2 ⟨v, rfl, o, g⟩
  obtain ⟨Ap, cp, rfl, s⟩ := o.sl
  replace hg := hg.trans g
  clear g
  have hp : isSl ((x0.take 12).map mkP) (.slice Ap ((x0.take 12).map mkP).length cp) w2 := ⟨_, _, _, rfl, s⟩
  have lp : ((x0.take 12).map mkP).length ≤ 12 := by simp; omega
  generalize ((x0.take 12).map mkP) = p at *
  clear o s
  go_wp2_with fail
  skip
  refine (hI (by omega) _ _ hp).mono ?_
  rintro e w3 ⟨v9, rfl, g, hP⟩
  replace g := Gn.of g
  replace hg := hg.trans g
  replace hp := isSl.gn hp g
  clear g
  obtain ⟨AP, nP, cP, rfl, sP⟩ := hP
  have hP : isSl (I p) (.slice AP nP cP) w3 := ⟨_, _, _, rfl, sP⟩
  obtain rfl := sP.len
  clear sP
  have hle := hIl.out p
  go_wp2_with fail
  skip
  have hdec : decide (p.length < (I p).length) = false := decide_eq_false (by omega)
  try rw [hdec]
  clear hdec
  go_loopw [10] (fun v wr => ∃ k : Nat, k ≤ p.length ∧ v = .int .i64 k ∧ Gn w3 wr) (fun v _ => p.length - (intOf v).toNat)
  case atStart => exact ⟨0, by omega, rfl, Gn.refl _⟩
  case round =>
    obtain ⟨k, hk, rfl, g⟩ := hrel
    by_cases h1 : k < p.length
    · have hp' := hp.gn g
      have hP' := hP.gn g
      obtain ⟨b1, o1, z, rfl, hz, q1, q2, q3⟩ := hp'.sl.at_ h1
      have HE : Hid (ev (I p) (int (k : Int)) = z) := Lib.hid ((hIe.out p k (by omega) h1).trans (co_at hz))
      clear hz
      go_wp2_with fail
      try simp only [List.append_eq, List.cons_append, List.nil_append]
      refine Fk.wp_region_flow 20 (by kernel_rfl) (by kernel_rfl) ?_
      refine Fk.flow_one rfl (freeB_spec (by kernel_rfl)) ?_
      go_big_quiet_step (fail)
      refine wpQuiet_nil ?_
      refine Fk.flow_one rfl (freeB_spec (by kernel_rfl)) ?_
      go_big_quiet_step (fail)
      refine wpQuiet_nil ?_
      apply Fk.flow_is
      · exact freeB_spec (by kernel_rfl)
      · intro g K hK
        go_wp2_with fail
        refine (x_fromInt (k : Int) (by omega) (by omega) _).mono ?_
        rintro e w' ⟨rfl, g', rfl⟩
        go_wp2_with fail
        exact hK _ (up_comp g g')
      · rfl
      refine flow_knS (.agg #[.int .u64 (Zm.i (Ext.a (z))), .int .u64 (Zm.i (Ext.b (z)))]) rfl (ex_call2 (k_pev (y := z) (by omega) HE.out) rfl (by kernel_rfl) (want_fill (by kernel_rfl) (by kernel_rfl)) (arg_s0 (by kernel_rfl) rfl hP') (arg_v (by kernel_rfl) rfl)) ?_
      conv => arg 8; simp only [Act.put, List.setIfInBounds_toArray, List.set_cons_succ, List.set_cons_zero]
      refine Fk.flow_one rfl (freeB_spec (by kernel_rfl)) ?_
      go_big_quiet_step (fail)
      refine wpQuiet_nil ?_
      refine Fk.flow_one rfl (freeB_spec (by kernel_rfl)) ?_
      go_big_quiet_step (fail)
      refine wpQuiet_nil ?_
      refine Fk.flow_one rfl (freeB_spec (by kernel_rfl)) ?_
      go_big_quiet_step (fail)
      refine wpQuiet_nil ?_
      refine Fk.flow_one rfl (freeB_spec (by kernel_rfl)) ?_
      go_big_quiet_step (fail)
      refine wpQuiet_nil ?_
      refine Fk.flow_one rfl (freeB_spec (by kernel_rfl)) ?_
      go_big_quiet_step (fail)
      refine wpQuiet_nil ?_
      refine Fk.flow_one rfl (freeB_spec (by kernel_rfl)) ?_
      go_big_quiet_step (fail)
      refine wpQuiet_nil ?_
      refine Fk.flow_one rfl (freeB_spec (by kernel_rfl)) ?_
      go_big_quiet_step (fail)
      refine wpQuiet_nil ?_
      refine Fk.flow_one rfl (freeB_spec (by kernel_rfl)) ?_
      go_big_quiet_step (fail)
      refine wpQuiet_nil ?_
      apply Fk.flow_is
      · exact freeB_spec (by kernel_rfl)
      · intro g K hK
        go_wp2_with fail
        refine (x_fromInt (k : Int) (by omega) (by omega) _).mono ?_
        rintro e w' ⟨rfl, g', rfl⟩
        go_wp2_with fail
        exact hK _ (up_comp g g')
      · rfl
      refine flow_knS (.agg #[.int .u64 (Zm.i (Ext.a (z))), .int .u64 (Zm.i (Ext.b (z)))]) rfl (ex_call2 (hT (y := z) (by omega) HE.out) rfl (by kernel_rfl) (want_fill (by kernel_rfl) (by kernel_rfl)) (arg_s0 (by kernel_rfl) rfl hp') (arg_v (by kernel_rfl) rfl)) ?_
      conv => arg 8; simp only [Act.put, List.setIfInBounds_toArray, List.set_cons_succ, List.set_cons_zero]
      refine Fk.flow_one rfl (freeB_spec (by kernel_rfl)) ?_
      go_big_quiet_step (fail)
      refine wpQuiet_nil ?_
      refine Fk.flow_one rfl (freeB_spec (by kernel_rfl)) ?_
      go_big_quiet_step (fail)
      refine wpQuiet_nil ?_
      refine Fk.flow_one rfl (freeB_spec (by kernel_rfl)) ?_
      go_big_quiet_step (fail)
      refine wpQuiet_nil ?_
      refine Fk.flow_one rfl (freeB_spec (by kernel_rfl)) ?_
      go_big_quiet_step (fail)
      refine wpQuiet_nil ?_
      refine Fk.flow_one rfl (freeB_spec (by kernel_rfl)) ?_
      go_big_quiet_step (fail)
      refine wpQuiet_nil ?_
      refine Fk.flow_one rfl (freeB_spec (by kernel_rfl)) ?_
      go_big_quiet_step (fail)
      refine wpQuiet_nil ?_
      intro V N' X hΓ hdis g2 hX
      clear hΓ hdis hX
      have hgn : Gn wr (gr wr g2) := ⟨g2, rfl⟩
      generalize gr wr g2 = wr2 at *
      conv => arg 5; simp only [fill]
      refine wpList_nil ?_
      clear q1 q2 q3 hp' hP'
      go_wp2_with fail
      exact ⟨⟨k + 1, by omega, by go_num, g.trans hgn⟩, by simp [intOf]; omega⟩
    · skip
      obtain rfl : k = p.length := by omega
      replace hg := hg.trans g
      replace hp := isSl.gn hp g
      replace hP := isSl.gn hP g
      clear g
      go_wp2_with fail
      skip
      refine (x_madeL a1 len1 cap1 x1 8 _ (h_x1.up hg) (by omega)).mono ?_
      rintro e w4 ⟨v, rfl, o, g⟩
      obtain ⟨Aq, cq, rfl, s⟩ := o.sl
      replace hg := hg.trans g
      replace hp := isSl.gn hp g
      clear g
      have hq : isSl ((x1.take 8).map mkP) (.slice Aq ((x1.take 8).map mkP).length cq) w4 := ⟨_, _, _, rfl, s⟩
      have lq : ((x1.take 8).map mkP).length ≤ 8 := by simp; omega
      generalize ((x1.take 8).map mkP) = q at *
      clear o s
      have hu0 := u_x2
      clear hu0
      obtain ⟨m, hm⟩ : ∃ m : Nat, (m : Int) = x2 % 4 := ⟨(x2 % 4).toNat, by omega⟩
      have hm4 : m < 4 := by omega
      have e1 : Int.tmod x2 4 = (m : Int) := by rw [hm]; exact Int.tmod_eq_emod_of_nonneg l_x2
      have e2 : x2 % 4 = (m : Int) := hm.symm
      clear hm
      go_wp2_with fail
      skip
      go_loopw [12, 13] (fun v i wr => ∃ k : Nat, k ≤ q.length + m ∧ i = .int .i64 k ∧ Ow wr w4.heap.size v (vals q k) ∧ Gn w4 wr) (fun _ i _ => q.length + m - (intOf i).toNat)
      case atStart => exact ⟨0, by omega, rfl, Ow.empty _ (Nat.le_refl _), Gn.al _⟩
      case round =>
        obtain ⟨k, hk, rfl, ho, g⟩ := hrel
        have lvk : (vals q k).length = k := tab_length _ _
        by_cases h1 : k < q.length + m
        · have hq' := hq.gn g
          go_wp2_with fail
          refine (x_fromInt (k : Int) (by omega) (by omega) _).mono ?_
          rintro e wa ⟨rfl, ga⟩
          go_wp2_with fail
          have hstep := Lib.hid (show vals q (k + 1) = vals q k ++ [ev q (int (k : Int))] from tab_succ _ _)
          refine (p_eval Aq _ cq q (int (k : Int)) _ (hq'.gn ga).sl (by omega)).mono ?_
          generalize ev q (int (k : Int)) = z at *
          rintro e wb ⟨rfl, gb⟩
          have gA := Gn.trans ga gb
          have ho2 := ho.up gA
          have g2 := g.trans gA
          go_wp2_with (at_builtin; refine wpList_app (.tmp 63) (.tmp 68) rfl (ho2.up (Gn.al _)) (by have := g2.size; simp; omega) rfl ((Blk.one z).sl (by simp)) (by simp; omega) ?_; intro v4 w4 ho4 hg4; have hg5 := grown_gn (g2.trans (Gn.al _)) (ho2.up (Gn.al _)) (Nat.le_refl _) hg4; clear hg4)
          exact ⟨⟨k + 1, by omega, by go_num, by rw [hstep.out]; exact ho4, hg5⟩, by simp [intOf]; omega⟩
        · replace hg := hg.trans g
          replace hq := hq.gn g
          have HI := Lib.hid (iq_inv hIl.out hIt.out hIe.out (q := q) (n := k) (by omega) (by omega))
          obtain ⟨Av, cv, rfl, sv_⟩ := ho.sl
          have hv : isSl (vals q k) (.slice Av (vals q k).length cv) wr := ⟨_, _, _, rfl, sv_⟩
          have lvs : (vals q k).length ≤ 100 := by omega
          generalize vals q k = vs at *
          clear sv_ ho lvk
          skip
          go_wp2_with fail
          skip
          refine (hI (by omega) _ _ hv).mono ?_
          rintro e w5 ⟨v73, rfl, g, ht73⟩
          replace g := Gn.of g
          replace hg := hg.trans g
          replace hq := isSl.gn hq g
          replace hv := isSl.gn hv g
          clear g
          go_wp2_with fail
          skip
          refine (k_ptrim (by first | omega | exact bpadd _ (by omega) (by omega) | exact bpsub _ (by omega) (by omega) | exact bpmul _ (by omega) | exact bpsca _ (by omega) | exact Nat.le_trans (bpmul 1000 (by omega)) (by omega)) _ _ hq).mono ?_
          rintro e w6 ⟨v75, rfl, g, ht75⟩
          replace g := Gn.of g
          replace hg := hg.trans g
          replace hq := isSl.gn hq g
          replace hv := isSl.gn hv g
          replace ht73 := isSl.gn ht73 g
          clear g
          go_wp2_with fail
          skip
          refine (k_same (decide_eq_true HI.out) _ _ _ ht73 ht75).mono ?_
          rintro e w7 ⟨_, rfl, g, rfl⟩
          replace g := Gn.of g
          replace hg := hg.trans g
          replace hq := isSl.gn hq g
          replace hv := isSl.gn hv g
          replace ht73 := isSl.gn ht73 g
          replace ht75 := isSl.gn ht75 g
          clear g
          go_wp2_with fail
          skip
          go_ret
          exact ⟨rfl, hg⟩

set_option linter.unusedVariables false in
set_option maxRecDepth 100000 in
set_option maxHeartbeats 1000000 in
theorem lifted (os : Os) (started : os.Started) (H : Type) (enc : TypeId × Value → H) :
    ReturnsInHanded {} Try.checked os 6 .any (Rows.polyInterpolationInvertsEvaluationSpec.pre6 enc Try.prog Try.f6 Rows.polyInterpolationInvertsEvaluationRow.domain false) (Rows.polyInterpolationInvertsEvaluationSpec.post enc Try.prog Try.f6 false true false false) := by
  refine returnsInHanded_of_change (C := Try.checked) own started (by kernel_rfl) Try.func6
    (ChangeSpec.witness6 (enc := enc) (C := Try.checked) false ⟨#[], #[.slice none 0 0, .slice none 0 0, .int .u8 0], []⟩ 8 (by kernel_rfl) (by kernel_rfl) (by kernel_rfl) (by kernel_rfl)) ?_
  intro W base args ds gs before hval0 hW _ _
  have hval : ∀ (j : Nat) t v, Try.f6.params[j]? = some t → args[j]? = some v → Value.okWide Try.prog W .any base t v := hval0
  have hW' : DataW.Whole enc Try.prog Try.f6.params.toList Rows.polyInterpolationInvertsEvaluationSpec.vars false W args.toList ds gs before := hW
  obtain ⟨p, q, hA0, hV, rfl, hfz, hnd⟩ := hW
  have hA : DataW.TrodAll enc Try.prog W 0 (fun _ => true) true Try.f6.params.toList args.toList ds p := hA0
  rw [Try.params6] at hA hval
  obtain ⟨v0, vs0, d0, ds0, p0, q0, hargs, rfl, rfl, h0, r0⟩ := trodAll_cons hA
  obtain ⟨v1, vs1, d1, ds1, p1, q1, rfl, rfl, rfl, h1, r1⟩ := trodAll_cons r0
  obtain ⟨v2, vs2, d2, ds2, p2, q2, rfl, rfl, rfl, h2, r2⟩ := trodAll_cons r1
  obtain ⟨rfl, rfl, rfl⟩ := trodAll_nil r2
  obtain rfl : args = #[v0, v1, v2] := by cases args; simp_all
  obtain ⟨rfl, rfl⟩ := trodVars_none hV
  obtain ⟨a0, len0, cap0, rfl⟩ := okWide_slice Try.underlying22 (hval 0 22 v0 rfl rfl)
  obtain ⟨x0, hz0⟩ := openExts h0
  obtain ⟨a1, len1, cap1, rfl⟩ := okWide_slice Try.underlying22 (hval 1 22 v1 rfl rfl)
  obtain ⟨x1, hz1⟩ := openExts h1
  obtain ⟨x2, rfl, hz2⟩ := int_open Try.underlying5 (hval 2 5 v2 rfl rfl)
  refine (walk W a0 len0 cap0 x0 a1 len1 cap1 x1 x2 hz0 hz1 (by have := has_u8 hz2; omega) (by have := has_u8 hz2; omega)).mono fun e W' ⟨he, bel⟩ => ?_
  subst he
  exact ⟨_, rfl, law_post laidOut hW' rfl (by kernel_rfl) rfl Try.underlying4 rfl bel⟩

theorem proved : Rows.PolyInterpolationInvertsEvaluationSaid :=
  OpenClaim.holds_of_wide 6 Try.f6 rfl rfl rfl rfl rfl rfl rfl ⟨rfl, rfl, rfl, rfl, rfl⟩ rfl rfl rfl rfl rfl (by kernel_rfl) Try.func6 (by kernel_rfl)
    (of_decide_eq_true (by kernel_rfl)) (by unfold Func.isWrapper; first | (rw [if_pos (by decide +kernel)]; kernel_rfl) | (rw [if_neg (by decide +kernel)]; exact ⟨rfl, rfl⟩))
    (fun os started H enc _ => lifted os started H enc)
end Go.Proofs.Ytjchccpicddpoaa.lawPolyInterpolationInvertsEvaluation
