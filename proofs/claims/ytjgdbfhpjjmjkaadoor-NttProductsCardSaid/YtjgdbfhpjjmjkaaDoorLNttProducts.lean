/- NttProducts: for every two rows of numbers and every point the law on the values and the length of Mul returns true; no conditions. -/
import Derived.Test.YtjgdbfhpjjmjkaaDoorFrd
import Derived.Test.YtjgdbfhpjjmjkaaDoorNz
import Derived.Test.YtjgdbfhpjjmjkaaDoorOpF
namespace Go.Proofs.YtjgdbfhpjjmjkaaDoor.lawNttProducts
open Go.ChangeShapes Go.WideShapes Go.ChangeAt Go.RowKit Att Att.CRing

set_option maxRecDepth 100000 in
set_option maxHeartbeats 4000000 in
theorem walk (w : World) (a0 : Option Addr) (len0 cap0 : Nat) (x0 : List Int) (a1 : Option Addr) (len1 cap1 : Nat) (x1 : List Int) (x2 : Int) (hT : Tab w) (h_x0 : SW w a0 len0 cap0 x0) (h_x1 : SW w a1 len1 cap1 x1) (h_x2 : In64 x2) :
    Calls Tryd.prog 9 #[.slice a0 len0 cap0, .slice a1 len1 cap1, .int .u64 x2] w fun e w' => e = .returned (.bool true) ∧ Below w.heap.size w w' := by
  skip
  refine Calls.mono (R := fun e w' => e = .returned (.bool true) ∧ Gn w w') ?_ (fun e w' h => ⟨h.1, h.2.below⟩)
  go_enter Tryd.func9, Tryd.ntmps9
  go_wp2_with fail
  have hg : Gn w w := Gn.refl w
  refine (o_sanity4 _ hT).mono ?_
  rintro e w1 ⟨rfl, g⟩
  replace hg := hg.trans g
  replace hT := hT.up g
  replace h_x0 := h_x0.up g
  replace h_x1 := h_x1.up g
  clear g
  go_wp2_with fail
  skip
  have e0 := min_nat len0 200
  obtain ⟨m0, hm0⟩ : ∃ m, m = min len0 200 := ⟨_, rfl⟩
  rw [← hm0] at e0
  have ml0 : m0 ≤ len0 := by omega
  have mk0 : m0 ≤ 200 := by omega
  have hs0 := fun w => slice_h (A := a0) (n := len0) (c := cap0) (h := m0) (Nat.le_trans ml0 h_x0.le) w
  have hc0 := h_x0.take ml0
  have L0 := take_redL x0 h_x0.len ml0
  replace e0 := Lib.hid e0
  clear hm0
  have e1 := min_nat len1 200
  obtain ⟨m1, hm1⟩ : ∃ m, m = min len1 200 := ⟨_, rfl⟩
  rw [← hm1] at e1
  have ml1 : m1 ≤ len1 := by omega
  have mk1 : m1 ≤ 200 := by omega
  have hs1 := fun w => slice_h (A := a1) (n := len1) (c := cap1) (h := m1) (Nat.le_trans ml1 h_x1.le) w
  have hc1 := h_x1.take ml1
  have L1 := take_redL x1 h_x1.len ml1
  replace e1 := Lib.hid e1
  clear hm1
  have i0 : isW _ _ w1 := ⟨_, _, _, rfl, h_x0.take ml0⟩
  have i1 : isW _ _ w1 := ⟨_, _, _, rfl, h_x1.take ml1⟩
  obtain ⟨pt, hpt⟩ : ∃ pt : F, int x2 = pt := ⟨_, rfl⟩
  replace hpt := Lib.hid hpt
  try simp only [List.append_eq, List.cons_append, List.nil_append]
  refine Fk.wp_region_flow 14 (by kernel_rfl) (by kernel_rfl) ?_
  refine Fk.flow_one rfl (freeB_spec (by kernel_rfl)) ?_
  go_big_quiet_step (fail)
  refine wpQuiet_nil ?_
  refine Fk.flow_one rfl (freeB_spec (by kernel_rfl)) ?_
  go_big_quiet_step (fail)
  refine wpQuiet_nil ?_
  refine Fk.flow_is (freeB_spec (by kernel_rfl)) (is_len rfl) rfl ?_
  conv => arg 8; simp only [Act.put, List.setIfInBounds_toArray, List.set_cons_succ, List.set_cons_zero]
  refine Fk.flow_is (freeB_spec (by kernel_rfl)) (is_min rfl (e0.out)) rfl ?_
  conv => arg 8; simp only [Act.put, List.setIfInBounds_toArray, List.set_cons_succ, List.set_cons_zero]
  refine Fk.flow_is (freeB_spec (by kernel_rfl)) (is_sliceH hs0 rfl rfl) rfl ?_
  conv => arg 8; simp only [Act.put, List.setIfInBounds_toArray, List.set_cons_succ, List.set_cons_zero]
  refine flow_exS _ rfl (ex_call1 (k_made1 (by rw [hc0.len]; omega)) rfl (by kernel_rfl) (want_fill (by kernel_rfl) (by kernel_rfl)) (arg_w0 (by kernel_rfl) rfl i0)) ?_
  refine Fk.flow_one rfl (freeB_spec (by kernel_rfl)) ?_
  go_big_quiet_step (fail)
  refine wpQuiet_nil ?_
  refine Fk.flow_one rfl (freeB_spec (by kernel_rfl)) ?_
  go_big_quiet_step (fail)
  refine wpQuiet_nil ?_
  refine Fk.flow_is (freeB_spec (by kernel_rfl)) (is_len rfl) rfl ?_
  conv => arg 8; simp only [Act.put, List.setIfInBounds_toArray, List.set_cons_succ, List.set_cons_zero]
  refine Fk.flow_is (freeB_spec (by kernel_rfl)) (is_min rfl (e1.out)) rfl ?_
  conv => arg 8; simp only [Act.put, List.setIfInBounds_toArray, List.set_cons_succ, List.set_cons_zero]
  refine Fk.flow_is (freeB_spec (by kernel_rfl)) (is_sliceH hs1 rfl rfl) rfl ?_
  conv => arg 8; simp only [Act.put, List.setIfInBounds_toArray, List.set_cons_succ, List.set_cons_zero]
  refine flow_exS _ rfl (ex_call1 (k_made1 (by rw [hc1.len]; omega)) rfl (by kernel_rfl) (want_fill (by kernel_rfl) (by kernel_rfl)) (arg_w0 (by kernel_rfl) rfl i1)) ?_
  refine Fk.flow_one rfl (freeB_spec (by kernel_rfl)) ?_
  go_big_quiet_step (fail)
  refine wpQuiet_nil ?_
  refine flow_knS (.int .u64 (Zm.i (pt))) rfl (ex_call1 (k_reduce h_x2 hpt.out) rfl (by kernel_rfl) (want_fill (by kernel_rfl) (by kernel_rfl)) (arg_v (by kernel_rfl) rfl)) ?_
  conv => arg 8; simp only [Act.put, List.setIfInBounds_toArray, List.set_cons_succ, List.set_cons_zero]
  intro V N' X hΓ hdis g hX
  obtain ⟨Aa, ca, va, ha⟩ := end_fv hΓ hX 20 1 rfl
  obtain ⟨Ab, cb, vb, hb⟩ := end_fv hΓ hX 26 0 rfl
  clear hΓ hdis hX
  have hgn : Gn w1 (gr w1 g) := ⟨g, rfl⟩
  generalize gr w1 g = w2 at *
  replace hg := hg.trans hgn
  replace hT := hT.up hgn
  replace h_x0 := h_x0.up hgn
  replace h_x1 := h_x1.up hgn
  clear hgn
  conv => arg 5; simp only [fill, Act.put, List.setIfInBounds_toArray, List.set_cons_succ, List.set_cons_zero, va, vb]
  clear va
  clear vb
  clear i0 i1 hc0 hc1 hs0 hs1 h_x0 h_x1
  replace L0 := Lib.hid L0; replace L1 := Lib.hid L1
  generalize redL (x0.take m0) = a at *
  generalize redL (x1.take m1) = b at *
  obtain ⟨n, hn⟩ : ∃ n, n = a.length := ⟨_, rfl⟩
  obtain ⟨m, hm⟩ : ∃ m, m = b.length := ⟨_, rfl⟩
  have ka : n ≤ 200 := by rw [hn, L0.out]; exact mk0
  have kb : m ≤ 200 := by rw [hm, L1.out]; exact mk1
  rw [← hn] at ha ⊢
  rw [← hm] at hb ⊢
  replace hn := Lib.hid hn; replace hm := Lib.hid hm
  go_wp2_with fail
  skip
  by_cases h0 : n = 0 ∨ m = 0
  · have Ep : mulOf a b = ([], 0) := mulOf_nil (by rw [← hn.out, ← hm.out]; exact h0)
    replace Ep := Lib.hid Ep
    refine (n_mul _ _ _ _ _ _ _ _ _ hT ha hb (by omega) (by omega)).mono ?_
    rintro e w3 hR
    rw [Ep.out] at hR
    obtain ⟨Ahc, chc, rfl, hc, g⟩ := hR.get (n := 0) rfl
    replace hg := hg.trans g
    replace hT := hT.up g
    replace ha := ha.up g
    replace hb := hb.up g
    clear g
    rcases h0 with h0 | h0
    · subst h0
      go_wp2_with fail
      skip
      go_ret
      exact ⟨rfl, hg⟩
    · subst h0
      rcases Nat.eq_zero_or_pos n with h1 | h1
      · subst h1
        go_wp2_with fail
        skip
        go_ret
        exact ⟨rfl, hg⟩
      · have b1 : ((n : Int) == 0) = false := by simp; omega
        go_wp2_with fail
        skip
        go_ret
        exact ⟨rfl, hg⟩
  · have n0 : 0 < n := by omega
    have m0' : 0 < m := by omega
    clear h0
    obtain ⟨c, hc0⟩ : ∃ c, c = mulL a b := ⟨_, rfl⟩
    have Ep : mulOf a b = (c, 0) := by rw [hc0]; exact mulOf_ok (by rw [← hn.out]; omega) (by rw [← hm.out]; omega) (by rw [← hn.out, ← hm.out]; omega)
    have lc : c.length = n + m - 1 := by rw [hc0, mulL_length, ← hn.out, ← hm.out]
    have vc : ev c pt = ev a pt * ev b pt := by rw [hc0, ev_mulL]
    obtain ⟨N, hN⟩ : ∃ N, N = n + m - 1 := ⟨_, rfl⟩
    rw [← hN] at lc
    have hNi : (n : Int) + (m : Int) - 1 = (N : Int) := by omega
    have hN2 : N ≤ 400 := by omega
    have b1 : ((n : Int) == 0) = false := by simp; omega
    have b2 : ((m : Int) == 0) = false := by simp; omega
    replace Ep := Lib.hid Ep; replace lc := Lib.hid lc; replace vc := Lib.hid vc
    clear hc0 hN
    refine (n_mul _ _ _ _ _ _ _ _ _ hT ha hb (by omega) (by omega)).mono ?_
    rintro e w3 hR
    rw [Ep.out] at hR
    obtain ⟨Ahc, chc, rfl, hc, g⟩ := hR.get lc.out
    replace hg := hg.trans g
    replace hT := hT.up g
    replace ha := ha.up g
    replace hb := hb.up g
    clear g
    go_wp2_with fail
    skip
    go_loopw [13] (fun v wr => ∃ i : Nat, i ≤ N ∧ v = .int .i64 i ∧ Gn w3 wr) (fun v _ => N - (intOf v).toNat)
    case atStart => exact ⟨0, by omega, rfl, Gn.refl _⟩
    case round =>
      obtain ⟨i, hi, rfl, hr⟩ := hrel
      replace hg := hg.trans hr; replace ha := ha.up hr; replace hb := hb.up hr; replace hc := hc.up hr
      by_cases h1 : i < N
      · obtain ⟨bc, oc, x, rfl, hx, q1, q2⟩ := hc.at_ h1
        clear hx
        go_wp2_with fail
        skip
        refine (r_validF x _).mono ?_
        rintro e w4 ⟨rfl, rfl⟩
        go_wp2_with fail
        skip
        exact ⟨⟨i + 1, by omega, by go_num, hr⟩, by simp [intOf]; omega⟩
      · obtain rfl : i = N := by omega
        clear hr
        go_wp2_with fail
        skip
        have hE := fun w h => x_eval4 Ahc i chc c pt w h (by omega)
        rw [vc.out] at hE
        generalize hva : ev a pt = va at *
        generalize hvb : ev b pt = vb at *
        have hEa := fun w h => x_eval4 Aa n ca a pt w h (by omega)
        have hEb := fun w h => x_eval4 Ab m cb b pt w h (by omega)
        rw [hva] at hEa
        rw [hvb] at hEb
        clear hva hvb
        refine (hE _ hc).mono ?_
        rintro e w4 ⟨rfl, g⟩
        replace hg := hg.trans g
        replace ha := ha.up g
        replace hb := hb.up g
        replace hc := hc.up g
        clear g
        go_wp2_with fail
        skip
        refine (hEa _ ha).mono ?_
        rintro e w5 ⟨rfl, g⟩
        replace hg := hg.trans g
        replace ha := ha.up g
        replace hb := hb.up g
        replace hc := hc.up g
        clear g
        go_wp2_with fail
        skip
        refine (hEb _ hb).mono ?_
        rintro e w6 ⟨rfl, g⟩
        replace hg := hg.trans g
        replace ha := ha.up g
        replace hb := hb.up g
        replace hc := hc.up g
        clear g
        go_wp2_with fail
        skip
        refine (r_mulF va vb _).mono ?_
        rintro e w7 ⟨rfl, rfl⟩
        go_wp2_with fail
        skip
        go_ret
        exact ⟨rfl, hg⟩

set_option linter.unusedVariables false in
set_option maxRecDepth 100000 in
set_option maxHeartbeats 1000000 in
theorem lifted (os : Os) (started : os.Started) (H : Type) (enc : TypeId × Value → H) :
    ReturnsInHanded {} Tryd.checked os 9 .any (fun w args => (Rows.nttProductsSpec.pre enc Tryd.prog Tryd.f9 [] false w args ∧ laidMetH Tryd.prog laid2 w) ∧ sizedMet enc Tryd.prog Tryd.f9 (OpenSpec.ofChange Rows.nttProductsSpec) false w args)
      (Rows.nttProductsSpec.post enc Tryd.prog Tryd.f9 false true false false) := by
  refine returnsInHanded_of_change_and (C := Tryd.checked) (X := fun w _ => laidMetH Tryd.prog laid2 w) (fun _ _ _ hh h => h.of_heap hh) own started (by kernel_rfl) Tryd.func9
    (ChangeSpec.witness_shaped (enc := enc) (C := Tryd.checked) (os := os) (X := fun w _ => laidMetH Tryd.prog laid2 w) false (World.doorLaid Tryd.prog 400 os) #[.slice none 0 0, .slice none 0 0, .int .u64 0] 8 rfl (World.shaped_of_RefB (by kernel_rfl) (by kernel_rfl)) (by kernel_rfl) (by kernel_rfl) (by kernel_rfl) (door_met os _)) ?_
  intro W base args ds gs before hval0 hW _ _ hL _
  have hval : ∀ (j : Nat) t v, Tryd.f9.params[j]? = some t → args[j]? = some v → Value.okWide Tryd.prog W .any base t v := hval0
  have hW' : DataW.Whole enc Tryd.prog Tryd.f9.params.toList Rows.nttProductsSpec.vars false W args.toList ds gs before := hW
  obtain ⟨p, q, hA0, hV, rfl, hfz, hnd⟩ := hW
  have hA : DataW.TrodAll enc Tryd.prog W 0 (fun _ => true) true Tryd.f9.params.toList args.toList ds p := hA0
  rw [Tryd.params9] at hA hval
  obtain ⟨v0, vs0, d0, ds0, p0, q0, hargs, rfl, rfl, h0, r0⟩ := trodAll_cons hA
  obtain ⟨v1, vs1, d1, ds1, p1, q1, rfl, rfl, rfl, h1, r1⟩ := trodAll_cons r0
  obtain ⟨v2, vs2, d2, ds2, p2, q2, rfl, rfl, rfl, h2, r2⟩ := trodAll_cons r1
  obtain ⟨rfl, rfl, rfl⟩ := trodAll_nil r2
  obtain rfl : args = #[v0, v1, v2] := by cases args; simp_all
  obtain ⟨rfl, rfl⟩ := trodVars_none hV
  obtain ⟨a0, len0, cap0, rfl⟩ := okWide_slice Tryd.underlying22 (hval 0 22 v0 rfl rfl)
  obtain ⟨x0, hz0⟩ := openU64s h0
  obtain ⟨a1, len1, cap1, rfl⟩ := okWide_slice Tryd.underlying22 (hval 1 22 v1 rfl rfl)
  obtain ⟨x1, hz1⟩ := openU64s h1
  obtain ⟨x2, rfl, hz2⟩ := int_open Tryd.underlying34 (hval 2 34 v2 rfl rfl)
  refine (walk W a0 len0 cap0 x0 a1 len1 cap1 x1 x2 (tab_of_laid hL) hz0 hz1 ⟨(has_u64 hz2).1, (has_u64 hz2).2⟩).mono fun e W' ⟨he, bel⟩ => ?_
  subst he
  exact ⟨_, rfl, law_post laidOut hW' rfl (by kernel_rfl) rfl Tryd.underlying4 rfl bel⟩

theorem row_proved : Rows.NttProductsSaid :=
  OpenClaim.holds_of_wide 9 Tryd.f9 rfl rfl rfl rfl rfl rfl rfl ⟨rfl, rfl, rfl, rfl, rfl⟩ rfl rfl rfl rfl rfl (by kernel_rfl) Tryd.func9 (by kernel_rfl)
    (of_decide_eq_true (by kernel_rfl)) (by unfold Func.isWrapper; first | (rw [if_pos (by decide +kernel)]; kernel_rfl) | (rw [if_neg (by decide +kernel)]; exact ⟨rfl, rfl⟩))
    (fun os started H enc _ => lifted os started H enc)

/-- the card: the row's listed variables are tied to the program's text -/
theorem proved : Rows.NttProductsCardSaid :=
  Claim7.holds_tied_plain_at .later [] [.data, .data] true Rows.nttProductsCard.stood.harness false
    row_proved (fun _ h => by cases h) (by kernel_rfl) (fun _ h => by cases h) nttProducts_row_tie rfl ⟨rfl, rfl⟩ (by kernel_rfl) rfl
    (fun f fn hf hfn => by
      obtain rfl : f = 9 := (Option.some.inj ((show Tryd.prog.funcNamed Rows.nttProductsRow.func = some 9 by kernel_rfl).symm.trans hf)).symm
      obtain rfl : fn = Tryd.f9 := (Option.some.inj (Tryd.func9.symm.trans hfn)).symm
      exact ⟨by kernel_rfl, fun j t ht => by
        rw [Tryd.params9] at ht
        have hall : ([22, 22, 34].all fun t => !Tryd.prog.wantsStandIn t) = true := by kernel_rfl
        have hm := List.mem_of_getElem? (show [22, 22, 34][j]? = some t by simpa using ht)
        have := List.all_eq_true.1 hall t hm
        exact (show Tryd.prog.wantsStandIn t = false by simpa using this)⟩)
    (by kernel_rfl)
end Go.Proofs.YtjgdbfhpjjmjkaaDoor.lawNttProducts
