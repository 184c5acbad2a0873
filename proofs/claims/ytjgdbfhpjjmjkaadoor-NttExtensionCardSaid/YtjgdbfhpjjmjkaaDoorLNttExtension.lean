/- NttExtension: for every row of numbers and every two numbers of 8 bits the law on the extension and its inverse transform returns true; no conditions. -/
import Derived.Test.YtjgdbfhpjjmjkaaDoorFrd
import Derived.Test.YtjgdbfhpjjmjkaaDoorNz
import Derived.Test.YtjgdbfhpjjmjkaaDoorOpF
namespace Go.Proofs.YtjgdbfhpjjmjkaaDoor.lawNttExtension
open Go.ChangeShapes Go.WideShapes Go.ChangeAt Go.RowKit Att Att.CRing

set_option maxRecDepth 100000 in
set_option maxHeartbeats 4000000 in
theorem walk (w : World) (a0 : Option Addr) (len0 cap0 : Nat) (x0 : List Int) (x1a : Int) (x1b : Int) (hT : Tab w) (h_x0 : SW w a0 len0 cap0 x0) (l_x1a : 0 ≤ x1a) (u_x1a : x1a ≤ 255) (l_x1b : 0 ≤ x1b) (u_x1b : x1b ≤ 255) :
    Calls Tryd.prog 8 #[.slice a0 len0 cap0, .agg #[.int .u8 x1a, .int .u8 x1b]] w fun e w' => e = .returned (.bool true) ∧ Below w.heap.size w w' := by
  have B0 : x0.length ≤ 9223372036854775807 := by rw [h_x0.len]; have := h_x0.le; have := h_x0.small; omega
  obtain ⟨s, hs⟩ : ∃ s : Nat, (s : Int) = x1a % 8 := ⟨(x1a % 8).toNat, Int.toNat_of_nonneg (by omega)⟩
  obtain ⟨m, hm⟩ : ∃ m : Nat, (m : Int) = x1b % 4 := ⟨(x1b % 4).toNat, Int.toNat_of_nonneg (by omega)⟩
  have hs7 : s ≤ 7 := by omega
  have hm3 : m ≤ 3 := by omega
  have hrm : Int.tmod x1b 4 = (m : Int) := by rw [hm]; exact Int.tmod_eq_emod_of_nonneg l_x1b
  have hwm := wrap_pow (k := m) (by omega)
  rw [cast_pow] at hwm
  obtain ⟨M, hM⟩ : ∃ M, M = 2 ^ m := ⟨_, rfl⟩
  have hM2 : (2 : Int) ^ m = (M : Int) := by rw [cast_pow, hM]
  have hM8 : M ≤ 8 := by rw [hM]; exact Nat.le_trans (Nat.pow_le_pow_right (n := 2) (by omega) hm3) (by decide)
  have hM0 : 0 < M := by rw [hM]; exact Nat.pow_pos (by omega)
  rw [← hM] at hwm
  replace hs := Lib.hid hs; replace hm := Lib.hid hm; replace hM := Lib.hid hM
  refine Calls.mono (R := fun e w' => e = .returned (.bool true) ∧ Gn w w') ?_ (fun e w' h => ⟨h.1, h.2.below⟩)
  go_enter Tryd.func8, Tryd.ntmps8
  go_wp2_with fail
  have hg : Gn w w := Gn.refl w
  have hx := hnew w (.cells #[.int .u8 x1a, .int .u8 x1b] 42)
  replace hg := hg.trans (Gn.al (w := w) (.cells #[.int .u8 x1a, .int .u8 x1b] 42))
  replace hT := hT.up (Gn.al (w := w) (.cells #[.int .u8 x1a, .int .u8 x1b] 42))
  replace h_x0 := h_x0.up (Gn.al (w := w) (.cells #[.int .u8 x1a, .int .u8 x1b] 42))
  skip
  generalize w.alloc (.cells #[.int .u8 x1a, .int .u8 x1b] 42) = w0 at *
  generalize w.heap.size = bx at *
  refine (o_sanity4 _ hT).mono ?_
  rintro e w1 ⟨rfl, g⟩
  replace hg := hg.trans g
  replace hT := hT.up g
  replace h_x0 := h_x0.up g
  replace hx := Gn.block g hx
  clear g
  have q0 := obj_cell hx 0 rfl
  have q1 := obj_cell hx 1 rfl
  have ql := blk_lt hx
  go_wp2_with fail
  skip
  have i0 : isW x0 _ w1 := ⟨_, _, _, rfl, h_x0⟩
  try simp only [List.append_eq, List.cons_append, List.nil_append]
  refine Fk.wp_region_flow 10 (by kernel_rfl) (by kernel_rfl) ?_
  refine Fk.flow_one rfl (freeB_spec (by kernel_rfl)) ?_
  go_big_quiet_step (fail)
  refine wpQuiet_nil ?_
  refine Fk.flow_one rfl (freeB_spec (by kernel_rfl)) ?_
  go_big_quiet_step (fail)
  refine wpQuiet_nil ?_
  refine Fk.flow_one rfl (freeB_spec (by kernel_rfl)) ?_
  go_big_quiet_step (fail)
  refine wpQuiet_nil ?_
  refine flow_exS _ rfl (ex_call3 (k_made4 (l := x0) (k := x1a) (most := 7) (s := s) B0 (by omega) (by omega) (by omega) (by have := hs.out; omega)) rfl (by kernel_rfl) (want_fill (by kernel_rfl) (by kernel_rfl)) (arg_w0 (by kernel_rfl) rfl i0) (arg_v (by kernel_rfl) rfl) (arg_c)) ?_
  refine Fk.flow_one rfl (freeB_spec (by kernel_rfl)) ?_
  go_big_quiet_step (fail)
  refine wpQuiet_nil ?_
  refine Fk.flow_one rfl (freeB_spec (by kernel_rfl)) ?_
  go_big_quiet_step (fail)
  refine wpQuiet_nil ?_
  refine Fk.flow_one rfl (freeB_spec (by kernel_rfl)) ?_
  go_big_quiet_step (fail)
  refine wpQuiet_nil ?_
  refine Fk.flow_one rfl (freeB_spec (by kernel_rfl)) ?_
  go_big_quiet_step (fail)
  refine wpQuiet_nil ?_
  refine Fk.flow_one rfl (freeB_spec (by kernel_rfl)) ?_
  go_big_quiet_step (fail)
  refine wpQuiet_nil ?_
  refine flow_exS _ rfl (ex_asF (arg_fv 0 rfl (by kernel_rfl) (by kernel_rfl)) rfl (want_fill (by kernel_rfl) (by kernel_rfl))) ?_
  intro V N' X hΓ hdis g hX
  obtain ⟨Aa, ca, va, ha⟩ := end_fv hΓ hX 6 0 rfl
  clear hΓ hdis hX
  have hgn : Gn w1 (gr w1 g) := ⟨g, rfl⟩
  generalize gr w1 g = w2 at *
  replace hg := hg.trans hgn
  replace hT := hT.up hgn
  replace h_x0 := h_x0.up hgn
  replace hx := Gn.block hgn hx
  clear hgn
  conv => arg 5; simp only [fill, Act.put, List.setIfInBounds_toArray, List.set_cons_succ, List.set_cons_zero, va]
  clear va
  clear h_x0 hx
  clear i0 q0 q1 ql B0
  obtain ⟨a, hae⟩ : ∃ a, a = padF (redL x0) (2 ^ s) := ⟨_, rfl⟩
  have la : a.length = 2 ^ s := by rw [hae, padF_length]
  rw [← hae, la] at ha
  rw [← hae, la]
  clear hae
  have pa : 2 ^ s ≤ 128 := Nat.le_trans (Nat.pow_le_pow_right (n := 2) (by omega) hs7) (by decide)
  have pa0 : 0 < 2 ^ s := Nat.pow_pos (by omega)
  obtain ⟨b, Eb, lb, _, Vb⟩ := fwd_ok la (by omega)
  obtain ⟨c, hce⟩ : ∃ c, c = valP a (root (s + m)) (2 ^ (s + m)) := ⟨_, rfl⟩
  have Ec : extOf a (M : Int) = (c, 0) := by rw [← hM2, hce]; exact extOf_pow la (by omega)
  have lc : c.length = 2 ^ (s + m) := by rw [hce, valP_length]
  have hN : 2 ^ (s + m) = 2 ^ s * M := by rw [Nat.pow_add, hM.out]
  have hd0 := inv_valP (l := a) (k := s + m) (by rw [la]; exact Nat.pow_le_pow_right (by omega) (by omega)) (by omega)
  rw [← hce] at hd0
  obtain ⟨d, hde⟩ : ∃ d, d = padF a (2 ^ (s + m)) := ⟨_, rfl⟩
  rw [← hde] at hd0
  have ld : d.length = 2 ^ (s + m) := by rw [hde, padF_length]
  have hV1 : ∀ i, i < 2 ^ s → ∃ y, b[i]? = some y ∧ c[M * i]? = some y := by
    intro i hi
    refine ⟨_, by rw [Vb]; exact get_valP hi, ?_⟩
    have hMi : M * i < 2 ^ (s + m) := by rw [hN, Nat.mul_comm]; exact Nat.mul_lt_mul_of_pos_right hi hM0
    rw [hce, get_valP hMi]
    have hr := root_ext s m (by omega) i
    rw [← hM.out] at hr
    rw [hr]
  have hV2 : ∀ i, i < 2 ^ s → ∃ x, a[i]? = some x ∧ d[i]? = some x := by
    intro i hi
    have h1 : i < 2 ^ (s + m) := Nat.lt_of_lt_of_le hi (Nat.pow_le_pow_right (by omega) (by omega))
    refine ⟨co a i, ?_, ?_⟩
    · rw [co_get a i (by rw [la]; exact hi), List.getElem?_eq_getElem]
    · rw [hde]; unfold padF tab; rw [List.getElem?_map, List.getElem?_range h1]; rfl
  have hV3 : ∀ i, i < 2 ^ (s + m) → 2 ^ s ≤ i → d[i]? = some 0 := by
    intro i hi h2
    rw [hde]; unfold padF tab; rw [List.getElem?_map, List.getElem?_range hi]
    show some (co a i) = some 0
    rw [co_big a i (by rw [la]; exact h2)]
  clear Vb hce hde
  generalize 2 ^ (s + m) = N at *
  generalize 2 ^ s = n at *
  have hN2 : (M : Int) * (n : Int) = (N : Int) := by rw [hN, Nat.mul_comm, Int.natCast_mul]
  have hN8 : N ≤ 1024 := by rw [hN]; exact Nat.le_trans (Nat.mul_le_mul pa hM8) (by omega)
  have hN0 : 0 < N := by rw [hN]; exact Nat.mul_pos pa0 hM0
  have hNn : n ≤ N := by rw [hN]; exact Nat.le_mul_of_pos_right n hM0
  have hNw : IntKind.i64.wrap (N : Int) = (N : Int) := IntWalk.i64_in _ (by omega)
  replace hV1 := Lib.hid hV1; replace hV2 := Lib.hid hV2; replace hV3 := Lib.hid hV3
  replace Eb := Lib.hid Eb; replace Ec := Lib.hid Ec; have Ed := Lib.hid hd0; replace la := Lib.hid la; replace lb := Lib.hid lb; replace lc := Lib.hid lc; replace ld := Lib.hid ld; replace hN := Lib.hid hN
  clear hd0
  go_wp2_with fail
  skip
  refine (n_forward _ _ _ _ _ hT ha (by omega)).mono ?_
  rintro e w3 hR
  rw [Eb.out] at hR
  obtain ⟨Ahb, chb, rfl, hb, g⟩ := hR.get lb.out
  replace hg := hg.trans g
  replace hT := hT.up g
  replace ha := ha.up g
  clear g
  go_wp2_with fail
  skip
  refine (n_extend _ _ _ _ (M : Int) _ hT ha (by omega) (by omega)).mono ?_
  rintro e w4 hR
  rw [Ec.out] at hR
  obtain ⟨Ahc, chc, rfl, hc, g⟩ := hR.get lc.out
  replace hg := hg.trans g
  replace hT := hT.up g
  replace ha := ha.up g
  replace hb := hb.up g
  clear g
  go_wp2_with fail
  skip
  refine (n_inverse _ _ _ _ _ hT hc (by omega)).mono ?_
  rintro e w5 hR
  rw [Ed.out] at hR
  obtain ⟨Ahd, chd, rfl, hd, g⟩ := hR.get ld.out
  replace hg := hg.trans g
  replace hT := hT.up g
  replace ha := ha.up g
  replace hb := hb.up g
  replace hc := hc.up g
  clear g
  go_wp2_with fail
  skip
  go_loopw [14] (fun v wr => ∃ i : Nat, i ≤ N ∧ v = .int .i64 i ∧ Gn w5 wr) (fun v _ => N - (intOf v).toNat)
  case atStart => exact ⟨0, by omega, rfl, Gn.refl _⟩
  case round =>
    obtain ⟨i, hi, rfl, hr⟩ := hrel
    by_cases h1 : i < N
    · replace ha := ha.up hr; replace hb := hb.up hr; replace hc := hc.up hr; replace hd := hd.up hr
      clear hg hT
      by_cases h2 : i < n
      · obtain ⟨y, hy1, hy2⟩ := hV1.out i h2
        obtain ⟨x, hx1, hx2⟩ := hV2.out i h2
        have hMi : M * i < N := by rw [hN.out, Nat.mul_comm]; exact Nat.mul_lt_mul_of_pos_right h2 hM0
        obtain ⟨Mi, hMe⟩ : ∃ Mi, Mi = M * i := ⟨_, rfl⟩
        rw [← hMe] at hMi hy2
        have hMi2 : (M : Int) * (i : Int) = (Mi : Int) := by rw [hMe, Int.natCast_mul]
        have hMw : IntKind.i64.wrap (Mi : Int) = (Mi : Int) := IntWalk.i64_in _ (by omega)
        clear hMe
        have b1 : decide ((n : Int) ≤ (i : Int)) = false := decide_eq_false (by omega)
        have b2 : decide (n ≤ i) = false := decide_eq_false (by omega)
        obtain ⟨b1, o1, x', E1, h1', p1, q1⟩ := ha.at_ h2
        first | cases E1 | (subst E1)
        try rw [Nat.zero_add] at q1
        obtain rfl := Option.some.inj (h1'.symm.trans hx1)
        obtain ⟨b2, o2, x'', E2, h2', p2, q2⟩ := hd.at_ h1
        first | cases E2 | (subst E2)
        try rw [Nat.zero_add] at q2
        obtain rfl := Option.some.inj (h2'.symm.trans hx2)
        obtain ⟨b3, o3, y', E3, h3', p3, q3⟩ := hb.at_ h2
        first | cases E3 | (subst E3)
        try rw [Nat.zero_add] at q3
        obtain rfl := Option.some.inj (h3'.symm.trans hy1)
        obtain ⟨b4, o4, y'', E4, h4', p4, q4⟩ := hc.at_ hMi
        first | cases E4 | (subst E4)
        try rw [Nat.zero_add] at q4
        obtain rfl := Option.some.inj (h4'.symm.trans hy2)
        clear h1' h2' h3' h4' hx1 hx2 hy1 hy2
        go_wp2_with fail
        try simp only [List.append_eq, List.cons_append, List.nil_append]
        refine wp_region_gr (by kernel_rfl) (lex_of_chk (by kernel_rfl) (by kernel_rfl)) ?_
        repeat (go_big_quiet_step (fail))
        refine wpQuiet_nil ?_
        intro wq gd
        replace hr := hr.trans gd
        clear gd p1 q1 p2 q2 p3 q3 p4 q4
        go_wp2_with fail
        exact ⟨⟨i + 1, by omega, by go_num, hr⟩, by simp [intOf]; omega⟩
      · have hx2 := hV3.out i h1 (by omega)
        have hz0 : Zm.i (0 : F) = 0 := i_zero
        have b1 : decide ((n : Int) ≤ (i : Int)) = true := decide_eq_true (by omega)
        have b2 : decide (n ≤ i) = true := decide_eq_true (by omega)
        have b3 : decide ((i : Int) < (n : Int)) = false := decide_eq_false (by omega)
        have b4 : decide (i < n) = false := decide_eq_false (by omega)
        obtain ⟨b2, o2, x'', E2, h2', p2, q2⟩ := hd.at_ h1
        first | cases E2 | (subst E2)
        try rw [Nat.zero_add] at q2
        obtain rfl := Option.some.inj (h2'.symm.trans hx2)
        rw [hz0] at q2
        clear h2' hx2 hz0
        go_wp2_with fail
        try simp only [List.append_eq, List.cons_append, List.nil_append]
        refine wp_region_gr (by kernel_rfl) (lex_of_chk (by kernel_rfl) (by kernel_rfl)) ?_
        repeat (go_big_quiet_step (fail))
        refine wpQuiet_nil ?_
        intro wq gd
        replace hr := hr.trans gd
        clear gd p2 q2
        go_wp2_with fail
        exact ⟨⟨i + 1, by omega, by go_num, hr⟩, by simp [intOf]; omega⟩
    · obtain rfl : i = N := by omega
      go_wp2_with fail
      go_ret
      exact ⟨rfl, hg.trans hr⟩

set_option linter.unusedVariables false in
set_option maxRecDepth 100000 in
set_option maxHeartbeats 1000000 in
theorem lifted (os : Os) (started : os.Started) (H : Type) (enc : TypeId × Value → H) :
    ReturnsInHanded {} Tryd.checked os 8 .any (fun w args => (Rows.nttExtensionSpec.pre enc Tryd.prog Tryd.f8 [] false w args ∧ laidMetH Tryd.prog laid2 w) ∧ sizedMet enc Tryd.prog Tryd.f8 (OpenSpec.ofChange Rows.nttExtensionSpec) false w args)
      (Rows.nttExtensionSpec.post enc Tryd.prog Tryd.f8 false true false false) := by
  refine returnsInHanded_of_change_and (C := Tryd.checked) (X := fun w _ => laidMetH Tryd.prog laid2 w) (fun _ _ _ hh h => h.of_heap hh) own started (by kernel_rfl) Tryd.func8
    (ChangeSpec.witness_shaped (enc := enc) (C := Tryd.checked) (os := os) (X := fun w _ => laidMetH Tryd.prog laid2 w) false (World.doorLaid Tryd.prog 400 os) #[.slice none 0 0, .agg #[.int .u8 0, .int .u8 0]] 8 rfl (World.shaped_of_RefB (by kernel_rfl) (by kernel_rfl)) (by kernel_rfl) (by kernel_rfl) (by kernel_rfl) (door_met os _)) ?_
  intro W base args ds gs before hval0 hW _ _ hL _
  have hval : ∀ (j : Nat) t v, Tryd.f8.params[j]? = some t → args[j]? = some v → Value.okWide Tryd.prog W .any base t v := hval0
  have hW' : DataW.Whole enc Tryd.prog Tryd.f8.params.toList Rows.nttExtensionSpec.vars false W args.toList ds gs before := hW
  obtain ⟨p, q, hA0, hV, rfl, hfz, hnd⟩ := hW
  have hA : DataW.TrodAll enc Tryd.prog W 0 (fun _ => true) true Tryd.f8.params.toList args.toList ds p := hA0
  rw [Tryd.params8] at hA hval
  obtain ⟨v0, vs0, d0, ds0, p0, q0, hargs, rfl, rfl, h0, r0⟩ := trodAll_cons hA
  obtain ⟨v1, vs1, d1, ds1, p1, q1, rfl, rfl, rfl, h1, r1⟩ := trodAll_cons r0
  obtain ⟨rfl, rfl, rfl⟩ := trodAll_nil r1
  obtain rfl : args = #[v0, v1] := by cases args; simp_all
  obtain ⟨rfl, rfl⟩ := trodVars_none hV
  obtain ⟨a0, len0, cap0, rfl⟩ := okWide_slice Tryd.underlying22 (hval 0 22 v0 rfl rfl)
  obtain ⟨x0, hz0⟩ := openU64s h0
  obtain ⟨zs1, hlen1, rfl, hz1⟩ := aggs_open (k := .u8) (ts := [5, 5]) (n := 2) (by kernel_rfl) (by kernel_rfl) (by kernel_rfl) (by kernel_rfl) (hval 1 42 v1 rfl rfl)
  obtain ⟨x1a, x1b, rfl⟩ := list2 zs1 hlen1
  refine (walk W a0 len0 cap0 x0 x1a x1b (tab_of_laid hL) hz0 (by have := has_u8 (hz1 x1a (by simp)); omega) (by have := has_u8 (hz1 x1a (by simp)); omega) (by have := has_u8 (hz1 x1b (by simp)); omega) (by have := has_u8 (hz1 x1b (by simp)); omega)).mono fun e W' ⟨he, bel⟩ => ?_
  subst he
  exact ⟨_, rfl, law_post laidOut hW' rfl (by kernel_rfl) rfl Tryd.underlying4 rfl bel⟩

theorem row_proved : Rows.NttExtensionSaid :=
  OpenClaim.holds_of_wide 8 Tryd.f8 rfl rfl rfl rfl rfl rfl rfl ⟨rfl, rfl, rfl, rfl, rfl⟩ rfl rfl rfl rfl rfl (by kernel_rfl) Tryd.func8 (by kernel_rfl)
    (of_decide_eq_true (by kernel_rfl)) (by unfold Func.isWrapper; first | (rw [if_pos (by decide +kernel)]; kernel_rfl) | (rw [if_neg (by decide +kernel)]; exact ⟨rfl, rfl⟩))
    (fun os started H enc _ => lifted os started H enc)

/-- the card: the row's listed variables are tied to the program's text -/
theorem proved : Rows.NttExtensionCardSaid :=
  Claim7.holds_tied_plain_at .later [] [.data, .data] true Rows.nttExtensionCard.stood.harness false
    row_proved (fun _ h => by cases h) (by kernel_rfl) (fun _ h => by cases h) nttExtension_row_tie rfl ⟨rfl, rfl⟩ (by kernel_rfl) rfl
    (fun f fn hf hfn => by
      obtain rfl : f = 8 := (Option.some.inj ((show Tryd.prog.funcNamed Rows.nttExtensionRow.func = some 8 by kernel_rfl).symm.trans hf)).symm
      obtain rfl : fn = Tryd.f8 := (Option.some.inj (Tryd.func8.symm.trans hfn)).symm
      exact ⟨by kernel_rfl, fun j t ht => by
        rw [Tryd.params8] at ht
        have hall : ([22, 42].all fun t => !Tryd.prog.wantsStandIn t) = true := by kernel_rfl
        have hm := List.mem_of_getElem? (show [22, 42][j]? = some t by simpa using ht)
        have := List.all_eq_true.1 hall t hm
        exact (show Tryd.prog.wantsStandIn t = false by simpa using this)⟩)
    (by kernel_rfl)
end Go.Proofs.YtjgdbfhpjjmjkaaDoor.lawNttExtension
