/- NttValues: for every row of numbers, every two numbers of 8 bits and every place the law on the values of the transform and of the extension returns true; no conditions. -/
import Derived.Test.YtjgdbfhpjjmjkaaDoorFrd
import Derived.Test.YtjgdbfhpjjmjkaaDoorNz
import Derived.Test.YtjgdbfhpjjmjkaaDoorOpF
namespace Go.Proofs.YtjgdbfhpjjmjkaaDoor.lawNttValues
open Go.ChangeShapes Go.WideShapes Go.ChangeAt Go.RowKit Att Att.CRing

set_option maxRecDepth 100000 in
set_option maxHeartbeats 4000000 in
theorem walk (w : World) (a0 : Option Addr) (len0 cap0 : Nat) (x0 : List Int) (x1a : Int) (x1b : Int) (x2 : Int) (hT : Tab w) (h_x0 : SW w a0 len0 cap0 x0) (l_x1a : 0 ≤ x1a) (u_x1a : x1a ≤ 255) (l_x1b : 0 ≤ x1b) (u_x1b : x1b ≤ 255) (l_x2 : 0 ≤ x2) (u_x2 : x2 ≤ 65535) :
    Calls Tryd.prog 7 #[.slice a0 len0 cap0, .agg #[.int .u8 x1a, .int .u8 x1b], .int .u16 x2] w fun e w' => e = .returned (.bool true) ∧ Below w.heap.size w w' := by
  have B0 : x0.length ≤ 9223372036854775807 := by rw [h_x0.len]; have := h_x0.le; have := h_x0.small; omega
  obtain ⟨s, hs⟩ : ∃ s : Nat, (s : Int) = x1a % 8 := ⟨(x1a % 8).toNat, Int.toNat_of_nonneg (by omega)⟩
  obtain ⟨m, hm⟩ : ∃ m : Nat, (m : Int) = x1b % 4 := ⟨(x1b % 4).toNat, Int.toNat_of_nonneg (by omega)⟩
  have hs7 : s ≤ 7 := by omega
  have hm3 : m ≤ 3 := by omega
  have hrm : Int.tmod x1b 4 = (m : Int) := by rw [hm]; exact Int.tmod_eq_emod_of_nonneg l_x1b
  have hwm := wrap_pow (k := m) (by omega)
  rw [cast_pow] at hwm
  obtain ⟨M, hM⟩ : ∃ M, M = 2 ^ m := ⟨_, rfl⟩
  have hM2 : (2 : Int) ^ m = (M : Int) := by rw [cast_pow, hM]
  have hM8 : M ≤ 8 := by rw [hM]; exact Nat.le_trans (Nat.pow_le_pow_right (n := 2) (by omega) hm3) (by decide)
  have hM0 : 0 < M := by rw [hM]; exact Nat.pow_pos (by omega)
  rw [← hM] at hwm
  replace hs := Lib.hid hs; replace hm := Lib.hid hm; replace hM := Lib.hid hM
  refine Calls.mono (R := fun e w' => e = .returned (.bool true) ∧ Gn w w') ?_ (fun e w' h => ⟨h.1, h.2.below⟩)
  go_enter Tryd.func7, Tryd.ntmps7
  go_wp2_with fail
  have hg : Gn w w := Gn.refl w
  have hx := hnew w (.cells #[.int .u8 x1a, .int .u8 x1b] 42)
  replace hg := hg.trans (Gn.al (w := w) (.cells #[.int .u8 x1a, .int .u8 x1b] 42))
  replace hT := hT.up (Gn.al (w := w) (.cells #[.int .u8 x1a, .int .u8 x1b] 42))
  replace h_x0 := h_x0.up (Gn.al (w := w) (.cells #[.int .u8 x1a, .int .u8 x1b] 42))
  skip
  generalize w.alloc (.cells #[.int .u8 x1a, .int .u8 x1b] 42) = w0 at *
  generalize w.heap.size = bx at *
  refine (o_sanity4 _ hT).mono ?_
  rintro e w1 ⟨rfl, g⟩
  replace hg := hg.trans g
  replace hT := hT.up g
  replace h_x0 := h_x0.up g
  replace hx := Gn.block g hx
  clear g
  have q0 := obj_cell hx 0 rfl
  have q1 := obj_cell hx 1 rfl
  have ql := blk_lt hx
  go_wp2_with fail
  skip
  have i0 : isW x0 _ w1 := ⟨_, _, _, rfl, h_x0⟩
  try simp only [List.append_eq, List.cons_append, List.nil_append]
  refine Fk.wp_region_flow 9 (by kernel_rfl) (by kernel_rfl) ?_
  refine Fk.flow_one rfl (freeB_spec (by kernel_rfl)) ?_
  go_big_quiet_step (fail)
  refine wpQuiet_nil ?_
  refine Fk.flow_one rfl (freeB_spec (by kernel_rfl)) ?_
  go_big_quiet_step (fail)
  refine wpQuiet_nil ?_
  refine Fk.flow_one rfl (freeB_spec (by kernel_rfl)) ?_
  go_big_quiet_step (fail)
  refine wpQuiet_nil ?_
  refine flow_exS _ rfl (ex_call3 (k_made4 (l := x0) (k := x1a) (most := 7) (s := s) B0 (by omega) (by omega) (by omega) (by have := hs.out; omega)) rfl (by kernel_rfl) (want_fill (by kernel_rfl) (by kernel_rfl)) (arg_w0 (by kernel_rfl) rfl i0) (arg_v (by kernel_rfl) rfl) (arg_c)) ?_
  refine Fk.flow_one rfl (freeB_spec (by kernel_rfl)) ?_
  go_big_quiet_step (fail)
  refine wpQuiet_nil ?_
  refine Fk.flow_one rfl (freeB_spec (by kernel_rfl)) ?_
  go_big_quiet_step (fail)
  refine wpQuiet_nil ?_
  refine Fk.flow_one rfl (freeB_spec (by kernel_rfl)) ?_
  go_big_quiet_step (fail)
  refine wpQuiet_nil ?_
  refine Fk.flow_one rfl (freeB_spec (by kernel_rfl)) ?_
  go_big_quiet_step (fail)
  refine wpQuiet_nil ?_
  refine flow_exS _ rfl (ex_asF (arg_fv 0 rfl (by kernel_rfl) (by kernel_rfl)) rfl (want_fill (by kernel_rfl) (by kernel_rfl))) ?_
  intro V N' X hΓ hdis g hX
  obtain ⟨Aa, ca, va, ha⟩ := end_fv hΓ hX 8 0 rfl
  clear hΓ hdis hX
  have hgn : Gn w1 (gr w1 g) := ⟨g, rfl⟩
  generalize gr w1 g = w2 at *
  replace hg := hg.trans hgn
  replace hT := hT.up hgn
  replace h_x0 := h_x0.up hgn
  replace hx := Gn.block hgn hx
  clear hgn
  conv => arg 5; simp only [fill, Act.put, List.setIfInBounds_toArray, List.set_cons_succ, List.set_cons_zero, va]
  clear va
  clear h_x0 hx
  clear i0 q0 q1 ql B0
  obtain ⟨a, hae⟩ : ∃ a, a = padF (redL x0) (2 ^ s) := ⟨_, rfl⟩
  have la : a.length = 2 ^ s := by rw [hae, padF_length]
  rw [← hae, la] at ha
  rw [← hae, la]
  clear hae
  have pa : 2 ^ s ≤ 128 := Nat.le_trans (Nat.pow_le_pow_right (n := 2) (by omega) hs7) (by decide)
  have pa0 : 0 < 2 ^ s := Nat.pow_pos (by omega)
  obtain ⟨b, Eb, lb, _, Vb⟩ := fwd_ok la (by omega)
  obtain ⟨c, hce⟩ : ∃ c, c = valP a (root (s + m)) (2 ^ (s + m)) := ⟨_, rfl⟩
  have Ec : extOf a (M : Int) = (c, 0) := by rw [← hM2, hce]; exact extOf_pow la (by omega)
  have lc : c.length = 2 ^ (s + m) := by rw [hce, valP_length]
  have hN : 2 ^ (s + m) = 2 ^ s * M := by rw [Nat.pow_add, hM.out]
  have hK := x_log_pow s (by omega)
  have hKe := x_log_pow (s + m) (by omega)
  have hR1 := r_rootN s (by omega)
  have hR2 := r_rootN (s + m) (by omega)
  have hVb : ∀ i, i < 2 ^ s → b[i]? = some (ev a (pw (root s) i)) := fun i hi => by rw [Vb]; exact get_valP hi
  have hVc : ∀ i, i < 2 ^ (s + m) → c[i]? = some (ev a (pw (root (s + m)) i)) := fun i hi => by rw [hce]; exact get_valP hi
  clear Vb hce
  generalize root s = u at *
  generalize root (s + m) = v at *
  generalize 2 ^ (s + m) = N at *
  generalize 2 ^ s = n at *
  have hN2 : (n : Int) * (M : Int) = (N : Int) := by rw [hN, Int.natCast_mul]
  have hN8 : N ≤ 1024 := by rw [hN]; exact Nat.le_trans (Nat.mul_le_mul pa hM8) (by omega)
  have hN0 : 0 < N := by rw [hN]; exact Nat.mul_pos pa0 hM0
  have hNw : IntKind.i64.wrap (N : Int) = (N : Int) := IntWalk.i64_in _ (by omega)
  obtain ⟨i, hi⟩ : ∃ i, i = x2.toNat % n := ⟨_, rfl⟩
  obtain ⟨j, hj⟩ : ∃ j, j = x2.toNat % N := ⟨_, rfl⟩
  have hi1 : i < n := by rw [hi]; exact Nat.mod_lt _ pa0
  have hj1 : j < N := by rw [hj]; exact Nat.mod_lt _ hN0
  have hx2n : ((x2.toNat : Nat) : Int) = x2 := Int.toNat_of_nonneg l_x2
  have hi2 : x2 % (n : Int) = (i : Int) := by rw [hi, Int.natCast_emod, hx2n]
  have hj2 : x2 % (N : Int) = (j : Int) := by rw [hj, Int.natCast_emod, hx2n]
  have hi3 : Int.tmod x2 (n : Int) = (i : Int) := by rw [← hi2]; exact Int.tmod_eq_emod_of_nonneg l_x2
  have hj3 : Int.tmod x2 (N : Int) = (j : Int) := by rw [← hj2]; exact Int.tmod_eq_emod_of_nonneg l_x2
  replace hVb := Lib.hid (hVb i hi1); replace hVc := Lib.hid (hVc j hj1)
  replace Eb := Lib.hid Eb; replace Ec := Lib.hid Ec; replace la := Lib.hid la; replace lb := Lib.hid lb; replace lc := Lib.hid lc; replace hN := Lib.hid hN
  have HI2 := Lib.hid hi2; have HI3 := Lib.hid hi3; have HJ2 := Lib.hid hj2; have HJ3 := Lib.hid hj3
  clear hi hj hx2n hi2 hi3 hj2 hj3
  go_wp2_with fail
  skip
  refine (n_forward _ _ _ _ _ hT ha (by omega)).mono ?_
  rintro e w3 hR
  rw [Eb.out] at hR
  obtain ⟨Ahb, chb, rfl, hb, g⟩ := hR.get lb.out
  replace hg := hg.trans g
  replace hT := hT.up g
  replace ha := ha.up g
  clear g
  go_wp2_with fail
  skip
  refine (n_extend _ _ _ _ (M : Int) _ hT ha (by omega) (by omega)).mono ?_
  rintro e w4 hR
  rw [Ec.out] at hR
  obtain ⟨Ahc, chc, rfl, hc, g⟩ := hR.get lc.out
  replace hg := hg.trans g
  replace hT := hT.up g
  replace ha := ha.up g
  replace hb := hb.up g
  clear g
  go_wp2_with fail
  skip
  refine (hK _).mono ?_
  rintro e w5 ⟨rfl, g⟩
  replace hg := hg.trans g
  replace hT := hT.up g
  replace ha := ha.up g
  replace hb := hb.up g
  replace hc := hc.up g
  clear g
  go_wp2_with fail
  skip
  refine (hR1 _).mono ?_
  rintro e w6 ⟨rfl, rfl⟩
  go_wp2_with fail
  skip
  refine (hKe _).mono ?_
  rintro e w7 ⟨rfl, g⟩
  replace hg := hg.trans g
  replace hT := hT.up g
  replace ha := ha.up g
  replace hb := hb.up g
  replace hc := hc.up g
  clear g
  go_wp2_with fail
  skip
  refine (hR2 _).mono ?_
  rintro e w8 ⟨rfl, rfl⟩
  have hi2 := HI2.out; have hi3 := HI3.out; have hj2 := HJ2.out; have hj3 := HJ3.out
  go_wp2_with fail
  skip
  try simp only [List.append_eq, List.cons_append, List.nil_append]
  refine wp_region_gr (by kernel_rfl) (lex_of_chk (by kernel_rfl) (by kernel_rfl)) ?_
  repeat (go_big_quiet_step ((first | (go_at_call 26; with_reducible apply qa (r_mulF _ _ _); rfl))))
  refine wpQuiet_nil ?_
  intro w9 g
  clear hi2 hi3 hj2 hj3
  replace hg := hg.trans g
  replace hT := hT.up g
  replace ha := ha.up g
  replace hb := hb.up g
  replace hc := hc.up g
  clear g
  go_wp2_with fail
  skip
  obtain ⟨z1, hz1⟩ : ∃ z, z = pw u i := ⟨_, rfl⟩
  obtain ⟨z2, hz2⟩ : ∃ z, z = pw v j := ⟨_, rfl⟩
  have hp1 := r_powF u i (by omega)
  have hp2 := r_powF v j (by omega)
  obtain ⟨y1, hy1⟩ : ∃ y, y = ev a z1 := ⟨_, rfl⟩
  obtain ⟨y2, hy2⟩ : ∃ y, y = ev a z2 := ⟨_, rfl⟩
  rw [← hz1] at hp1; rw [← hz2] at hp2
  have hb1 := hVb.out; have hc1 := hVc.out
  rw [← hz1, ← hy1] at hb1; rw [← hz2, ← hy2] at hc1
  have hE1 : ∀ g : Grow w9, Calls Tryd.prog 29 #[.slice (Aa) n ca, .int .u64 (Zm.i (z1))] (gr w9 g) fun e w' => e = .returned (.int .u64 (Zm.i (y1))) ∧ ∃ g', w' = gr (gr w9 g) g' := fun g => by
    have h := x_eval4 _ _ _ a z1 (gr w9 g) (ha.up ⟨g, rfl⟩) (by omega)
    rw [← hy1] at h; exact h
  have hE2 : ∀ g : Grow w9, Calls Tryd.prog 29 #[.slice (Aa) n ca, .int .u64 (Zm.i (z2))] (gr w9 g) fun e w' => e = .returned (.int .u64 (Zm.i (y2))) ∧ ∃ g', w' = gr (gr w9 g) g' := fun g => by
    have h := x_eval4 _ _ _ a z2 (gr w9 g) (ha.up ⟨g, rfl⟩) (by omega)
    rw [← hy2] at h; exact h
  clear hy1 hy2 hz1 hz2 hVb hVc
  obtain ⟨b1, o1, x', E1, h1, p1, q1⟩ := hb.at_ hi1
  first | cases E1 | (subst E1)
  try rw [Nat.zero_add] at q1
  obtain rfl := Option.some.inj (h1.symm.trans hb1)
  obtain ⟨b2, o2, y', E2, h2, p2, q2⟩ := hc.at_ hj1
  first | cases E2 | (subst E2)
  try rw [Nat.zero_add] at q2
  obtain rfl := Option.some.inj (h2.symm.trans hc1)
  clear hb1 hc1 h1 h2
  try simp only [List.append_eq, List.cons_append, List.nil_append]
  refine wp_region_gr (by kernel_rfl) (lex_of_chk (by kernel_rfl) (by kernel_rfl)) ?_
  repeat (go_big_quiet_step ((first | (go_at_call 29; with_reducible apply qg (hE1 _); rfl) | (go_at_call 29; with_reducible apply qg (hE2 _); rfl) | (go_at_call 30; with_reducible apply qa (hp1 _); rfl) | (go_at_call 30; with_reducible apply qa (hp2 _); rfl))))
  refine wpQuiet_nil ?_
  intro w10 g
  replace hg := hg.trans g
  replace hT := hT.up g
  replace ha := ha.up g
  replace hb := hb.up g
  replace hc := hc.up g
  clear g
  clear p1 q1 p2 q2
  go_wp2_with fail
  skip
  go_ret
  exact ⟨rfl, hg⟩

set_option linter.unusedVariables false in
set_option maxRecDepth 100000 in
set_option maxHeartbeats 1000000 in
theorem lifted (os : Os) (started : os.Started) (H : Type) (enc : TypeId × Value → H) :
    ReturnsInHanded {} Tryd.checked os 7 .any (fun w args => (Rows.nttValuesSpec.pre enc Tryd.prog Tryd.f7 [] false w args ∧ laidMetH Tryd.prog laid2 w) ∧ sizedMet enc Tryd.prog Tryd.f7 (OpenSpec.ofChange Rows.nttValuesSpec) false w args)
      (Rows.nttValuesSpec.post enc Tryd.prog Tryd.f7 false true false false) := by
  refine returnsInHanded_of_change_and (C := Tryd.checked) (X := fun w _ => laidMetH Tryd.prog laid2 w) (fun _ _ _ hh h => h.of_heap hh) own started (by kernel_rfl) Tryd.func7
    (ChangeSpec.witness_shaped (enc := enc) (C := Tryd.checked) (os := os) (X := fun w _ => laidMetH Tryd.prog laid2 w) false (World.doorLaid Tryd.prog 400 os) #[.slice none 0 0, .agg #[.int .u8 0, .int .u8 0], .int .u16 0] 8 rfl (World.shaped_of_RefB (by kernel_rfl) (by kernel_rfl)) (by kernel_rfl) (by kernel_rfl) (by kernel_rfl) (door_met os _)) ?_
  intro W base args ds gs before hval0 hW _ _ hL _
  have hval : ∀ (j : Nat) t v, Tryd.f7.params[j]? = some t → args[j]? = some v → Value.okWide Tryd.prog W .any base t v := hval0
  have hW' : DataW.Whole enc Tryd.prog Tryd.f7.params.toList Rows.nttValuesSpec.vars false W args.toList ds gs before := hW
  obtain ⟨p, q, hA0, hV, rfl, hfz, hnd⟩ := hW
  have hA : DataW.TrodAll enc Tryd.prog W 0 (fun _ => true) true Tryd.f7.params.toList args.toList ds p := hA0
  rw [Tryd.params7] at hA hval
  obtain ⟨v0, vs0, d0, ds0, p0, q0, hargs, rfl, rfl, h0, r0⟩ := trodAll_cons hA
  obtain ⟨v1, vs1, d1, ds1, p1, q1, rfl, rfl, rfl, h1, r1⟩ := trodAll_cons r0
  obtain ⟨v2, vs2, d2, ds2, p2, q2, rfl, rfl, rfl, h2, r2⟩ := trodAll_cons r1
  obtain ⟨rfl, rfl, rfl⟩ := trodAll_nil r2
  obtain rfl : args = #[v0, v1, v2] := by cases args; simp_all
  obtain ⟨rfl, rfl⟩ := trodVars_none hV
  obtain ⟨a0, len0, cap0, rfl⟩ := okWide_slice Tryd.underlying22 (hval 0 22 v0 rfl rfl)
  obtain ⟨x0, hz0⟩ := openU64s h0
  obtain ⟨zs1, hlen1, rfl, hz1⟩ := aggs_open (k := .u8) (ts := [5, 5]) (n := 2) (by kernel_rfl) (by kernel_rfl) (by kernel_rfl) (by kernel_rfl) (hval 1 42 v1 rfl rfl)
  obtain ⟨x1a, x1b, rfl⟩ := list2 zs1 hlen1
  obtain ⟨x2, rfl, hz2⟩ := int_open Tryd.underlying43 (hval 2 43 v2 rfl rfl)
  refine (walk W a0 len0 cap0 x0 x1a x1b x2 (tab_of_laid hL) hz0 (by have := has_u8 (hz1 x1a (by simp)); omega) (by have := has_u8 (hz1 x1a (by simp)); omega) (by have := has_u8 (hz1 x1b (by simp)); omega) (by have := has_u8 (hz1 x1b (by simp)); omega) (by have := has_u16 hz2; omega) (by have := has_u16 hz2; omega)).mono fun e W' ⟨he, bel⟩ => ?_
  subst he
  exact ⟨_, rfl, law_post laidOut hW' rfl (by kernel_rfl) rfl Tryd.underlying4 rfl bel⟩

theorem row_proved : Rows.NttValuesSaid :=
  OpenClaim.holds_of_wide 7 Tryd.f7 rfl rfl rfl rfl rfl rfl rfl ⟨rfl, rfl, rfl, rfl, rfl⟩ rfl rfl rfl rfl rfl (by kernel_rfl) Tryd.func7 (by kernel_rfl)
    (of_decide_eq_true (by kernel_rfl)) (by unfold Func.isWrapper; first | (rw [if_pos (by decide +kernel)]; kernel_rfl) | (rw [if_neg (by decide +kernel)]; exact ⟨rfl, rfl⟩))
    (fun os started H enc _ => lifted os started H enc)

/-- the card: the row's listed variables are tied to the program's text -/
theorem proved : Rows.NttValuesCardSaid :=
  Claim7.holds_tied_plain_at .later [] [.data, .data] true Rows.nttValuesCard.stood.harness false
    row_proved (fun _ h => by cases h) (by kernel_rfl) (fun _ h => by cases h) nttValues_row_tie rfl ⟨rfl, rfl⟩ (by kernel_rfl) rfl
    (fun f fn hf hfn => by
      obtain rfl : f = 7 := (Option.some.inj ((show Tryd.prog.funcNamed Rows.nttValuesRow.func = some 7 by kernel_rfl).symm.trans hf)).symm
      obtain rfl : fn = Tryd.f7 := (Option.some.inj (Tryd.func7.symm.trans hfn)).symm
      exact ⟨by kernel_rfl, fun j t ht => by
        rw [Tryd.params7] at ht
        have hall : ([22, 42, 43].all fun t => !Tryd.prog.wantsStandIn t) = true := by kernel_rfl
        have hm := List.mem_of_getElem? (show [22, 42, 43][j]? = some t by simpa using ht)
        have := List.all_eq_true.1 hall t hm
        exact (show Tryd.prog.wantsStandIn t = false by simpa using this)⟩)
    (by kernel_rfl)
end Go.Proofs.YtjgdbfhpjjmjkaaDoor.lawNttValues
