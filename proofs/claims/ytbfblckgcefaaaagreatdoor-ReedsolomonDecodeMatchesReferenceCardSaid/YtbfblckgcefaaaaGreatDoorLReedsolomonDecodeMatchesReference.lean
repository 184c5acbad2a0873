/- ReedsolomonDecodeMatchesReference: for every row of numbers, every errors, every number of 8 bits and every word the law on Decode beside the reference returns true; no conditions. -/
import Derived.Test.YtbfblckgcefaaaaGreatDoorFrd
import Derived.Test.YtbfblckgcefaaaaGreatDoorRz7
import Derived.Test.YtbfblckgcefaaaaGreatDoorOpF
import Derived.Test.YtbfblckgcefaaaaGreatDoorOpE
import Derived.Test.YtbfblckgcefaaaaGreatDoorOp
namespace Go.Proofs.YtbfblckgcefaaaaGreatDoor.lawReedsolomonDecodeMatchesReference
open Go.ChangeShapes Go.WideShapes Go.ChangeAt Go.RowKit Att Att.CRing

set_option maxRecDepth 100000 in
set_option maxHeartbeats 4000000 in
theorem walk (w : World) (a0 : Option Addr) (len0 cap0 : Nat) (x0 : List Int) (a1 : Option Addr) (len1 cap1 : Nat) (x1 : List (Int × Int)) (x2 : Int) (a3 : Option Addr) (len3 cap3 : Nat) (x3 : List Int) (hT : Tab w) (h_x0 : SW w a0 len0 cap0 x0) (h_x1 : SEr w a1 len1 cap1 x1) (l_x2 : 0 ≤ x2) (u_x2 : x2 ≤ 255) (h_x3 : SW w a3 len3 cap3 x3) :
    Calls Tryz.prog 3 #[.slice a0 len0 cap0, .slice a1 len1 cap1, .int .u8 x2, .slice a3 len3 cap3] w fun e w' => e = .returned (.bool true) ∧ Below w.heap.size w w' := by
  obtain ⟨m0, m01, m03, hm, hBl⟩ := y_blowup x2 l_x2 u_x2
  obtain ⟨s, hs⟩ : ∃ s : Nat, (s : Int) = x2 / 16 % 3 := ⟨(x2 / 16 % 3).toNat, Int.toNat_of_nonneg (by omega)⟩
  have hs2 : s ≤ 2 := by omega
  have hst : Int.tmod (x2 / 16) 3 = (s : Int) := by rw [hs]; exact Int.tmod_eq_emod_of_nonneg (by omega)
  replace hm := Lib.hid hm; replace hs := Lib.hid hs
  obtain ⟨m, hmd⟩ : ∃ m, m = min m0 (3 - s) := ⟨_, rfl⟩
  have m1 : 1 ≤ m := by omega
  have m3 : m ≤ 3 := by omega
  have hms : s + m ≤ 3 := by omega
  have ham : s + m ≤ 16 := by omega
  have hx : Dif (pw (root (s + m))) (2 ^ (s + m)) := (root_prim (s + m) (by omega)).dif
  have hmE : 2 ^ s * 2 ^ (3 - s) = 8 := by rw [← Nat.pow_add, show s + (3 - s) = 3 from by omega]
  have hmin := min_pow m0 (3 - s)
  rw [← hmd] at hmin
  have hle : 2 ^ s ≤ 2 ^ (s + m) := Nat.pow_le_pow_right (by omega) (by omega)
  have hN : 2 ^ (s + m) ≤ 128 := Nat.le_trans (Nat.pow_le_pow_right (n := 2) (by omega) (show s + m ≤ 7 by omega)) (by decide)
  have hB8 : 2 ^ m ≤ 8 := Nat.le_trans (Nat.pow_le_pow_right (n := 2) (by omega) m3) (by decide)
  have hK0 : 0 < 2 ^ s := Nat.two_pow_pos s
  have hB0 : 0 < 2 ^ m := Nat.two_pow_pos m
  have hmul := two_mul_pow s m
  have hc2 := cast_pow s
  have hEnc : ∀ p : List F, p.length = 2 ^ s → encOf p ((2 ^ m : Nat) : Int) = (valP p (root (s + m)) (2 ^ (s + m)), 0) := fun p hp => by rw [← cast_pow]; exact encOf_pow hp m1 (by omega) ham
  have hDec := fun A c l w hT hl => s_decode A c l s m w hT m1 (by omega) ham hl
  have hIs := fun A c l w hT hl => s_is A c l s m w hT m1 (by omega) ham hl
  have hMd := s_minDistance (2 ^ s) (2 ^ m) (2 ^ (s + m)) hmul hle (by omega)
  have hDec' := fun A c l w hl => y_decode A c l s m w m1 (by omega) ham hl
  have hMd' := y_minDistance (2 ^ s) (2 ^ m) (2 ^ (s + m)) hmul hle (by omega)
  have hsh := y_shift m m1 (by omega)
  have hMade := fun A n c l w hl => y_made A n c l s w hl (by omega)
  generalize hue : root (s + m) = u at *
  generalize hNe : 2 ^ (s + m) = N at *
  generalize hBe : 2 ^ m = B at *
  generalize hKe : 2 ^ s = K at *
  have hw1 : IntKind.i64.wrap (K : Int) = (K : Int) := IntWalk.i64_in _ (by omega)
  have hw2 : IntKind.i64.wrap (N : Int) = (N : Int) := IntWalk.i64_in _ (by omega)
  have hBs : (B : Int) * (2 : Int) ^ s = (N : Int) := by rw [hc2]; exact hmul
  obtain ⟨lim, hlim⟩ : ∃ lim, lim = (N - K) / 2 := ⟨_, rfl⟩
  have hl1 : 2 * lim ≤ N - K := by omega
  have hl2 : N - K ≤ 2 * lim + 1 := by omega
  have ht2 : Int.tdiv (((N - K + 1 : Nat) : Int) - 1) 2 = (lim : Int) := by rw [Int.tdiv_eq_ediv_of_nonneg (by omega)]; omega
  have ht3 : (((N - K + 1 : Nat) : Int) - 1) / 2 = (lim : Int) := by omega
  have ht5 : ((N - K : Nat) : Int) / 2 = (lim : Int) := by omega
  have ht6 : Int.tdiv ((N - K : Nat) : Int) 2 = (lim : Int) := by rw [Int.tdiv_eq_ediv_of_nonneg (by omega)]; omega
  clear hlim
  have ht4 : ((N - K + 1 : Nat) : Int) - 1 = ((N - K : Nat) : Int) := by omega
  replace hx := Lib.hid hx; replace hEnc := Lib.hid hEnc; replace hue := Lib.hid hue; replace hNe := Lib.hid hNe; replace hBe := Lib.hid hBe; replace hKe := Lib.hid hKe
  have HT2 := Lib.hid ht2; have HT3 := Lib.hid ht3; have HT5 := Lib.hid ht5; have HT6 := Lib.hid ht6; have HT4 := Lib.hid ht4; have HBS := Lib.hid hBs; have HC2 := Lib.hid hc2; have HMU := Lib.hid hmul
  clear ht2 ht3 ht5 ht6 ht4 hBs hc2 hmul
  rw [cast_pow, cast_pow] at hmin
  generalize hB0e : 2 ^ m0 = B0 at *
  generalize hEe : 2 ^ (3 - s) = E at *
  have hE8 : (8 : Int) / (2 : Int) ^ s = (E : Int) := by
    rw [HC2.out, show (8 : Int) = (K : Int) * (E : Int) from by rw [← Int.natCast_mul, hmE]; rfl]
    exact Int.mul_ediv_cancel_left _ (by omega)
  rw [← hE8] at hmin
  clear hE8
  replace hmd := Lib.hid hmd; replace hB0e := Lib.hid hB0e; replace hEe := Lib.hid hEe
  refine Calls.mono (R := fun e w' => e = .returned (.bool true) ∧ Gn w w') ?_ (fun e w' h => ⟨h.1, h.2.below⟩)
  go_enter Tryz.func3, Tryz.ntmps3
  go_wp2_with fail
  have hg : Gn w w := Gn.refl w
  refine (o_sanity9 _ hT).mono ?_
  rintro e w1 ⟨rfl, g⟩
  replace hg := hg.trans g
  replace hT := hT.up g
  replace h_x0 := h_x0.up g
  replace h_x1 := h_x1.up g
  replace h_x3 := h_x3.up g
  clear g
  go_wp2_with fail
  skip
  try simp only [List.append_eq, List.cons_append, List.nil_append]
  refine Fk.wp_region_flow 5 (by kernel_rfl) (by kernel_rfl) ?_
  refine Fk.flow_one rfl (freeB_spec (by kernel_rfl)) ?_
  go_big_quiet_step (fail)
  refine wpQuiet_nil ?_
  apply Fk.flow_is
  · exact freeB_spec (by kernel_rfl)
  · intro g K hK
    go_wp2_with fail
    refine (hBl _).mono ?_
    rintro e w' ⟨rfl, rfl⟩
    go_wp2_with fail
    exact hK _ (Up.refl _)
  · rfl
  conv => arg 8; simp only [Act.put, List.setIfInBounds_toArray, List.set_cons_succ, List.set_cons_zero]
  refine Fk.flow_one rfl (freeB_spec (by kernel_rfl)) ?_
  go_big_quiet_step (fail)
  refine wpQuiet_nil ?_
  refine Fk.flow_one rfl (freeB_spec (by kernel_rfl)) ?_
  go_big_quiet_step (fail)
  refine wpQuiet_nil ?_
  refine Fk.flow_is (freeB_spec (by kernel_rfl)) (is_minT rfl rfl hmin) rfl ?_
  conv => arg 8; simp only [Act.put, List.setIfInBounds_toArray, List.set_cons_succ, List.set_cons_zero]
  intro V N' X hΓ hdis g hX
  clear hΓ hdis hX
  have hgn : Gn w1 (gr w1 g) := ⟨g, rfl⟩
  generalize gr w1 g = w2 at *
  replace hg := hg.trans hgn
  replace hT := hT.up hgn
  replace h_x0 := h_x0.up hgn
  replace h_x1 := h_x1.up hgn
  replace h_x3 := h_x3.up hgn
  clear hgn
  conv => arg 5; simp only [fill, Act.put, List.setIfInBounds_toArray, List.set_cons_succ, List.set_cons_zero]
  go_wp2_with fail
  skip
  clear hmin
  refine (hMade a0 len0 cap0 x0 _ h_x0).mono ?_
  rintro e w3 ⟨vv, rfl, ho, g⟩
  replace hg := hg.trans g
  replace hT := hT.up g
  replace h_x0 := h_x0.up g
  replace h_x1 := h_x1.up g
  replace h_x3 := h_x3.up g
  clear g
  obtain ⟨Ap, cp, rfl, hp⟩ := ho.sf
  clear ho
  rw [padF_length] at hp
  obtain ⟨p, hpe⟩ : ∃ p, p = padF (redL x0) K := ⟨_, rfl⟩
  have lp : p.length = K := by rw [hpe, padF_length]
  rw [← hpe] at hp
  try rw [padF_length]
  clear hpe
  replace lp := Lib.hid lp
  go_wp2_with fail
  skip
  have Ec := hEnc.out p lp.out
  obtain ⟨c, hce⟩ : ∃ c, c = valP p u N := ⟨_, rfl⟩
  have lc : c.length = N := by rw [hce, valP_length]
  rw [← hce] at Ec
  replace Ec := Lib.hid Ec; replace lc := Lib.hid lc; replace hce := Lib.hid hce
  refine (y_encode _ _ _ _ _ _ hp (by omega) (by omega)).mono ?_
  rintro e w4 hR
  rw [Ec.out] at hR
  obtain ⟨Ahc, chc, rfl, hc, g⟩ := hR.get lc.out
  replace hg := hg.trans g
  replace hT := hT.up g
  replace h_x0 := h_x0.up g
  replace h_x1 := h_x1.up g
  replace h_x3 := h_x3.up g
  replace hp := hp.up g
  clear g
  go_wp2_with fail
  skip
  refine (y_corrupt _ a1 N _ len1 cap1 c x1 16 _ hc h_x1 (by omega) (by omega) (by omega)).mono ?_
  rintro e w5 ⟨y, Ay, cy, ly, hdm, rfl, hy, g⟩
  obtain ⟨D, hDe⟩ : ∃ D, D = dis (co y) (co c) N := ⟨_, rfl⟩
  rw [← hDe] at hdm ⊢
  replace hDe := Lib.hid hDe; replace ly := Lib.hid ly
  replace hg := hg.trans g
  replace hT := hT.up g
  replace h_x0 := h_x0.up g
  replace h_x1 := h_x1.up g
  replace h_x3 := h_x3.up g
  replace hp := hp.up g
  replace hc := hc.up g
  clear g
  clear hdm hDe
  rcases Bool.eq_false_or_eq_true (bits .and .u8 x2 1 == 1) with hbit | hbit
  · obtain ⟨sm, hsm⟩ : ∃ sm, sm = s + m := ⟨_, rfl⟩
    have hMw := fun w h => y_made a3 len3 cap3 x3 sm w h (by omega)
    rw [show 2 ^ sm = N from by rw [hsm, hNe.out]] at hMw
    have hsm2 : (s : Int) + (m : Int) = (sm : Int) := by omega
    have hsm3 : sm ≤ 16 := by omega
    replace hsm := Lib.hid hsm
    go_wp2_with fail
    skip
    refine (hsh _).mono ?_
    rintro e w6 ⟨rfl, g⟩
    replace hg := hg.trans g
    replace hT := hT.up g
    replace h_x0 := h_x0.up g
    replace h_x1 := h_x1.up g
    replace h_x3 := h_x3.up g
    replace hp := hp.up g
    replace hc := hc.up g
    replace hy := hy.up g
    clear g
    clear hbit
    go_wp2_with fail
    skip
    clear hy ly
    refine (hMw _ h_x3).mono ?_
    rintro e w7 ⟨vv, rfl, ho, g⟩
    replace hg := hg.trans g
    replace hT := hT.up g
    replace h_x0 := h_x0.up g
    replace h_x1 := h_x1.up g
    replace h_x3 := h_x3.up g
    replace hp := hp.up g
    replace hc := hc.up g
    clear g
    obtain ⟨Ay, cy, rfl, hy⟩ := ho.sf
    clear ho
    clear y
    rw [padF_length] at hy
    obtain ⟨y, hye⟩ : ∃ y, y = padF (redL x3) N := ⟨_, rfl⟩
    have ly : y.length = N := by rw [hye, padF_length]
    rw [← hye] at hy
    try rw [padF_length]
    clear hye
    replace ly := Lib.hid ly
    go_wp2_with fail
    skip
    refine (hDec _ _ y _ hT hy).mono ?_
    rintro e w8 ⟨r, hDr, hX⟩
    have hr1 := DecIs.len hDr
    obtain ⟨row, d, z⟩ := r
    obtain ⟨Aq, cq, rfl, hq, g⟩ := hX.get (n := row.length) rfl
    replace hDr := Lib.hid hDr
    clear hX
    replace hg := hg.trans g
    replace hT := hT.up g
    replace h_x0 := h_x0.up g
    replace h_x1 := h_x1.up g
    replace h_x3 := h_x3.up g
    replace hp := hp.up g
    replace hc := hc.up g
    replace hy := hy.up g
    clear g
    go_wp2_with fail
    skip
    refine (hDec' _ _ y _ hy).mono ?_
    rintro e w9 ⟨r, hDr2, hX⟩
    obtain rfl := DecIs.unique hx.out hle hDr.out hDr2
    obtain ⟨Aq2, cq2, rfl, hq2, g⟩ := hX.get (n := row.length) rfl
    clear hX hDr hDr2
    replace hg := hg.trans g
    replace hT := hT.up g
    replace h_x0 := h_x0.up g
    replace h_x1 := h_x1.up g
    replace h_x3 := h_x3.up g
    replace hp := hp.up g
    replace hc := hc.up g
    replace hy := hy.up g
    replace hq := hq.up g
    clear g
    have hrl : row.length ≤ 1000000 := by have : row.length ≤ K := hr1; omega
    clear hr1
    go_wp2_with fail
    skip
    refine (y_same_true hq hq2 hrl hrl rfl).mono ?_
    rintro e w10 ⟨rfl, g⟩
    replace hg := hg.trans g
    replace hT := hT.up g
    replace h_x0 := h_x0.up g
    replace h_x1 := h_x1.up g
    replace h_x3 := h_x3.up g
    replace hp := hp.up g
    replace hc := hc.up g
    replace hy := hy.up g
    replace hq := hq.up g
    replace hq2 := hq2.up g
    clear g
    go_wp2_with fail
    skip
    go_ret
    exact ⟨rfl, hg⟩
  · go_wp2_with fail
    skip
    refine (hDec _ _ y _ hT hy).mono ?_
    rintro e w6 ⟨r, hDr, hX⟩
    have hr1 := DecIs.len hDr
    obtain ⟨row, d, z⟩ := r
    obtain ⟨Aq, cq, rfl, hq, g⟩ := hX.get (n := row.length) rfl
    replace hDr := Lib.hid hDr
    clear hX
    replace hg := hg.trans g
    replace hT := hT.up g
    replace h_x0 := h_x0.up g
    replace h_x1 := h_x1.up g
    replace h_x3 := h_x3.up g
    replace hp := hp.up g
    replace hc := hc.up g
    replace hy := hy.up g
    clear g
    go_wp2_with fail
    skip
    refine (hDec' _ _ y _ hy).mono ?_
    rintro e w7 ⟨r, hDr2, hX⟩
    obtain rfl := DecIs.unique hx.out hle hDr.out hDr2
    obtain ⟨Aq2, cq2, rfl, hq2, g⟩ := hX.get (n := row.length) rfl
    clear hX hDr hDr2
    replace hg := hg.trans g
    replace hT := hT.up g
    replace h_x0 := h_x0.up g
    replace h_x1 := h_x1.up g
    replace h_x3 := h_x3.up g
    replace hp := hp.up g
    replace hc := hc.up g
    replace hy := hy.up g
    replace hq := hq.up g
    clear g
    have hrl : row.length ≤ 1000000 := by have : row.length ≤ K := hr1; omega
    clear hr1
    go_wp2_with fail
    skip
    refine (y_same_true hq hq2 hrl hrl rfl).mono ?_
    rintro e w8 ⟨rfl, g⟩
    replace hg := hg.trans g
    replace hT := hT.up g
    replace h_x0 := h_x0.up g
    replace h_x1 := h_x1.up g
    replace h_x3 := h_x3.up g
    replace hp := hp.up g
    replace hc := hc.up g
    replace hy := hy.up g
    replace hq := hq.up g
    replace hq2 := hq2.up g
    clear g
    go_wp2_with fail
    skip
    go_ret
    exact ⟨rfl, hg⟩

set_option linter.unusedVariables false in
set_option maxRecDepth 100000 in
set_option maxHeartbeats 1000000 in
theorem lifted (os : Os) (started : os.Started) (H : Type) (enc : TypeId × Value → H) :
    ReturnsInHanded {} Tryz.checked os 3 .any (fun w args => (Rows.reedsolomonDecodeMatchesReferenceSpec.pre enc Tryz.prog Tryz.f3 [] false w args ∧ laidMetH Tryz.prog laid2 w) ∧ sizedMet enc Tryz.prog Tryz.f3 (OpenSpec.ofChange Rows.reedsolomonDecodeMatchesReferenceSpec) false w args)
      (Rows.reedsolomonDecodeMatchesReferenceSpec.post enc Tryz.prog Tryz.f3 false true false false) := by
  refine returnsInHanded_of_change_and (C := Tryz.checked) (X := fun w _ => laidMetH Tryz.prog laid2 w) (fun _ _ _ hh h => h.of_heap hh) own started (by kernel_rfl) Tryz.func3
    (ChangeSpec.witness_shaped (enc := enc) (C := Tryz.checked) (os := os) (X := fun w _ => laidMetH Tryz.prog laid2 w) false (World.doorLaid Tryz.prog 400 os) #[.slice none 0 0, .slice none 0 0, .int .u8 0, .slice none 0 0] 8 rfl (World.shaped_of_RefB (by kernel_rfl) (by kernel_rfl)) (by kernel_rfl) (by kernel_rfl) (by kernel_rfl) (door_met os _)) ?_
  intro W base args ds gs before hval0 hW _ _ hL _
  have hval : ∀ (j : Nat) t v, Tryz.f3.params[j]? = some t → args[j]? = some v → Value.okWide Tryz.prog W .any base t v := hval0
  have hW' : DataW.Whole enc Tryz.prog Tryz.f3.params.toList Rows.reedsolomonDecodeMatchesReferenceSpec.vars false W args.toList ds gs before := hW
  obtain ⟨p, q, hA0, hV, rfl, hfz, hnd⟩ := hW
  have hA : DataW.TrodAll enc Tryz.prog W 0 (fun _ => true) true Tryz.f3.params.toList args.toList ds p := hA0
  rw [Tryz.params3] at hA hval
  obtain ⟨v0, vs0, d0, ds0, p0, q0, hargs, rfl, rfl, h0, r0⟩ := trodAll_cons hA
  obtain ⟨v1, vs1, d1, ds1, p1, q1, rfl, rfl, rfl, h1, r1⟩ := trodAll_cons r0
  obtain ⟨v2, vs2, d2, ds2, p2, q2, rfl, rfl, rfl, h2, r2⟩ := trodAll_cons r1
  obtain ⟨v3, vs3, d3, ds3, p3, q3, rfl, rfl, rfl, h3, r3⟩ := trodAll_cons r2
  obtain ⟨rfl, rfl, rfl⟩ := trodAll_nil r3
  obtain rfl : args = #[v0, v1, v2, v3] := by cases args; simp_all
  obtain ⟨rfl, rfl⟩ := trodVars_none hV
  obtain ⟨a0, len0, cap0, rfl⟩ := okWide_slice Tryz.underlying22 (hval 0 22 v0 rfl rfl)
  obtain ⟨x0, hz0⟩ := openU64s h0
  obtain ⟨a1, len1, cap1, rfl⟩ := okWide_slice Tryz.underlying23 (hval 1 23 v1 rfl rfl)
  obtain ⟨x1, hz1⟩ := openErrs h1
  obtain ⟨x2, rfl, hz2⟩ := int_open Tryz.underlying5 (hval 2 5 v2 rfl rfl)
  obtain ⟨a3, len3, cap3, rfl⟩ := okWide_slice Tryz.underlying22 (hval 3 22 v3 rfl rfl)
  obtain ⟨x3, hz3⟩ := openU64s h3
  refine (walk W a0 len0 cap0 x0 a1 len1 cap1 x1 x2 a3 len3 cap3 x3 (tab_of_laid hL) hz0 hz1 (by have := has_u8 hz2; omega) (by have := has_u8 hz2; omega) hz3).mono fun e W' ⟨he, bel⟩ => ?_
  subst he
  exact ⟨_, rfl, law_post laidOut hW' rfl (by kernel_rfl) rfl Tryz.underlying4 rfl bel⟩

theorem row_proved : Rows.ReedsolomonDecodeMatchesReferenceSaid :=
  OpenClaim.holds_of_wide 3 Tryz.f3 rfl rfl rfl rfl rfl rfl rfl ⟨rfl, rfl, rfl, rfl, rfl⟩ rfl rfl rfl rfl rfl (by kernel_rfl) Tryz.func3 (by kernel_rfl)
    (of_decide_eq_true (by kernel_rfl)) (by unfold Func.isWrapper; first | (rw [if_pos (by decide +kernel)]; kernel_rfl) | (rw [if_neg (by decide +kernel)]; exact ⟨rfl, rfl⟩))
    (fun os started H enc _ => lifted os started H enc)

/-- the card: the row's listed variables are tied to the program's text -/
theorem proved : Rows.ReedsolomonDecodeMatchesReferenceCardSaid :=
  Claim7.holds_tied_plain_at .later [] [.data, .data] true Rows.reedsolomonDecodeMatchesReferenceCard.stood.harness false
    row_proved (fun _ h => by cases h) (by kernel_rfl) (fun _ h => by cases h) reedsolomonDecodeMatchesReference_row_tie rfl ⟨rfl, rfl⟩ (by kernel_rfl) rfl
    (fun f fn hf hfn => by
      obtain rfl : f = 3 := (Option.some.inj ((show Tryz.prog.funcNamed Rows.reedsolomonDecodeMatchesReferenceRow.func = some 3 by kernel_rfl).symm.trans hf)).symm
      obtain rfl : fn = Tryz.f3 := (Option.some.inj (Tryz.func3.symm.trans hfn)).symm
      exact ⟨by kernel_rfl, fun j t ht => by
        rw [Tryz.params3] at ht
        have hall : ([22, 23, 5, 22].all fun t => !Tryz.prog.wantsStandIn t) = true := by kernel_rfl
        have hm := List.mem_of_getElem? (show [22, 23, 5, 22][j]? = some t by simpa using ht)
        have := List.all_eq_true.1 hall t hm
        exact (show Tryz.prog.wantsStandIn t = false by simpa using this)⟩)
    (by kernel_rfl)
end Go.Proofs.YtbfblckgcefaaaaGreatDoor.lawReedsolomonDecodeMatchesReference
