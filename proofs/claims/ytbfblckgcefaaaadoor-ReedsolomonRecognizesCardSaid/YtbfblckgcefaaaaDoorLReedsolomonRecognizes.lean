/- ReedsolomonRecognizes: for every row of numbers, every errors and every number of 8 bits the law on what Is accepts returns true; no conditions. -/
import Derived.Test.YtbfblckgcefaaaaDoorFrd
import Derived.Test.YtbfblckgcefaaaaDoorRt
import Derived.Test.YtbfblckgcefaaaaDoorOpF
import Derived.Test.YtbfblckgcefaaaaDoorOpE
import Derived.Test.YtbfblckgcefaaaaDoorOp
namespace Go.Proofs.YtbfblckgcefaaaaDoor.lawReedsolomonRecognizes
open Go.ChangeShapes Go.WideShapes Go.ChangeAt Go.RowKit Att Att.CRing

set_option maxRecDepth 100000 in
set_option maxHeartbeats 4000000 in
theorem walk (w : World) (a0 : Option Addr) (len0 cap0 : Nat) (x0 : List Int) (a1 : Option Addr) (len1 cap1 : Nat) (x1 : List (Int × Int)) (x2 : Int) (hT : Tab w) (h_x0 : SW w a0 len0 cap0 x0) (h_x1 : SEr w a1 len1 cap1 x1) (l_x2 : 0 ≤ x2) (u_x2 : x2 ≤ 255) :
    Calls Tryd.prog 7 #[.slice a0 len0 cap0, .slice a1 len1 cap1, .int .u8 x2] w fun e w' => e = .returned (.bool true) ∧ Below w.heap.size w w' := by
  classical
  obtain ⟨m, m1, m3, hm, hBl⟩ := y_blowup x2 l_x2 u_x2
  obtain ⟨s, hs⟩ : ∃ s : Nat, (s : Int) = x2 / 16 % 4 := ⟨(x2 / 16 % 4).toNat, Int.toNat_of_nonneg (by omega)⟩
  have hs4 : s ≤ 3 := by omega
  have hst : Int.tmod (x2 / 16) 4 = (s : Int) := by rw [hs]; exact Int.tmod_eq_emod_of_nonneg (by omega)
  replace hm := Lib.hid hm; replace hs := Lib.hid hs
  have ham : s + m ≤ 16 := by omega
  have hx : Dif (pw (root (s + m))) (2 ^ (s + m)) := (root_prim (s + m) (by omega)).dif
  have hle : 2 ^ s ≤ 2 ^ (s + m) := Nat.pow_le_pow_right (by omega) (by omega)
  have hN : 2 ^ (s + m) ≤ 128 := Nat.le_trans (Nat.pow_le_pow_right (n := 2) (by omega) (show s + m ≤ 7 by omega)) (by decide)
  have hB8 : 2 ^ m ≤ 8 := Nat.le_trans (Nat.pow_le_pow_right (n := 2) (by omega) m3) (by decide)
  have hK0 : 0 < 2 ^ s := Nat.two_pow_pos s
  have hB0 : 0 < 2 ^ m := Nat.two_pow_pos m
  have hmul := two_mul_pow s m
  have hc2 := cast_pow s
  have hEnc : ∀ p : List F, p.length = 2 ^ s → encOf p ((2 ^ m : Nat) : Int) = (valP p (root (s + m)) (2 ^ (s + m)), 0) := fun p hp => by rw [← cast_pow]; exact encOf_pow hp m1 (by omega) ham
  have hDec := fun A c l w hT hl => s_decode A c l s m w hT m1 (by omega) ham hl
  have hIs := fun A c l w hT hl => s_is A c l s m w hT m1 (by omega) ham hl
  have hMd := s_minDistance (2 ^ s) (2 ^ m) (2 ^ (s + m)) hmul hle (by omega)
  have hMd' := y_minDistance (2 ^ s) (2 ^ m) (2 ^ (s + m)) hmul hle (by omega)
  have hsh := y_shift m m1 (by omega)
  have hMade := fun A n c l w hl => y_made A n c l s w hl (by omega)
  generalize hue : root (s + m) = u at *
  generalize hNe : 2 ^ (s + m) = N at *
  generalize hBe : 2 ^ m = B at *
  generalize hKe : 2 ^ s = K at *
  have hw1 : IntKind.i64.wrap (K : Int) = (K : Int) := IntWalk.i64_in _ (by omega)
  have hw2 : IntKind.i64.wrap (N : Int) = (N : Int) := IntWalk.i64_in _ (by omega)
  have hBs : (B : Int) * (2 : Int) ^ s = (N : Int) := by rw [hc2]; exact hmul
  obtain ⟨lim, hlim⟩ : ∃ lim, lim = (N - K) / 2 := ⟨_, rfl⟩
  have hl1 : 2 * lim ≤ N - K := by omega
  have hl2 : N - K ≤ 2 * lim + 1 := by omega
  have ht2 : Int.tdiv (((N - K + 1 : Nat) : Int) - 1) 2 = (lim : Int) := by rw [Int.tdiv_eq_ediv_of_nonneg (by omega)]; omega
  have ht3 : (((N - K + 1 : Nat) : Int) - 1) / 2 = (lim : Int) := by omega
  have ht5 : ((N - K : Nat) : Int) / 2 = (lim : Int) := by omega
  have ht6 : Int.tdiv ((N - K : Nat) : Int) 2 = (lim : Int) := by rw [Int.tdiv_eq_ediv_of_nonneg (by omega)]; omega
  clear hlim
  have ht4 : ((N - K + 1 : Nat) : Int) - 1 = ((N - K : Nat) : Int) := by omega
  replace hx := Lib.hid hx; replace hEnc := Lib.hid hEnc; replace hue := Lib.hid hue; replace hNe := Lib.hid hNe; replace hBe := Lib.hid hBe; replace hKe := Lib.hid hKe
  have HT2 := Lib.hid ht2; have HT3 := Lib.hid ht3; have HT5 := Lib.hid ht5; have HT6 := Lib.hid ht6; have HT4 := Lib.hid ht4; have HBS := Lib.hid hBs; have HC2 := Lib.hid hc2; have HMU := Lib.hid hmul
  clear ht2 ht3 ht5 ht6 ht4 hBs hc2 hmul
  refine Calls.mono (R := fun e w' => e = .returned (.bool true) ∧ Gn w w') ?_ (fun e w' h => ⟨h.1, h.2.below⟩)
  go_enter Tryd.func7, Tryd.ntmps7
  go_wp2_with fail
  have hg : Gn w w := Gn.refl w
  refine (o_sanity9 _ hT).mono ?_
  rintro e w1 ⟨rfl, g⟩
  replace hg := hg.trans g
  replace hT := hT.up g
  replace h_x0 := h_x0.up g
  replace h_x1 := h_x1.up g
  clear g
  go_wp2_with fail
  skip
  refine (hBl _).mono ?_
  rintro e w2 ⟨rfl, rfl⟩
  go_wp2_with fail
  skip
  refine (hMade a0 len0 cap0 x0 _ h_x0).mono ?_
  rintro e w3 ⟨vv, rfl, ho, g⟩
  replace hg := hg.trans g
  replace hT := hT.up g
  replace h_x0 := h_x0.up g
  replace h_x1 := h_x1.up g
  clear g
  obtain ⟨Ap, cp, rfl, hp⟩ := ho.sf
  clear ho
  rw [padF_length] at hp
  obtain ⟨p, hpe⟩ : ∃ p, p = padF (redL x0) K := ⟨_, rfl⟩
  have lp : p.length = K := by rw [hpe, padF_length]
  rw [← hpe] at hp
  try rw [padF_length]
  clear hpe
  replace lp := Lib.hid lp
  go_wp2_with fail
  skip
  have Ec := hEnc.out p lp.out
  obtain ⟨c, hce⟩ : ∃ c, c = valP p u N := ⟨_, rfl⟩
  have lc : c.length = N := by rw [hce, valP_length]
  rw [← hce] at Ec
  replace Ec := Lib.hid Ec; replace lc := Lib.hid lc; replace hce := Lib.hid hce
  refine (s_encode _ _ _ _ _ _ hT hp (by omega) (by omega)).mono ?_
  rintro e w4 hR
  rw [Ec.out] at hR
  obtain ⟨Ahc, chc, rfl, hc, g⟩ := hR.get lc.out
  replace hg := hg.trans g
  replace hT := hT.up g
  replace h_x0 := h_x0.up g
  replace h_x1 := h_x1.up g
  replace hp := hp.up g
  clear g
  have hc2 := HC2.out; have ht4 := HT4.out
  go_wp2_with fail
  skip
  refine (hMd' _).mono ?_
  rintro e w5 ⟨rfl, rfl⟩
  have ht4 := HT4.out
  go_wp2_with fail
  skip
  refine (y_corrupt _ a1 N _ len1 cap1 c x1 (N - K) _ hc h_x1 (by omega) (by omega) (by omega)).mono ?_
  rintro e w6 ⟨y, Ay, cy, ly, hdm, rfl, hy, g⟩
  obtain ⟨D, hDe⟩ : ∃ D, D = dis (co y) (co c) N := ⟨_, rfl⟩
  rw [← hDe] at hdm ⊢
  replace hDe := Lib.hid hDe; replace ly := Lib.hid ly
  replace hg := hg.trans g
  replace hT := hT.up g
  replace h_x0 := h_x0.up g
  replace h_x1 := h_x1.up g
  replace hp := hp.up g
  replace hc := hc.up g
  clear g
  have hI1 := hIs _ _ c _ hT hc
  rw [decide_eq_true (show isCode N K u (co c) from by rw [hce.out]; exact code_own lp.out)] at hI1
  have hfew : isCode N K u (co y) ↔ D = 0 := by
    have h := code_few (p := p) (o := y) hx.out hle lp.out (by rw [← hce.out, ← hDe.out]; omega)
    rwa [← hce.out, ← hDe.out] at h
  have hzero : ∀ r, DecIs N K u (co y) r → ((r.2.2 = 0 ∧ r.2.1 = 0) ↔ isCode N K u (co y)) := fun r h => decIs_zero hx.out hle h
  obtain ⟨q, hq⟩ : ∃ q, q = decide (isCode N K u (co y)) := ⟨_, rfl⟩
  have hqD : ((D : Int) == 0) = q := by
    rw [hq, Bool.eq_iff_iff, beq_iff_eq, decide_eq_true_eq, hfew]; omega
  have hqr : ∀ r, DecIs N K u (co y) r → (r.2.2 == 0 && r.2.1 == 0) = q := fun r h => by
    rw [hq, Bool.eq_iff_iff, Bool.and_eq_true, beq_iff_eq, beq_iff_eq, decide_eq_true_eq]; exact hzero r h
  have hI2 := fun A c w (h1 : Tab w) (h2 : SF w A N c y) => hIs A c y w h1 h2
  rw [← hq] at hI2
  replace hqD := Lib.hid hqD; replace hqr := Lib.hid hqr
  clear hq hzero hfew hIs hdm
  go_wp2_with fail
  skip
  refine (hI1).mono ?_
  rintro e w7 ⟨rfl, g⟩
  replace hg := hg.trans g
  replace hT := hT.up g
  replace h_x0 := h_x0.up g
  replace h_x1 := h_x1.up g
  replace hp := hp.up g
  replace hc := hc.up g
  replace hy := hy.up g
  clear g
  clear hI1
  go_wp2_with fail
  skip
  refine (hI2 _ _ _ hT hy).mono ?_
  rintro e w8 ⟨rfl, g⟩
  replace hg := hg.trans g
  replace hT := hT.up g
  replace h_x0 := h_x0.up g
  replace h_x1 := h_x1.up g
  replace hp := hp.up g
  replace hc := hc.up g
  replace hy := hy.up g
  clear g
  clear hI2
  go_wp2_with fail
  skip
  refine (hDec _ _ y _ hT hy).mono ?_
  rintro e w9 ⟨r, hDr, hX⟩
  have hqv := hqr.out r hDr
  obtain ⟨row, d, z⟩ := r
  obtain ⟨Aq, cq, rfl, hrow, g⟩ := hX.get (n := row.length) rfl
  clear hDr hX
  replace hg := hg.trans g
  replace hT := hT.up g
  replace h_x0 := h_x0.up g
  replace h_x1 := h_x1.up g
  replace hp := hp.up g
  replace hc := hc.up g
  replace hy := hy.up g
  clear g
  have hqD2 := hqD.out
  dsimp only at hqv
  cases q
  · have z1 : ((D : Int) == 0) = false := hqD2
    rcases Bool.eq_false_or_eq_true (z == 0) with z2 | z2
    · have z3 : (d == 0) = false := by rw [z2] at hqv; simpa using hqv
      clear hqv hqD2
      go_wp2_with fail
      skip
      go_ret
      exact ⟨rfl, hg⟩
    · clear hqv hqD2
      go_wp2_with fail
      skip
      go_ret
      exact ⟨rfl, hg⟩
  · have z1 : ((D : Int) == 0) = true := hqD2
    have z2 : (z == 0) = true := by rcases Bool.eq_false_or_eq_true (z == 0) with h | h <;> simp_all
    have z3 : (d == 0) = true := by rcases Bool.eq_false_or_eq_true (d == 0) with h | h <;> simp_all
    clear hqv hqD2
    go_wp2_with fail
    skip
    go_ret
    exact ⟨rfl, hg⟩

set_option linter.unusedVariables false in
set_option maxRecDepth 100000 in
set_option maxHeartbeats 1000000 in
theorem lifted (os : Os) (started : os.Started) (H : Type) (enc : TypeId × Value → H) :
    ReturnsInHanded {} Tryd.checked os 7 .any (fun w args => (Rows.reedsolomonRecognizesSpec.pre enc Tryd.prog Tryd.f7 [] false w args ∧ laidMetH Tryd.prog laid2 w) ∧ sizedMet enc Tryd.prog Tryd.f7 (OpenSpec.ofChange Rows.reedsolomonRecognizesSpec) false w args)
      (Rows.reedsolomonRecognizesSpec.post enc Tryd.prog Tryd.f7 false true false false) := by
  refine returnsInHanded_of_change_and (C := Tryd.checked) (X := fun w _ => laidMetH Tryd.prog laid2 w) (fun _ _ _ hh h => h.of_heap hh) own started (by kernel_rfl) Tryd.func7
    (ChangeSpec.witness_shaped (enc := enc) (C := Tryd.checked) (os := os) (X := fun w _ => laidMetH Tryd.prog laid2 w) false (World.doorLaid Tryd.prog 400 os) #[.slice none 0 0, .slice none 0 0, .int .u8 0] 8 rfl (World.shaped_of_RefB (by kernel_rfl) (by kernel_rfl)) (by kernel_rfl) (by kernel_rfl) (by kernel_rfl) (door_met os _)) ?_
  intro W base args ds gs before hval0 hW _ _ hL _
  have hval : ∀ (j : Nat) t v, Tryd.f7.params[j]? = some t → args[j]? = some v → Value.okWide Tryd.prog W .any base t v := hval0
  have hW' : DataW.Whole enc Tryd.prog Tryd.f7.params.toList Rows.reedsolomonRecognizesSpec.vars false W args.toList ds gs before := hW
  obtain ⟨p, q, hA0, hV, rfl, hfz, hnd⟩ := hW
  have hA : DataW.TrodAll enc Tryd.prog W 0 (fun _ => true) true Tryd.f7.params.toList args.toList ds p := hA0
  rw [Tryd.params7] at hA hval
  obtain ⟨v0, vs0, d0, ds0, p0, q0, hargs, rfl, rfl, h0, r0⟩ := trodAll_cons hA
  obtain ⟨v1, vs1, d1, ds1, p1, q1, rfl, rfl, rfl, h1, r1⟩ := trodAll_cons r0
  obtain ⟨v2, vs2, d2, ds2, p2, q2, rfl, rfl, rfl, h2, r2⟩ := trodAll_cons r1
  obtain ⟨rfl, rfl, rfl⟩ := trodAll_nil r2
  obtain rfl : args = #[v0, v1, v2] := by cases args; simp_all
  obtain ⟨rfl, rfl⟩ := trodVars_none hV
  obtain ⟨a0, len0, cap0, rfl⟩ := okWide_slice Tryd.underlying22 (hval 0 22 v0 rfl rfl)
  obtain ⟨x0, hz0⟩ := openU64s h0
  obtain ⟨a1, len1, cap1, rfl⟩ := okWide_slice Tryd.underlying45 (hval 1 45 v1 rfl rfl)
  obtain ⟨x1, hz1⟩ := openErrs h1
  obtain ⟨x2, rfl, hz2⟩ := int_open Tryd.underlying5 (hval 2 5 v2 rfl rfl)
  refine (walk W a0 len0 cap0 x0 a1 len1 cap1 x1 x2 (tab_of_laid hL) hz0 hz1 (by have := has_u8 hz2; omega) (by have := has_u8 hz2; omega)).mono fun e W' ⟨he, bel⟩ => ?_
  subst he
  exact ⟨_, rfl, law_post laidOut hW' rfl (by kernel_rfl) rfl Tryd.underlying4 rfl bel⟩

theorem row_proved : Rows.ReedsolomonRecognizesSaid :=
  OpenClaim.holds_of_wide 7 Tryd.f7 rfl rfl rfl rfl rfl rfl rfl ⟨rfl, rfl, rfl, rfl, rfl⟩ rfl rfl rfl rfl rfl (by kernel_rfl) Tryd.func7 (by kernel_rfl)
    (of_decide_eq_true (by kernel_rfl)) (by unfold Func.isWrapper; first | (rw [if_pos (by decide +kernel)]; kernel_rfl) | (rw [if_neg (by decide +kernel)]; exact ⟨rfl, rfl⟩))
    (fun os started H enc _ => lifted os started H enc)

/-- the card: the row's listed variables are tied to the program's text -/
theorem proved : Rows.ReedsolomonRecognizesCardSaid :=
  Claim7.holds_tied_plain_at .later [] [.data, .data] true Rows.reedsolomonRecognizesCard.stood.harness false
    row_proved (fun _ h => by cases h) (by kernel_rfl) (fun _ h => by cases h) reedsolomonRecognizes_row_tie rfl ⟨rfl, rfl⟩ (by kernel_rfl) rfl
    (fun f fn hf hfn => by
      obtain rfl : f = 7 := (Option.some.inj ((show Tryd.prog.funcNamed Rows.reedsolomonRecognizesRow.func = some 7 by kernel_rfl).symm.trans hf)).symm
      obtain rfl : fn = Tryd.f7 := (Option.some.inj (Tryd.func7.symm.trans hfn)).symm
      exact ⟨by kernel_rfl, fun j t ht => by
        rw [Tryd.params7] at ht
        have hall : ([22, 45, 5].all fun t => !Tryd.prog.wantsStandIn t) = true := by kernel_rfl
        have hm := List.mem_of_getElem? (show [22, 45, 5][j]? = some t by simpa using ht)
        have := List.all_eq_true.1 hall t hm
        exact (show Tryd.prog.wantsStandIn t = false by simpa using this)⟩)
    (by kernel_rfl)
end Go.Proofs.YtbfblckgcefaaaaDoor.lawReedsolomonRecognizes
