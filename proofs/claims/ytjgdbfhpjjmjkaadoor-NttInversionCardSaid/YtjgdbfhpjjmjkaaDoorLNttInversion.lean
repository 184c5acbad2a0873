/- NttInversion: for every row of numbers and every number of 8 bits the law on Inverse behind Forward and Forward behind Inverse returns true; no conditions. -/
import Derived.Test.YtjgdbfhpjjmjkaaDoorFrd
import Derived.Test.YtjgdbfhpjjmjkaaDoorNy
import Derived.Test.YtjgdbfhpjjmjkaaDoorOpF
namespace Go.Proofs.YtjgdbfhpjjmjkaaDoor.lawNttInversion
open Go.ChangeShapes Go.WideShapes Go.ChangeAt Go.RowKit Att Att.CRing

set_option maxRecDepth 100000 in
set_option maxHeartbeats 4000000 in
theorem walk (w : World) (a0 : Option Addr) (len0 cap0 : Nat) (x0 : List Int) (x1 : Int) (hT : Tab w) (h_x0 : SW w a0 len0 cap0 x0) (l_x1 : 0 ≤ x1) (u_x1 : x1 ≤ 255) :
    Calls Tryd.prog 4 #[.slice a0 len0 cap0, .int .u8 x1] w fun e w' => e = .returned (.bool true) ∧ Below w.heap.size w w' := by
  skip
  refine Calls.mono (R := fun e w' => e = .returned (.bool true) ∧ Gn w w') ?_ (fun e w' h => ⟨h.1, h.2.below⟩)
  go_enter Tryd.func4, Tryd.ntmps4
  go_wp2_with fail
  have hg : Gn w w := Gn.refl w
  refine (o_sanity4 _ hT).mono ?_
  rintro e w1 ⟨rfl, g⟩
  replace hg := hg.trans g
  replace hT := hT.up g
  replace h_x0 := h_x0.up g
  clear g
  go_wp2_with fail
  skip
  refine (x_made4 a0 len0 cap0 x0 x1 8 _ h_x0 l_x1 u_x1 (by decide)).mono ?_
  rintro e w2 ⟨sa, hsa, hea, rfl, hB, g⟩
  replace hg := hg.trans g
  replace hT := hT.up g
  replace h_x0 := h_x0.up g
  clear g
  obtain ⟨a, hae⟩ : ∃ a, a = padF (redL x0) (2 ^ sa) := ⟨_, rfl⟩
  have la : a.length = 2 ^ sa := by rw [hae, padF_length]
  rw [← hae] at hB
  clear hae
  have pa : 2 ^ sa ≤ 1024 := Nat.le_trans (Nat.pow_le_pow_right (n := 2) (by omega) (show sa ≤ 10 by omega)) (by decide)
  have pa0 : 0 < 2 ^ sa := Nat.pow_pos (by omega)
  have ha := hB.sf (by rw [la]; omega)
  rw [la] at ha
  replace hea := Lib.hid hea
  clear hB
  generalize w1.heap.size = ba at *
  obtain ⟨b, Eb, lb, Ec, _⟩ := fwd_ok la (by omega)
  obtain ⟨d, Ed, ld, Ee⟩ := inv_ok la (by omega)
  replace Eb := Lib.hid Eb; replace Ec := Lib.hid Ec; replace Ed := Lib.hid Ed; replace Ee := Lib.hid Ee
  generalize 2 ^ sa = n at *
  replace la := Lib.hid la; replace lb := Lib.hid lb; replace ld := Lib.hid ld
  go_wp2_with fail
  skip
  refine (n_forward _ _ _ _ _ hT ha (by omega)).mono ?_
  rintro e w3 hR
  rw [Eb.out] at hR
  obtain ⟨Ahb, chb, rfl, hb, g⟩ := hR.get lb.out
  replace hg := hg.trans g
  replace hT := hT.up g
  replace h_x0 := h_x0.up g
  replace ha := ha.up g
  clear g
  go_wp2_with fail
  skip
  refine (n_inverse _ _ _ _ _ hT hb (by omega)).mono ?_
  rintro e w4 hR
  rw [Ec.out] at hR
  obtain ⟨Ahc, chc, rfl, hc, g⟩ := hR.get la.out
  replace hg := hg.trans g
  replace hT := hT.up g
  replace h_x0 := h_x0.up g
  replace ha := ha.up g
  replace hb := hb.up g
  clear g
  go_wp2_with fail
  skip
  refine (n_inverse _ _ _ _ _ hT ha (by omega)).mono ?_
  rintro e w5 hR
  rw [Ed.out] at hR
  obtain ⟨Ahd, chd, rfl, hd, g⟩ := hR.get ld.out
  replace hg := hg.trans g
  replace hT := hT.up g
  replace h_x0 := h_x0.up g
  replace ha := ha.up g
  replace hb := hb.up g
  replace hc := hc.up g
  clear g
  go_wp2_with fail
  skip
  refine (n_forward _ _ _ _ _ hT hd (by omega)).mono ?_
  rintro e w6 hR
  rw [Ee.out] at hR
  obtain ⟨Ahe, che, rfl, he, g⟩ := hR.get la.out
  replace hg := hg.trans g
  replace hT := hT.up g
  replace h_x0 := h_x0.up g
  replace ha := ha.up g
  replace hb := hb.up g
  replace hc := hc.up g
  replace hd := hd.up g
  clear g
  go_wp2_with fail
  skip
  refine (r_same_true hc ha rfl).mono ?_
  rintro e w7 ⟨rfl, g⟩
  replace hg := hg.trans g
  replace hT := hT.up g
  replace h_x0 := h_x0.up g
  replace ha := ha.up g
  replace hb := hb.up g
  replace hc := hc.up g
  replace hd := hd.up g
  replace he := he.up g
  clear g
  go_wp2_with fail
  skip
  refine (r_same_true he ha rfl).mono ?_
  rintro e w8 ⟨rfl, g⟩
  replace hg := hg.trans g
  replace hT := hT.up g
  replace h_x0 := h_x0.up g
  replace ha := ha.up g
  replace hb := hb.up g
  replace hc := hc.up g
  replace hd := hd.up g
  replace he := he.up g
  clear g
  go_wp2_with fail
  skip
  go_ret
  exact ⟨rfl, hg⟩

set_option linter.unusedVariables false in
set_option maxRecDepth 100000 in
set_option maxHeartbeats 1000000 in
theorem lifted (os : Os) (started : os.Started) (H : Type) (enc : TypeId × Value → H) :
    ReturnsInHanded {} Tryd.checked os 4 .any (fun w args => (Rows.nttInversionSpec.pre enc Tryd.prog Tryd.f4 [] false w args ∧ laidMetH Tryd.prog laid2 w) ∧ sizedMet enc Tryd.prog Tryd.f4 (OpenSpec.ofChange Rows.nttInversionSpec) false w args)
      (Rows.nttInversionSpec.post enc Tryd.prog Tryd.f4 false true false false) := by
  refine returnsInHanded_of_change_and (C := Tryd.checked) (X := fun w _ => laidMetH Tryd.prog laid2 w) (fun _ _ _ hh h => h.of_heap hh) own started (by kernel_rfl) Tryd.func4
    (ChangeSpec.witness_shaped (enc := enc) (C := Tryd.checked) (os := os) (X := fun w _ => laidMetH Tryd.prog laid2 w) false (World.doorLaid Tryd.prog 400 os) #[.slice none 0 0, .int .u8 0] 8 rfl (World.shaped_of_RefB (by kernel_rfl) (by kernel_rfl)) (by kernel_rfl) (by kernel_rfl) (by kernel_rfl) (door_met os _)) ?_
  intro W base args ds gs before hval0 hW _ _ hL _
  have hval : ∀ (j : Nat) t v, Tryd.f4.params[j]? = some t → args[j]? = some v → Value.okWide Tryd.prog W .any base t v := hval0
  have hW' : DataW.Whole enc Tryd.prog Tryd.f4.params.toList Rows.nttInversionSpec.vars false W args.toList ds gs before := hW
  obtain ⟨p, q, hA0, hV, rfl, hfz, hnd⟩ := hW
  have hA : DataW.TrodAll enc Tryd.prog W 0 (fun _ => true) true Tryd.f4.params.toList args.toList ds p := hA0
  rw [Tryd.params4] at hA hval
  obtain ⟨v0, vs0, d0, ds0, p0, q0, hargs, rfl, rfl, h0, r0⟩ := trodAll_cons hA
  obtain ⟨v1, vs1, d1, ds1, p1, q1, rfl, rfl, rfl, h1, r1⟩ := trodAll_cons r0
  obtain ⟨rfl, rfl, rfl⟩ := trodAll_nil r1
  obtain rfl : args = #[v0, v1] := by cases args; simp_all
  obtain ⟨rfl, rfl⟩ := trodVars_none hV
  obtain ⟨a0, len0, cap0, rfl⟩ := okWide_slice Tryd.underlying22 (hval 0 22 v0 rfl rfl)
  obtain ⟨x0, hz0⟩ := openU64s h0
  obtain ⟨x1, rfl, hz1⟩ := int_open Tryd.underlying5 (hval 1 5 v1 rfl rfl)
  refine (walk W a0 len0 cap0 x0 x1 (tab_of_laid hL) hz0 (by have := has_u8 hz1; omega) (by have := has_u8 hz1; omega)).mono fun e W' ⟨he, bel⟩ => ?_
  subst he
  exact ⟨_, rfl, law_post laidOut hW' rfl (by kernel_rfl) rfl Tryd.underlying4 rfl bel⟩

theorem row_proved : Rows.NttInversionSaid :=
  OpenClaim.holds_of_wide 4 Tryd.f4 rfl rfl rfl rfl rfl rfl rfl ⟨rfl, rfl, rfl, rfl, rfl⟩ rfl rfl rfl rfl rfl (by kernel_rfl) Tryd.func4 (by kernel_rfl)
    (of_decide_eq_true (by kernel_rfl)) (by unfold Func.isWrapper; first | (rw [if_pos (by decide +kernel)]; kernel_rfl) | (rw [if_neg (by decide +kernel)]; exact ⟨rfl, rfl⟩))
    (fun os started H enc _ => lifted os started H enc)

/-- the card: the row's listed variables are tied to the program's text -/
theorem proved : Rows.NttInversionCardSaid :=
  Claim7.holds_tied_plain_at .later [] [.data, .data] true Rows.nttInversionCard.stood.harness false
    row_proved (fun _ h => by cases h) (by kernel_rfl) (fun _ h => by cases h) nttInversion_row_tie rfl ⟨rfl, rfl⟩ (by kernel_rfl) rfl
    (fun f fn hf hfn => by
      obtain rfl : f = 4 := (Option.some.inj ((show Tryd.prog.funcNamed Rows.nttInversionRow.func = some 4 by kernel_rfl).symm.trans hf)).symm
      obtain rfl : fn = Tryd.f4 := (Option.some.inj (Tryd.func4.symm.trans hfn)).symm
      exact ⟨by kernel_rfl, fun j t ht => by
        rw [Tryd.params4] at ht
        have hall : ([22, 5].all fun t => !Tryd.prog.wantsStandIn t) = true := by kernel_rfl
        have hm := List.mem_of_getElem? (show [22, 5][j]? = some t by simpa using ht)
        have := List.all_eq_true.1 hall t hm
        exact (show Tryd.prog.wantsStandIn t = false by simpa using this)⟩)
    (by kernel_rfl)
end Go.Proofs.YtjgdbfhpjjmjkaaDoor.lawNttInversion
