/- NttRotation: for every row of numbers and every number of 8 bits the law on the transform of a rotated row returns true; no conditions. -/
import Derived.Test.YtjgdbfhpjjmjkaaDoorFrd
import Derived.Test.YtjgdbfhpjjmjkaaDoorNz
import Derived.Test.YtjgdbfhpjjmjkaaDoorOpF
namespace Go.Proofs.YtjgdbfhpjjmjkaaDoor.lawNttRotation
open Go.ChangeShapes Go.WideShapes Go.ChangeAt Go.RowKit Att Att.CRing

set_option maxRecDepth 100000 in
set_option maxHeartbeats 4000000 in
theorem walk (w : World) (a0 : Option Addr) (len0 cap0 : Nat) (x0 : List Int) (x1 : Int) (hT : Tab w) (h_x0 : SW w a0 len0 cap0 x0) (l_x1 : 0 ≤ x1) (u_x1 : x1 ≤ 255) :
    Calls Tryd.prog 6 #[.slice a0 len0 cap0, .int .u8 x1] w fun e w' => e = .returned (.bool true) ∧ Below w.heap.size w w' := by
  skip
  refine Calls.mono (R := fun e w' => e = .returned (.bool true) ∧ Gn w w') ?_ (fun e w' h => ⟨h.1, h.2.below⟩)
  go_enter Tryd.func6, Tryd.ntmps6
  go_wp2_with fail
  have hg : Gn w w := Gn.refl w
  refine (o_sanity4 _ hT).mono ?_
  rintro e w1 ⟨rfl, g⟩
  replace hg := hg.trans g
  replace hT := hT.up g
  replace h_x0 := h_x0.up g
  clear g
  go_wp2_with fail
  skip
  refine (x_made4 a0 len0 cap0 x0 x1 8 _ h_x0 l_x1 u_x1 (by decide)).mono ?_
  rintro e w2 ⟨sa, hsa, hea, rfl, hB, g⟩
  replace hg := hg.trans g
  replace hT := hT.up g
  replace h_x0 := h_x0.up g
  clear g
  obtain ⟨a, hae⟩ : ∃ a, a = padF (redL x0) (2 ^ sa) := ⟨_, rfl⟩
  have la : a.length = 2 ^ sa := by rw [hae, padF_length]
  rw [← hae] at hB
  clear hae
  have pa : 2 ^ sa ≤ 1024 := Nat.le_trans (Nat.pow_le_pow_right (n := 2) (by omega) (show sa ≤ 10 by omega)) (by decide)
  have pa0 : 0 < 2 ^ sa := Nat.pow_pos (by omega)
  have ha := hB.sf (by rw [la]; omega)
  rw [la] at ha
  replace hea := Lib.hid hea
  clear hB
  generalize w1.heap.size = ba at *
  obtain ⟨b, Eb, lb, _, Vb⟩ := fwd_ok la (by omega)
  have lr : (rotF a (2 ^ sa)).length = 2 ^ sa := rotF_length la (by omega)
  obtain ⟨c, Ec, lc, _, Vc⟩ := fwd_ok lr (by omega)
  have hV : ∀ i, i < 2 ^ sa → ∃ x, b[i]? = some x ∧ c[i]? = some (x * pw (root sa) i) := by
    intro i hi
    refine ⟨_, by rw [Vb]; exact get_valP hi, ?_⟩
    rw [Vc, get_valP hi, ev_rotF la (by omega) (root_full sa (by omega))]
  have hK := x_log_pow sa (by omega)
  have hRt := r_rootN sa (by omega)
  generalize root sa = u at *
  obtain ⟨n1, hn1⟩ : ∃ n1, n1 = 2 ^ sa - 1 := ⟨_, rfl⟩
  obtain ⟨t, ht⟩ : ∃ t, t = rotF a (2 ^ sa) := ⟨_, rfl⟩
  rw [← ht] at lr Ec
  have ht2 : t = [co a n1] ++ a.take n1 := by rw [ht, hn1]; rfl
  clear ht
  generalize 2 ^ sa = n at *
  have hn2 : (n : Int) - 1 = (n1 : Int) := by omega
  have hn3 : n1 < n := by omega
  have hn4 : n = n1 + 1 := by omega
  have hn5 : ((n1 : Int)).toNat = n1 := by omega
  have hs := fun w => slice_h (A := some ⟨ba, 0, none⟩) (n := n) (c := n) (h := n1) (by omega) w
  replace Eb := Lib.hid Eb; replace Ec := Lib.hid Ec; replace la := Lib.hid la; replace lb := Lib.hid lb; replace lc := Lib.hid lc; replace lr := Lib.hid lr; replace ht2 := Lib.hid ht2; replace hn4 := Lib.hid hn4; replace hV := Lib.hid hV
  clear Vb Vc hn1
  have HA := ha
  obtain ⟨b0, o0, x, E0, hx, p0, q0⟩ := HA.at_ hn3
  cases E0
  rw [Nat.zero_add] at q0
  have hx2 := Lib.hid (coF_at hx)
  clear hx
  have hz : (w2.alloc (.cells #[] 34)).heap.size = w2.heap.size + 1 := by simp
  have hS1 := (BF.one (w := w2.alloc (.cells #[] 34)) x).sf (by simp)
  rw [hz] at hS1
  clear hz
  go_wp2_with (first
    | (at_builtin; refine wpList_appF (.tmp 20) (.tmp 27) rfl ((OF.empty w2 (Nat.le_refl _)).up (Gn.al _)) (by first | (simp; done) | (simp; omega)) rfl hS1 (by simp) ?_; intro v1 w8 ho8 hg8; have hg9 := grown_gnF ((Gn.al (w := w2) (.cells #[] 34)).trans (Gn.al _)) ((OF.empty w2 (Nat.le_refl _)).up (Gn.al _)) (Nat.le_refl _) hg8; have hS2 := (ha.up hg9).take (k := n1) (by omega); clear hg8)
    | (at_builtin; refine wpList_appF (.tmp 29) (.tmp 34) rfl ho8 hg9.size rfl hS2 (by simp; omega) ?_; intro v2 w9 ho9 hg8; have hgA := grown_gnF hg9 ho8 (Nat.le_refl _) hg8; clear hg8))
  have ht3 : ([] : List F) ++ [x] ++ a.take n1 = t := by rw [ht2.out, hx2.out]; rfl
  rw [ht3] at ho9
  obtain ⟨At, ct, rfl, ht⟩ := ho9.sf
  rw [lr.out] at ht
  clear ht3 ho8 ho9 hg9 hS1 hS2 hn5 hs
  replace hg := hg.trans hgA
  replace hT := hT.up hgA
  replace h_x0 := h_x0.up hgA
  replace ha := ha.up hgA
  clear hgA
  try rw [lr.out]
  refine (n_forward _ _ _ _ _ hT ha (by omega)).mono ?_
  rintro e w3 hR
  rw [Eb.out] at hR
  obtain ⟨Ahb, chb, rfl, hb, g⟩ := hR.get lb.out
  replace hg := hg.trans g
  replace hT := hT.up g
  replace h_x0 := h_x0.up g
  replace ha := ha.up g
  replace ht := ht.up g
  clear g
  go_wp2_with fail
  skip
  try rw [lr.out]
  refine (n_forward _ _ _ _ _ hT ht (by omega)).mono ?_
  rintro e w4 hR
  rw [Ec.out] at hR
  obtain ⟨Ahc, chc, rfl, hc, g⟩ := hR.get lc.out
  replace hg := hg.trans g
  replace hT := hT.up g
  replace h_x0 := h_x0.up g
  replace ha := ha.up g
  replace ht := ht.up g
  replace hb := hb.up g
  clear g
  go_wp2_with fail
  skip
  refine (hK _).mono ?_
  rintro e w5 ⟨rfl, g⟩
  replace hg := hg.trans g
  replace hT := hT.up g
  replace h_x0 := h_x0.up g
  replace ha := ha.up g
  replace ht := ht.up g
  replace hb := hb.up g
  replace hc := hc.up g
  clear g
  go_wp2_with fail
  skip
  refine (hRt _).mono ?_
  rintro e w6 ⟨rfl, rfl⟩
  go_wp2_with fail
  skip
  go_loopw [14, 15] (fun z v wr => ∃ i : Nat, i ≤ n ∧ v = .int .i64 i ∧ z = .int .u64 (Zm.i (pw u i)) ∧ Gn w5 wr) (fun _ v _ => n - (intOf v).toNat)
  case atStart => exact ⟨0, by omega, rfl, rfl, Gn.refl _⟩
  case round =>
    obtain ⟨i, hi, rfl, rfl, hr⟩ := hrel
    have hpw := Lib.hid (pw_succ u i)
    by_cases h1 : i < n
    · replace hb := hb.up hr; replace hc := hc.up hr
      obtain ⟨y, hy1, hy2⟩ := hV.out i h1
      generalize pw u i = z at *
      obtain ⟨b1, o1, y', E1, h1', p1, q1⟩ := hb.at_ h1
      first | cases E1 | (subst E1)
      try rw [Nat.zero_add] at q1
      obtain rfl := Option.some.inj (h1'.symm.trans hy1)
      obtain ⟨b2, o2, z', E2, h2', p2, q2⟩ := hc.at_ h1
      first | cases E2 | (subst E2)
      try rw [Nat.zero_add] at q2
      obtain rfl := Option.some.inj (h2'.symm.trans hy2)
      clear hy1 hy2 h1' h2' hg
      go_wp2_with fail
      skip
      try simp only [List.append_eq, List.cons_append, List.nil_append]
      refine wp_region_gr (by kernel_rfl) (lex_of_chk (by kernel_rfl) (by kernel_rfl)) ?_
      repeat (go_big_quiet_step ((first | (go_at_call 24; with_reducible apply qa (r_reduceF _ _); rfl) | (go_at_call 26; with_reducible apply qa (r_mulF _ _ _); rfl))))
      refine wpQuiet_nil ?_
      intro wq gd
      replace hr := hr.trans gd
      clear gd p1 q1 p2 q2
      go_wp2_with fail
      skip
      refine (r_mulF z u _).mono ?_
      rintro e w7 ⟨rfl, rfl⟩
      go_wp2_with fail
      skip
      exact ⟨⟨i + 1, by omega, by go_num, by rw [hpw.out], hr⟩, by simp [intOf]; omega⟩
    · obtain rfl : i = n := by omega
      go_wp2_with fail
      go_ret
      exact ⟨rfl, hg.trans hr⟩

set_option linter.unusedVariables false in
set_option maxRecDepth 100000 in
set_option maxHeartbeats 1000000 in
theorem lifted (os : Os) (started : os.Started) (H : Type) (enc : TypeId × Value → H) :
    ReturnsInHanded {} Tryd.checked os 6 .any (fun w args => (Rows.nttRotationSpec.pre enc Tryd.prog Tryd.f6 [] false w args ∧ laidMetH Tryd.prog laid2 w) ∧ sizedMet enc Tryd.prog Tryd.f6 (OpenSpec.ofChange Rows.nttRotationSpec) false w args)
      (Rows.nttRotationSpec.post enc Tryd.prog Tryd.f6 false true false false) := by
  refine returnsInHanded_of_change_and (C := Tryd.checked) (X := fun w _ => laidMetH Tryd.prog laid2 w) (fun _ _ _ hh h => h.of_heap hh) own started (by kernel_rfl) Tryd.func6
    (ChangeSpec.witness_shaped (enc := enc) (C := Tryd.checked) (os := os) (X := fun w _ => laidMetH Tryd.prog laid2 w) false (World.doorLaid Tryd.prog 400 os) #[.slice none 0 0, .int .u8 0] 8 rfl (World.shaped_of_RefB (by kernel_rfl) (by kernel_rfl)) (by kernel_rfl) (by kernel_rfl) (by kernel_rfl) (door_met os _)) ?_
  intro W base args ds gs before hval0 hW _ _ hL _
  have hval : ∀ (j : Nat) t v, Tryd.f6.params[j]? = some t → args[j]? = some v → Value.okWide Tryd.prog W .any base t v := hval0
  have hW' : DataW.Whole enc Tryd.prog Tryd.f6.params.toList Rows.nttRotationSpec.vars false W args.toList ds gs before := hW
  obtain ⟨p, q, hA0, hV, rfl, hfz, hnd⟩ := hW
  have hA : DataW.TrodAll enc Tryd.prog W 0 (fun _ => true) true Tryd.f6.params.toList args.toList ds p := hA0
  rw [Tryd.params6] at hA hval
  obtain ⟨v0, vs0, d0, ds0, p0, q0, hargs, rfl, rfl, h0, r0⟩ := trodAll_cons hA
  obtain ⟨v1, vs1, d1, ds1, p1, q1, rfl, rfl, rfl, h1, r1⟩ := trodAll_cons r0
  obtain ⟨rfl, rfl, rfl⟩ := trodAll_nil r1
  obtain rfl : args = #[v0, v1] := by cases args; simp_all
  obtain ⟨rfl, rfl⟩ := trodVars_none hV
  obtain ⟨a0, len0, cap0, rfl⟩ := okWide_slice Tryd.underlying22 (hval 0 22 v0 rfl rfl)
  obtain ⟨x0, hz0⟩ := openU64s h0
  obtain ⟨x1, rfl, hz1⟩ := int_open Tryd.underlying5 (hval 1 5 v1 rfl rfl)
  refine (walk W a0 len0 cap0 x0 x1 (tab_of_laid hL) hz0 (by have := has_u8 hz1; omega) (by have := has_u8 hz1; omega)).mono fun e W' ⟨he, bel⟩ => ?_
  subst he
  exact ⟨_, rfl, law_post laidOut hW' rfl (by kernel_rfl) rfl Tryd.underlying4 rfl bel⟩

theorem row_proved : Rows.NttRotationSaid :=
  OpenClaim.holds_of_wide 6 Tryd.f6 rfl rfl rfl rfl rfl rfl rfl ⟨rfl, rfl, rfl, rfl, rfl⟩ rfl rfl rfl rfl rfl (by kernel_rfl) Tryd.func6 (by kernel_rfl)
    (of_decide_eq_true (by kernel_rfl)) (by unfold Func.isWrapper; first | (rw [if_pos (by decide +kernel)]; kernel_rfl) | (rw [if_neg (by decide +kernel)]; exact ⟨rfl, rfl⟩))
    (fun os started H enc _ => lifted os started H enc)

/-- the card: the row's listed variables are tied to the program's text -/
theorem proved : Rows.NttRotationCardSaid :=
  Claim7.holds_tied_plain_at .later [] [.data, .data] true Rows.nttRotationCard.stood.harness false
    row_proved (fun _ h => by cases h) (by kernel_rfl) (fun _ h => by cases h) nttRotation_row_tie rfl ⟨rfl, rfl⟩ (by kernel_rfl) rfl
    (fun f fn hf hfn => by
      obtain rfl : f = 6 := (Option.some.inj ((show Tryd.prog.funcNamed Rows.nttRotationRow.func = some 6 by kernel_rfl).symm.trans hf)).symm
      obtain rfl : fn = Tryd.f6 := (Option.some.inj (Tryd.func6.symm.trans hfn)).symm
      exact ⟨by kernel_rfl, fun j t ht => by
        rw [Tryd.params6] at ht
        have hall : ([22, 5].all fun t => !Tryd.prog.wantsStandIn t) = true := by kernel_rfl
        have hm := List.mem_of_getElem? (show [22, 5][j]? = some t by simpa using ht)
        have := List.all_eq_true.1 hall t hm
        exact (show Tryd.prog.wantsStandIn t = false by simpa using this)⟩)
    (by kernel_rfl)
end Go.Proofs.YtjgdbfhpjjmjkaaDoor.lawNttRotation
