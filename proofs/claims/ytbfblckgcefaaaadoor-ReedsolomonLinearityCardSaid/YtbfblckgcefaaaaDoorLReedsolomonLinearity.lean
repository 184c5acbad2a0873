/- ReedsolomonLinearity: for every two rows of numbers, every factor and every number of 8 bits the law on the codeword of a sum returns true; no conditions. -/
import Derived.Test.YtbfblckgcefaaaaDoorFrd
import Derived.Test.YtbfblckgcefaaaaDoorRt
import Derived.Test.YtbfblckgcefaaaaDoorOpF
import Derived.Test.YtbfblckgcefaaaaDoorOpE
import Derived.Test.YtbfblckgcefaaaaDoorOp
namespace Go.Proofs.YtbfblckgcefaaaaDoor.lawReedsolomonLinearity
open Go.ChangeShapes Go.WideShapes Go.ChangeAt Go.RowKit Att Att.CRing

set_option maxRecDepth 100000 in
set_option maxHeartbeats 4000000 in
theorem walk (w : World) (a0 : Option Addr) (len0 cap0 : Nat) (x0 : List Int) (a1 : Option Addr) (len1 cap1 : Nat) (x1 : List Int) (x2 : Int) (x3 : Int) (hT : Tab w) (h_x0 : SW w a0 len0 cap0 x0) (h_x1 : SW w a1 len1 cap1 x1) (h_x2 : In64 x2) (l_x3 : 0 ≤ x3) (u_x3 : x3 ≤ 255) :
    Calls Tryd.prog 3 #[.slice a0 len0 cap0, .slice a1 len1 cap1, .int .u64 x2, .int .u8 x3] w fun e w' => e = .returned (.bool true) ∧ Below w.heap.size w w' := by
  obtain ⟨m, m1, m3, hm, hBl⟩ := y_blowup x3 l_x3 u_x3
  obtain ⟨s, hs⟩ : ∃ s : Nat, (s : Int) = x3 / 16 % 5 := ⟨(x3 / 16 % 5).toNat, Int.toNat_of_nonneg (by omega)⟩
  have hs4 : s ≤ 4 := by omega
  have hst : Int.tmod (x3 / 16) 5 = (s : Int) := by rw [hs]; exact Int.tmod_eq_emod_of_nonneg (by omega)
  replace hm := Lib.hid hm; replace hs := Lib.hid hs
  have ham : s + m ≤ 16 := by omega
  have hx : Dif (pw (root (s + m))) (2 ^ (s + m)) := (root_prim (s + m) (by omega)).dif
  have hle : 2 ^ s ≤ 2 ^ (s + m) := Nat.pow_le_pow_right (by omega) (by omega)
  have hN : 2 ^ (s + m) ≤ 128 := Nat.le_trans (Nat.pow_le_pow_right (n := 2) (by omega) (show s + m ≤ 7 by omega)) (by decide)
  have hB8 : 2 ^ m ≤ 8 := Nat.le_trans (Nat.pow_le_pow_right (n := 2) (by omega) m3) (by decide)
  have hK0 : 0 < 2 ^ s := Nat.two_pow_pos s
  have hB0 : 0 < 2 ^ m := Nat.two_pow_pos m
  have hmul := two_mul_pow s m
  have hc2 := cast_pow s
  have hEnc : ∀ p : List F, p.length = 2 ^ s → encOf p ((2 ^ m : Nat) : Int) = (valP p (root (s + m)) (2 ^ (s + m)), 0) := fun p hp => by rw [← cast_pow]; exact encOf_pow hp m1 (by omega) ham
  have hDec := fun A c l w hT hl => s_decode A c l s m w hT m1 (by omega) ham hl
  have hIs := fun A c l w hT hl => s_is A c l s m w hT m1 (by omega) ham hl
  have hMd := s_minDistance (2 ^ s) (2 ^ m) (2 ^ (s + m)) hmul hle (by omega)
  have hMd' := y_minDistance (2 ^ s) (2 ^ m) (2 ^ (s + m)) hmul hle (by omega)
  have hsh := y_shift m m1 (by omega)
  have hMade := fun A n c l w hl => y_made A n c l s w hl (by omega)
  generalize hue : root (s + m) = u at *
  generalize hNe : 2 ^ (s + m) = N at *
  generalize hBe : 2 ^ m = B at *
  generalize hKe : 2 ^ s = K at *
  have hw1 : IntKind.i64.wrap (K : Int) = (K : Int) := IntWalk.i64_in _ (by omega)
  have hw2 : IntKind.i64.wrap (N : Int) = (N : Int) := IntWalk.i64_in _ (by omega)
  have hBs : (B : Int) * (2 : Int) ^ s = (N : Int) := by rw [hc2]; exact hmul
  obtain ⟨lim, hlim⟩ : ∃ lim, lim = (N - K) / 2 := ⟨_, rfl⟩
  have hl1 : 2 * lim ≤ N - K := by omega
  have hl2 : N - K ≤ 2 * lim + 1 := by omega
  have ht2 : Int.tdiv (((N - K + 1 : Nat) : Int) - 1) 2 = (lim : Int) := by rw [Int.tdiv_eq_ediv_of_nonneg (by omega)]; omega
  have ht3 : (((N - K + 1 : Nat) : Int) - 1) / 2 = (lim : Int) := by omega
  have ht5 : ((N - K : Nat) : Int) / 2 = (lim : Int) := by omega
  have ht6 : Int.tdiv ((N - K : Nat) : Int) 2 = (lim : Int) := by rw [Int.tdiv_eq_ediv_of_nonneg (by omega)]; omega
  clear hlim
  have ht4 : ((N - K + 1 : Nat) : Int) - 1 = ((N - K : Nat) : Int) := by omega
  replace hx := Lib.hid hx; replace hEnc := Lib.hid hEnc; replace hue := Lib.hid hue; replace hNe := Lib.hid hNe; replace hBe := Lib.hid hBe; replace hKe := Lib.hid hKe
  have HT2 := Lib.hid ht2; have HT3 := Lib.hid ht3; have HT5 := Lib.hid ht5; have HT6 := Lib.hid ht6; have HT4 := Lib.hid ht4; have HBS := Lib.hid hBs; have HC2 := Lib.hid hc2; have HMU := Lib.hid hmul
  clear ht2 ht3 ht5 ht6 ht4 hBs hc2 hmul
  obtain ⟨f, hf⟩ : ∃ f : F, int x2 = f := ⟨_, rfl⟩
  replace hf := Lib.hid hf
  have hRf := r_reduce x2
  rw [hf.out] at hRf
  refine Calls.mono (R := fun e w' => e = .returned (.bool true) ∧ Gn w w') ?_ (fun e w' h => ⟨h.1, h.2.below⟩)
  go_enter Tryd.func3, Tryd.ntmps3
  go_wp2_with fail
  have hg : Gn w w := Gn.refl w
  refine (o_sanity9 _ hT).mono ?_
  rintro e w1 ⟨rfl, g⟩
  replace hg := hg.trans g
  replace hT := hT.up g
  replace h_x0 := h_x0.up g
  replace h_x1 := h_x1.up g
  clear g
  go_wp2_with fail
  skip
  refine (hMade a0 len0 cap0 x0 _ h_x0).mono ?_
  rintro e w2 ⟨vv, rfl, ho, g⟩
  replace hg := hg.trans g
  replace hT := hT.up g
  replace h_x0 := h_x0.up g
  replace h_x1 := h_x1.up g
  clear g
  obtain ⟨Ap, cp, rfl, hp⟩ := ho.sf
  clear ho
  rw [padF_length] at hp
  obtain ⟨p, hpe⟩ : ∃ p, p = padF (redL x0) K := ⟨_, rfl⟩
  have lp : p.length = K := by rw [hpe, padF_length]
  rw [← hpe] at hp
  try rw [padF_length]
  clear hpe
  replace lp := Lib.hid lp
  go_wp2_with fail
  skip
  refine (hMade a1 len1 cap1 x1 _ h_x1).mono ?_
  rintro e w3 ⟨vv, rfl, ho, g⟩
  replace hg := hg.trans g
  replace hT := hT.up g
  replace h_x0 := h_x0.up g
  replace h_x1 := h_x1.up g
  replace hp := hp.up g
  clear g
  obtain ⟨Aq, cq, rfl, hq⟩ := ho.sf
  clear ho
  rw [padF_length] at hq
  obtain ⟨q, hqe⟩ : ∃ q, q = padF (redL x1) K := ⟨_, rfl⟩
  have lq : q.length = K := by rw [hqe, padF_length]
  rw [← hqe] at hq
  try rw [padF_length]
  clear hqe
  replace lq := Lib.hid lq
  go_wp2_with fail
  skip
  refine (hRf _).mono ?_
  rintro e w4 ⟨rfl, rfl⟩
  go_wp2_with fail
  skip
  obtain ⟨t, ht⟩ : ∃ t, t = tab K fun i => f * co p i + co q i := ⟨_, rfl⟩
  have lt : t.length = K := by rw [ht, tab_length]
  have hV : ∀ i, i < N → ev t (pw u i) = f * ev p (pw u i) + ev q (pw u i) := fun i _ => ev_lin lp.out lq.out f ht _
  replace ht := Lib.hid ht; replace lt := Lib.hid lt; replace hV := Lib.hid hV
  go_loopw [14, 15] (fun v i wr => ∃ k : Nat, k ≤ K ∧ i = .int .i64 k ∧ OF wr w3.heap.size v (tab k fun i => f * co p i + co q i) ∧ Gn w3 wr) (fun _ i _ => K - (intOf i).toNat)
  case atStart => exact ⟨0, by omega, rfl, OF.empty w3 (Nat.le_refl _), Gn.al _⟩
  case round =>
    obtain ⟨k, hk, rfl, ho, hr⟩ := hrel
    by_cases h1 : k < K
    · replace hp := hp.up hr; replace hq := hq.up hr
      obtain ⟨b1, o1, x, E1, h1', p1, q1⟩ := hp.at_ h1
      first | cases E1 | (subst E1)
      try rw [Nat.zero_add] at q1
      obtain ⟨b2, o2, y, E2, h2', p2, q2⟩ := hq.at_ h1
      first | cases E2 | (subst E2)
      try rw [Nat.zero_add] at q2
      have hst := Lib.hid (tab_succ k fun i => f * co p i + co q i)
      rw [coF_get h1', coF_get h2'] at hst
      have lk2 : (tab k fun i => f * co p i + co q i).length ≤ 1024 := by rw [tab_length]; omega
      clear h1' h2' hg hT
      generalize (tab k fun i => f * co p i + co q i) = T at *
      go_wp2_with fail
      try simp only [List.append_eq, List.cons_append, List.nil_append]
      refine Fk.wp_region_flow 13 (by kernel_rfl) (by kernel_rfl) ?_
      refine Fk.flow_one rfl (freeB_spec (by kernel_rfl)) ?_
      go_big_quiet_step (fail)
      refine wpQuiet_nil ?_
      refine Fk.flow_one rfl (freeB_spec (by kernel_rfl)) ?_
      go_big_quiet_step (fail)
      refine wpQuiet_nil ?_
      refine Fk.flow_one rfl (freeB_spec (by kernel_rfl)) ?_
      go_big_quiet_step (fail)
      refine wpQuiet_nil ?_
      refine Fk.flow_one rfl (freeB_spec (by kernel_rfl)) ?_
      go_big_quiet_step (fail)
      refine wpQuiet_nil ?_
      refine Fk.flow_one rfl (freeB_spec (by kernel_rfl)) ?_
      go_big_quiet_step (fail)
      refine wpQuiet_nil ?_
      refine Fk.flow_one rfl (freeB_spec (by kernel_rfl)) ?_
      go_big_quiet_step (fail)
      refine wpQuiet_nil ?_
      apply Fk.flow_is
      · exact freeB_spec (by kernel_rfl)
      · intro g K hK
        go_wp2_with fail
        refine (r_mulF f x _).mono ?_
        rintro e w' ⟨rfl, rfl⟩
        go_wp2_with fail
        exact hK _ (Up.refl _)
      · rfl
      conv => arg 8; simp only [Act.put, List.setIfInBounds_toArray, List.set_cons_succ, List.set_cons_zero]
      refine Fk.flow_one rfl (freeB_spec (by kernel_rfl)) ?_
      go_big_quiet_step (fail)
      refine wpQuiet_nil ?_
      refine Fk.flow_one rfl (freeB_spec (by kernel_rfl)) ?_
      go_big_quiet_step (fail)
      refine wpQuiet_nil ?_
      refine Fk.flow_one rfl (freeB_spec (by kernel_rfl)) ?_
      go_big_quiet_step (fail)
      refine wpQuiet_nil ?_
      refine Fk.flow_one rfl (freeB_spec (by kernel_rfl)) ?_
      go_big_quiet_step (fail)
      refine wpQuiet_nil ?_
      apply Fk.flow_is
      · exact freeB_spec (by kernel_rfl)
      · intro g K hK
        go_wp2_with fail
        refine (r_addF (f * x) y _).mono ?_
        rintro e w' ⟨rfl, rfl⟩
        go_wp2_with fail
        exact hK _ (Up.refl _)
      · rfl
      conv => arg 8; simp only [Act.put, List.setIfInBounds_toArray, List.set_cons_succ, List.set_cons_zero]
      refine flow_exS _ rfl (ex_row1 (arg_v (by kernel_rfl) rfl) rfl (want_fill (by kernel_rfl) (by kernel_rfl))) ?_
      intro V N' X hΓ hdis g hX
      obtain ⟨Az, cz, vz, hz⟩ := end_fv hΓ hX 55 0 rfl
      clear hΓ hdis hX
      have hgn : Gn wr (gr wr g) := ⟨g, rfl⟩
      generalize gr wr g = w91 at *
      replace hr := hr.trans hgn
      replace ho := ho.up hgn
      conv => arg 5; simp only [fill, Act.put, List.setIfInBounds_toArray, List.set_cons_succ, List.set_cons_zero, vz]
      clear vz
      refine wpList_appF (.tmp 43) (.tmp 55) rfl ho hr.size rfl hz (by simp; omega) ?_
      intro v4 w4 ho4 hg4
      have hg5 := grown_gnF hr ho (Nat.le_refl _) hg4
      clear hg4 p1 q1 p2 q2
      go_wp2_with fail
      exact ⟨⟨k + 1, by omega, by go_num, by rw [hst.out]; exact ho4, hg5⟩, by simp [intOf]; omega⟩
    · obtain rfl : k = K := by omega
      rw [← ht.out] at ho
      obtain ⟨At, ct, rfl, ht'⟩ := ho.sf
      rw [lt.out] at ht'
      try rw [lt.out]
      clear ho
      replace hg := hg.trans hr
      replace hT := hT.up hr
      replace hp := hp.up hr
      replace hq := hq.up hr
      go_wp2_with fail
      skip
      have Ec := hEnc.out p lp.out
      obtain ⟨c, hce⟩ : ∃ c, c = valP p u N := ⟨_, rfl⟩
      have lc : c.length = N := by rw [hce, valP_length]
      rw [← hce] at Ec
      replace Ec := Lib.hid Ec; replace lc := Lib.hid lc; replace hce := Lib.hid hce
      refine (hBl _).mono ?_
      rintro e w31 ⟨rfl, rfl⟩
      go_wp2_with fail
      skip
      refine (s_encode _ _ _ _ _ _ hT hp (by omega) (by omega)).mono ?_
      rintro e w32 hR
      rw [Ec.out] at hR
      obtain ⟨Ahc, chc, rfl, hc, g⟩ := hR.get lc.out
      replace hg := hg.trans g
      replace hT := hT.up g
      replace hp := hp.up g
      replace hq := hq.up g
      replace ht' := ht'.up g
      clear g
      go_wp2_with fail
      skip
      have Ed := hEnc.out q lq.out
      obtain ⟨d, hde⟩ : ∃ d, d = valP q u N := ⟨_, rfl⟩
      have ld : d.length = N := by rw [hde, valP_length]
      rw [← hde] at Ed
      replace Ed := Lib.hid Ed; replace ld := Lib.hid ld; replace hde := Lib.hid hde
      refine (hBl _).mono ?_
      rintro e w33 ⟨rfl, rfl⟩
      go_wp2_with fail
      skip
      refine (s_encode _ _ _ _ _ _ hT hq (by omega) (by omega)).mono ?_
      rintro e w34 hR
      rw [Ed.out] at hR
      obtain ⟨Ahd, chd, rfl, hd, g⟩ := hR.get ld.out
      replace hg := hg.trans g
      replace hT := hT.up g
      replace hp := hp.up g
      replace hq := hq.up g
      replace ht' := ht'.up g
      replace hc := hc.up g
      clear g
      go_wp2_with fail
      skip
      have hBs := HBS.out
      have Ee := hEnc.out t lt.out
      obtain ⟨e, hee⟩ : ∃ e, e = valP t u N := ⟨_, rfl⟩
      have le : e.length = N := by rw [hee, valP_length]
      rw [← hee] at Ee
      replace Ee := Lib.hid Ee; replace le := Lib.hid le; replace hee := Lib.hid hee
      refine (hBl _).mono ?_
      rintro e w35 ⟨rfl, rfl⟩
      go_wp2_with fail
      skip
      refine (s_encode _ _ _ _ _ _ hT ht' (by omega) (by omega)).mono ?_
      rintro e w36 hR
      rw [Ee.out] at hR
      obtain ⟨Ahe, che, rfl, he, g⟩ := hR.get le.out
      replace hg := hg.trans g
      replace hT := hT.up g
      replace hp := hp.up g
      replace hq := hq.up g
      replace ht' := ht'.up g
      replace hc := hc.up g
      replace hd := hd.up g
      clear g
      go_wp2_with fail
      skip
      refine (hBl _).mono ?_
      rintro e w37 ⟨rfl, rfl⟩
      go_wp2_with fail
      skip
      have hVV : ∀ i, i < N → ∃ x y, c[i]? = some x ∧ d[i]? = some y ∧ e[i]? = some (f * x + y) := fun i hi =>
        ⟨_, _, by rw [hce.out]; exact get_valP hi, by rw [hde.out]; exact get_valP hi, by rw [hee.out, get_valP hi, hV.out i hi]⟩
      replace hVV := Lib.hid hVV
      go_loopw [22] (fun v wr => ∃ i : Nat, i ≤ N ∧ v = .int .i64 i ∧ Gn w36 wr) (fun v _ => N - (intOf v).toNat)
      case atStart => exact ⟨0, by omega, rfl, Gn.refl _⟩
      case round =>
        obtain ⟨i, hi, rfl, hr2⟩ := hrel
        by_cases h1 : i < N
        · replace hc := hc.up hr2; replace hd := hd.up hr2; replace he := he.up hr2
          obtain ⟨x, y, hx1, hy1, hz1⟩ := hVV.out i h1
          obtain ⟨b1, o1, x', E1, h1', p1, q1⟩ := hc.at_ h1
          first | cases E1 | (subst E1)
          try rw [Nat.zero_add] at q1
          obtain rfl := Option.some.inj (h1'.symm.trans hx1)
          obtain ⟨b2, o2, y', E2, h2', p2, q2⟩ := hd.at_ h1
          first | cases E2 | (subst E2)
          try rw [Nat.zero_add] at q2
          obtain rfl := Option.some.inj (h2'.symm.trans hy1)
          obtain ⟨b3, o3, z', E3, h3', p3, q3⟩ := he.at_ h1
          first | cases E3 | (subst E3)
          try rw [Nat.zero_add] at q3
          obtain rfl := Option.some.inj (h3'.symm.trans hz1)
          clear hx1 hy1 hz1 h1' h2' h3' hg
          go_wp2_with fail
          try simp only [List.append_eq, List.cons_append, List.nil_append]
          refine wp_region_gr (by kernel_rfl) (lex_of_chk (by kernel_rfl) (by kernel_rfl)) ?_
          repeat (go_big_quiet_step ((first | (go_at_call 13; with_reducible apply qa (r_mulF _ _ _); rfl) | (go_at_call 12; with_reducible apply qa (r_addF _ _ _); rfl))))
          refine wpQuiet_nil ?_
          intro wq gd
          replace hr2 := hr2.trans gd
          clear gd p1 q1 p2 q2 p3 q3
          go_wp2_with fail
          exact ⟨⟨i + 1, by omega, by go_num, hr2⟩, by simp [intOf]; omega⟩
        · obtain rfl : i = N := by omega
          go_wp2_with fail
          go_ret
          exact ⟨rfl, hg.trans hr2⟩

set_option linter.unusedVariables false in
set_option maxRecDepth 100000 in
set_option maxHeartbeats 1000000 in
theorem lifted (os : Os) (started : os.Started) (H : Type) (enc : TypeId × Value → H) :
    ReturnsInHanded {} Tryd.checked os 3 .any (fun w args => (Rows.reedsolomonLinearitySpec.pre enc Tryd.prog Tryd.f3 [] false w args ∧ laidMetH Tryd.prog laid2 w) ∧ sizedMet enc Tryd.prog Tryd.f3 (OpenSpec.ofChange Rows.reedsolomonLinearitySpec) false w args)
      (Rows.reedsolomonLinearitySpec.post enc Tryd.prog Tryd.f3 false true false false) := by
  refine returnsInHanded_of_change_and (C := Tryd.checked) (X := fun w _ => laidMetH Tryd.prog laid2 w) (fun _ _ _ hh h => h.of_heap hh) own started (by kernel_rfl) Tryd.func3
    (ChangeSpec.witness_shaped (enc := enc) (C := Tryd.checked) (os := os) (X := fun w _ => laidMetH Tryd.prog laid2 w) false (World.doorLaid Tryd.prog 400 os) #[.slice none 0 0, .slice none 0 0, .int .u64 0, .int .u8 0] 8 rfl (World.shaped_of_RefB (by kernel_rfl) (by kernel_rfl)) (by kernel_rfl) (by kernel_rfl) (by kernel_rfl) (door_met os _)) ?_
  intro W base args ds gs before hval0 hW _ _ hL _
  have hval : ∀ (j : Nat) t v, Tryd.f3.params[j]? = some t → args[j]? = some v → Value.okWide Tryd.prog W .any base t v := hval0
  have hW' : DataW.Whole enc Tryd.prog Tryd.f3.params.toList Rows.reedsolomonLinearitySpec.vars false W args.toList ds gs before := hW
  obtain ⟨p, q, hA0, hV, rfl, hfz, hnd⟩ := hW
  have hA : DataW.TrodAll enc Tryd.prog W 0 (fun _ => true) true Tryd.f3.params.toList args.toList ds p := hA0
  rw [Tryd.params3] at hA hval
  obtain ⟨v0, vs0, d0, ds0, p0, q0, hargs, rfl, rfl, h0, r0⟩ := trodAll_cons hA
  obtain ⟨v1, vs1, d1, ds1, p1, q1, rfl, rfl, rfl, h1, r1⟩ := trodAll_cons r0
  obtain ⟨v2, vs2, d2, ds2, p2, q2, rfl, rfl, rfl, h2, r2⟩ := trodAll_cons r1
  obtain ⟨v3, vs3, d3, ds3, p3, q3, rfl, rfl, rfl, h3, r3⟩ := trodAll_cons r2
  obtain ⟨rfl, rfl, rfl⟩ := trodAll_nil r3
  obtain rfl : args = #[v0, v1, v2, v3] := by cases args; simp_all
  obtain ⟨rfl, rfl⟩ := trodVars_none hV
  obtain ⟨a0, len0, cap0, rfl⟩ := okWide_slice Tryd.underlying22 (hval 0 22 v0 rfl rfl)
  obtain ⟨x0, hz0⟩ := openU64s h0
  obtain ⟨a1, len1, cap1, rfl⟩ := okWide_slice Tryd.underlying22 (hval 1 22 v1 rfl rfl)
  obtain ⟨x1, hz1⟩ := openU64s h1
  obtain ⟨x2, rfl, hz2⟩ := int_open Tryd.underlying23 (hval 2 23 v2 rfl rfl)
  obtain ⟨x3, rfl, hz3⟩ := int_open Tryd.underlying5 (hval 3 5 v3 rfl rfl)
  refine (walk W a0 len0 cap0 x0 a1 len1 cap1 x1 x2 x3 (tab_of_laid hL) hz0 hz1 ⟨(has_u64 hz2).1, (has_u64 hz2).2⟩ (by have := has_u8 hz3; omega) (by have := has_u8 hz3; omega)).mono fun e W' ⟨he, bel⟩ => ?_
  subst he
  exact ⟨_, rfl, law_post laidOut hW' rfl (by kernel_rfl) rfl Tryd.underlying4 rfl bel⟩

theorem row_proved : Rows.ReedsolomonLinearitySaid :=
  OpenClaim.holds_of_wide 3 Tryd.f3 rfl rfl rfl rfl rfl rfl rfl ⟨rfl, rfl, rfl, rfl, rfl⟩ rfl rfl rfl rfl rfl (by kernel_rfl) Tryd.func3 (by kernel_rfl)
    (of_decide_eq_true (by kernel_rfl)) (by unfold Func.isWrapper; first | (rw [if_pos (by decide +kernel)]; kernel_rfl) | (rw [if_neg (by decide +kernel)]; exact ⟨rfl, rfl⟩))
    (fun os started H enc _ => lifted os started H enc)

/-- the card: the row's listed variables are tied to the program's text -/
theorem proved : Rows.ReedsolomonLinearityCardSaid :=
  Claim7.holds_tied_plain_at .later [] [.data, .data] true Rows.reedsolomonLinearityCard.stood.harness false
    row_proved (fun _ h => by cases h) (by kernel_rfl) (fun _ h => by cases h) reedsolomonLinearity_row_tie rfl ⟨rfl, rfl⟩ (by kernel_rfl) rfl
    (fun f fn hf hfn => by
      obtain rfl : f = 3 := (Option.some.inj ((show Tryd.prog.funcNamed Rows.reedsolomonLinearityRow.func = some 3 by kernel_rfl).symm.trans hf)).symm
      obtain rfl : fn = Tryd.f3 := (Option.some.inj (Tryd.func3.symm.trans hfn)).symm
      exact ⟨by kernel_rfl, fun j t ht => by
        rw [Tryd.params3] at ht
        have hall : ([22, 22, 23, 5].all fun t => !Tryd.prog.wantsStandIn t) = true := by kernel_rfl
        have hm := List.mem_of_getElem? (show [22, 22, 23, 5][j]? = some t by simpa using ht)
        have := List.all_eq_true.1 hall t hm
        exact (show Tryd.prog.wantsStandIn t = false by simpa using this)⟩)
    (by kernel_rfl)
end Go.Proofs.YtbfblckgcefaaaaDoor.lawReedsolomonLinearity
