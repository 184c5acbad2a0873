/- ReedsolomonSymbols: for every row of elements, every number of 8 bits and every place the law on the symbols of a codeword returns true; no conditions. -/
import Derived.Test.YtbfblckgcefaaaaDoorFrd
import Derived.Test.YtbfblckgcefaaaaDoorRt
import Derived.Test.YtbfblckgcefaaaaDoorOpF
import Derived.Test.YtbfblckgcefaaaaDoorOpE
import Derived.Test.YtbfblckgcefaaaaDoorOp
namespace Go.Proofs.YtbfblckgcefaaaaDoor.lawReedsolomonSymbols
open Go.ChangeShapes Go.WideShapes Go.ChangeAt Go.RowKit Att Att.CRing

set_option maxRecDepth 100000 in
set_option maxHeartbeats 4000000 in
theorem walk (w : World) (a0 : Option Addr) (len0 cap0 : Nat) (x0 : List (Int × Int)) (x1 : Int) (x2 : Int) (hT : Tab w) (h_x0 : SlR w a0 len0 cap0 x0) (l_x1 : 0 ≤ x1) (u_x1 : x1 ≤ 255) (l_x2 : 0 ≤ x2) (u_x2 : x2 ≤ 255) :
    Calls Tryd.prog 8 #[.slice a0 len0 cap0, .int .u8 x1, .int .u8 x2] w fun e w' => e = .returned (.bool true) ∧ Below w.heap.size w w' := by
  obtain ⟨m, m1, m3, hm, hBl⟩ := y_blowup x1 l_x1 u_x1
  obtain ⟨s, hs⟩ : ∃ s : Nat, (s : Int) = x1 / 16 % 4 := ⟨(x1 / 16 % 4).toNat, Int.toNat_of_nonneg (by omega)⟩
  have hs4 : s ≤ 3 := by omega
  have hst : Int.tmod (x1 / 16) 4 = (s : Int) := by rw [hs]; exact Int.tmod_eq_emod_of_nonneg (by omega)
  replace hm := Lib.hid hm; replace hs := Lib.hid hs
  have hEncE : ∀ r : List Ext, r.length = 2 ^ s → encE r ((2 ^ m : Nat) : Int) = (zipE (valP (partA r) (root (s + m)) (2 ^ (s + m))) (valP (partB r) (root (s + m)) (2 ^ (s + m))), 0) := fun r hr => by
    unfold encE
    rw [if_pos ⟨s, m, m1, by omega, hr, (cast_pow m).symm, by omega⟩, ← cast_pow, encOf_pow (by rw [partA_length, hr]) m1 (by omega) (by omega), encOf_pow (by rw [partB_length, hr]) m1 (by omega) (by omega)]
  have hAt := fun A c l i w hl hi => s_at A (2 ^ s) c l s m i w hl m1 (by omega) rfl (by omega) hi
  have ham : s + m ≤ 16 := by omega
  have hx : Dif (pw (root (s + m))) (2 ^ (s + m)) := (root_prim (s + m) (by omega)).dif
  have hle : 2 ^ s ≤ 2 ^ (s + m) := Nat.pow_le_pow_right (by omega) (by omega)
  have hN : 2 ^ (s + m) ≤ 128 := Nat.le_trans (Nat.pow_le_pow_right (n := 2) (by omega) (show s + m ≤ 7 by omega)) (by decide)
  have hB8 : 2 ^ m ≤ 8 := Nat.le_trans (Nat.pow_le_pow_right (n := 2) (by omega) m3) (by decide)
  have hK0 : 0 < 2 ^ s := Nat.two_pow_pos s
  have hB0 : 0 < 2 ^ m := Nat.two_pow_pos m
  have hmul := two_mul_pow s m
  have hc2 := cast_pow s
  have hEnc : ∀ p : List F, p.length = 2 ^ s → encOf p ((2 ^ m : Nat) : Int) = (valP p (root (s + m)) (2 ^ (s + m)), 0) := fun p hp => by rw [← cast_pow]; exact encOf_pow hp m1 (by omega) ham
  have hDec := fun A c l w hT hl => s_decode A c l s m w hT m1 (by omega) ham hl
  have hIs := fun A c l w hT hl => s_is A c l s m w hT m1 (by omega) ham hl
  have hMd := s_minDistance (2 ^ s) (2 ^ m) (2 ^ (s + m)) hmul hle (by omega)
  have hMd' := y_minDistance (2 ^ s) (2 ^ m) (2 ^ (s + m)) hmul hle (by omega)
  have hsh := y_shift m m1 (by omega)
  have hMade := fun A n c l w hl => y_made A n c l s w hl (by omega)
  generalize hue : root (s + m) = u at *
  generalize hNe : 2 ^ (s + m) = N at *
  generalize hBe : 2 ^ m = B at *
  generalize hKe : 2 ^ s = K at *
  have hw1 : IntKind.i64.wrap (K : Int) = (K : Int) := IntWalk.i64_in _ (by omega)
  have hw2 : IntKind.i64.wrap (N : Int) = (N : Int) := IntWalk.i64_in _ (by omega)
  have hBs : (B : Int) * (2 : Int) ^ s = (N : Int) := by rw [hc2]; exact hmul
  obtain ⟨lim, hlim⟩ : ∃ lim, lim = (N - K) / 2 := ⟨_, rfl⟩
  have hl1 : 2 * lim ≤ N - K := by omega
  have hl2 : N - K ≤ 2 * lim + 1 := by omega
  have ht2 : Int.tdiv (((N - K + 1 : Nat) : Int) - 1) 2 = (lim : Int) := by rw [Int.tdiv_eq_ediv_of_nonneg (by omega)]; omega
  have ht3 : (((N - K + 1 : Nat) : Int) - 1) / 2 = (lim : Int) := by omega
  have ht5 : ((N - K : Nat) : Int) / 2 = (lim : Int) := by omega
  have ht6 : Int.tdiv ((N - K : Nat) : Int) 2 = (lim : Int) := by rw [Int.tdiv_eq_ediv_of_nonneg (by omega)]; omega
  clear hlim
  have ht4 : ((N - K + 1 : Nat) : Int) - 1 = ((N - K : Nat) : Int) := by omega
  replace hx := Lib.hid hx; replace hEnc := Lib.hid hEnc; replace hue := Lib.hid hue; replace hNe := Lib.hid hNe; replace hBe := Lib.hid hBe; replace hKe := Lib.hid hKe
  have HT2 := Lib.hid ht2; have HT3 := Lib.hid ht3; have HT5 := Lib.hid ht5; have HT6 := Lib.hid ht6; have HT4 := Lib.hid ht4; have HBS := Lib.hid hBs; have HC2 := Lib.hid hc2; have HMU := Lib.hid hmul
  clear ht2 ht3 ht5 ht6 ht4 hBs hc2 hmul
  have hx2n : ((x2.toNat : Nat) : Int) = x2 := Int.toNat_of_nonneg l_x2
  obtain ⟨j, hj⟩ : ∃ j, j = x2.toNat % N := ⟨_, rfl⟩
  have hj1 : j < N := by rw [hj]; exact Nat.mod_lt _ (by omega)
  have hj2 : x2 % (N : Int) = (j : Int) := by rw [hj, Int.natCast_emod, hx2n]
  have hj3 : Int.tmod x2 (N : Int) = (j : Int) := by rw [← hj2]; exact Int.tmod_eq_emod_of_nonneg l_x2
  have HJ2 := Lib.hid hj2; have HJ3 := Lib.hid hj3
  replace hEncE := Lib.hid hEncE
  clear hj hj2 hj3 hx2n
  refine Calls.mono (R := fun e w' => e = .returned (.bool true) ∧ Gn w w') ?_ (fun e w' h => ⟨h.1, h.2.below⟩)
  go_enter Tryd.func8, Tryd.ntmps8
  go_wp2_with fail
  have hg : Gn w w := Gn.refl w
  refine (o_sanity9 _ hT).mono ?_
  rintro e w1 ⟨rfl, g⟩
  replace hg := hg.trans g
  replace hT := hT.up g
  replace h_x0 := h_x0.up g
  clear g
  go_wp2_with fail
  skip
  refine (hBl _).mono ?_
  rintro e w2 ⟨rfl, rfl⟩
  have hc2 := HC2.out
  go_wp2_with fail
  skip
  refine (x_exactly a0 len0 cap0 x0 K _ h_x0 (by omega)).mono ?_
  rintro e w3 hR
  obtain ⟨Ar, nr, cr, rfl, hr, g⟩ := hR.sl
  clear hR hc2
  have lr : (((x0.take K).map mkP ++ List.replicate (K - ((x0.take K).map mkP).length) 0) : List Ext).length = K := by simp; omega
  obtain ⟨r, hre⟩ : ∃ r : List Ext, r = (x0.take K).map mkP ++ List.replicate (K - ((x0.take K).map mkP).length) 0 := ⟨_, rfl⟩
  rw [← hre] at hr lr
  clear hre
  obtain rfl : K = nr := by rw [← hr.len, lr]
  have lA : (partA r).length = K := by rw [partA_length, lr]
  have Ee := hEncE.out r lr
  have Ea := hEnc.out (partA r) lA
  obtain ⟨v, hv⟩ : ∃ v, v = ev r (Ext.base (pw u j)) := ⟨_, rfl⟩
  obtain ⟨a, hae⟩ : ∃ a, a = valP (partA r) u N := ⟨_, rfl⟩
  obtain ⟨z, hze⟩ : ∃ z, z = zipE (valP (partA r) u N) (valP (partB r) u N) := ⟨_, rfl⟩
  have la : a.length = N := by rw [hae, valP_length]
  have lz : z.length = N := by rw [hze, zipE_length, valP_length]
  have za : a[j]? = some v.a := by rw [hae, get_valP hj1, ev_partA, hv]
  have zz : z[j]? = some v := by rw [hze, zipE_get (get_valP hj1) (get_valP hj1), ev_partA, ev_partB, hv]
  rw [← hze] at Ee
  rw [← hae] at Ea
  have hAt2 := fun w h => hAt Ar cr r j w h hj1
  rw [← hv] at hAt2
  replace Ee := Lib.hid Ee; replace Ea := Lib.hid Ea; replace la := Lib.hid la; replace lz := Lib.hid lz; replace za := Lib.hid za; replace zz := Lib.hid zz; replace lr := Lib.hid lr; replace lA := Lib.hid lA
  clear hv hae hze hAt
  replace hg := hg.trans g
  replace hT := hT.up g
  replace h_x0 := h_x0.up g
  clear g
  clear h_x0
  go_wp2_with fail
  skip
  refine (s_encodeExt _ _ _ _ _ _ hT hr (by omega) (by omega)).mono ?_
  rintro e w4 hR
  rw [Ee.out] at hR
  obtain ⟨Az, cz, rfl, hz, g⟩ := hR.get lz.out
  clear hR
  replace hg := hg.trans g
  replace hT := hT.up g
  replace hr := hr.up g
  clear g
  have hj2 := HJ2.out; have hj3 := HJ3.out; have hBs := HBS.out
  go_wp2_with fail
  skip
  clear hj2 hj3 hBs
  refine (hAt2 _ hr).mono ?_
  rintro e w5 ⟨rfl, g⟩
  replace hg := hg.trans g
  replace hT := hT.up g
  replace hr := hr.up g
  replace hz := hz.up g
  clear g
  go_wp2_with fail
  skip
  have hsz : (w5.alloc (.cells #[.int .u64 (Zm.i (Ext.a v)), .int .u64 (Zm.i (Ext.b v))] 35)).heap.size = w5.heap.size + 1 := by simp
  have hbx := hnew w5 (.cells #[.int .u64 (Zm.i (Ext.a v)), .int .u64 (Zm.i (Ext.b v))] 35)
  replace hg := hg.trans (Gn.al (w := w5) (.cells #[.int .u64 (Zm.i (Ext.a v)), .int .u64 (Zm.i (Ext.b v))] 35))
  replace hT := hT.up (Gn.al (w := w5) (.cells #[.int .u64 (Zm.i (Ext.a v)), .int .u64 (Zm.i (Ext.b v))] 35))
  replace hr := hr.up (Gn.al (w := w5) (.cells #[.int .u64 (Zm.i (Ext.a v)), .int .u64 (Zm.i (Ext.b v))] 35))
  replace hz := hz.up (Gn.al (w := w5) (.cells #[.int .u64 (Zm.i (Ext.a v)), .int .u64 (Zm.i (Ext.b v))] 35))
  skip
  generalize w5.alloc (.cells #[.int .u64 (Zm.i (Ext.a v)), .int .u64 (Zm.i (Ext.b v))] 35) = w6 at *
  generalize w5.heap.size = bx at *
  have ho0 : OF (w6.alloc (.cells #[] 23)) (bx + 1) (.slice (some ⟨bx + 1, 0, none⟩) 0 0) [] := by rw [← hsz]; exact OF.empty _ (Nat.le_refl _)
  go_loopw [16, 17] (fun vv i wr => ∃ k : Nat, k ≤ K ∧ i = .int .i64 k ∧ OF wr (bx + 1) vv (tab k (co (partA r))) ∧ Gn w6 wr) (fun _ i _ => K - (intOf i).toNat)
  case atStart => exact ⟨0, by omega, rfl, ho0, Gn.al _⟩
  case round =>
    clear ho0
    obtain ⟨k, hk, rfl, ho, hgr⟩ := hrel
    have lk : (tab k (co (partA r))).length = k := tab_length _ _
    have hbw : bx + 1 ≤ wr.heap.size := by have := hgr.size; omega
    by_cases h1 : k < K
    · obtain ⟨b1, o1, x, rfl, hx1, q1, q2, q3⟩ := (hr.up hgr).at_ h1
      have hst := tab_succ k (co (partA r))
      rw [co_partA, co_at hx1] at hst
      replace hst := Lib.hid hst
      clear hx1 hT hz hg hr hbx
      generalize tab k (co (partA r)) = T at *
      generalize hxa : Ext.a x = y at *
      go_wp2_with (at_builtin; refine wpList_appF (.tmp 57) (.tmp 63) rfl (ho.up (Gn.al _)) (by simp; omega) rfl ((BF.one y).sf (by simp)) (by simp; omega) ?_; intro v4 w4 ho4 hg4; have hg5 := grown_gnF (hgr.trans (Gn.al _)) (ho.up (Gn.al _)) (by omega) hg4; clear hg4)
      exact ⟨⟨k + 1, by omega, by go_num, by rw [hst.out]; exact ho4, hg5⟩, by simp [intOf]; omega⟩
    · obtain rfl : k = K := by omega
      have htl : tab k (co (partA r)) = partA r := by have := tab_eq (partA r); rwa [lA.out] at this
      rw [htl] at ho
      obtain ⟨Af, cf, rfl, hf⟩ := ho.sf
      rw [lA.out] at hf
      try rw [lA.out]
      clear ho htl
      replace hg := hg.trans hgr
      replace hT := hT.up hgr
      replace hr := hr.up hgr
      replace hz := hz.up hgr
      replace hbx := Gn.block hgr hbx
      go_wp2_with fail
      skip
      refine (s_encode _ _ _ _ _ _ hT hf (by omega) (by omega)).mono ?_
      rintro e w7 hR
      rw [Ea.out] at hR
      obtain ⟨Aha, cha, rfl, ha, g⟩ := hR.get la.out
      replace hg := hg.trans g
      replace hT := hT.up g
      replace hr := hr.up g
      replace hz := hz.up g
      replace hbx := Gn.block g hbx
      replace hf := hf.up g
      clear g
      have hBs := HBS.out
      have bz1 := box_a hbx; have bz2 := box_b hbx; have bz3 := blk_lt hbx
      obtain ⟨b1, o1, y1, E1, hy1, p1, p2, p3⟩ := hz.at_ hj1
      obtain rfl := Option.some.inj (hy1.symm.trans zz.out)
      obtain ⟨b2, o2, y2, E2, hy2, q1, q2⟩ := ha.at_ hj1
      obtain rfl := Option.some.inj (hy2.symm.trans za.out)
      subst E1 E2
      clear hy1 hy2 za zz
      go_wp2_with fail
      skip
      try simp only [List.append_eq, List.cons_append, List.nil_append]
      refine wp_region_gr (by kernel_rfl) (lex_of_chk (by kernel_rfl) (by kernel_rfl)) ?_
      repeat (go_big_quiet_step (fail))
      refine wpQuiet_nil ?_
      intro w8 g
      replace hg := hg.trans g
      go_wp2_with fail
      skip
      go_ret
      exact ⟨rfl, hg⟩

set_option linter.unusedVariables false in
set_option maxRecDepth 100000 in
set_option maxHeartbeats 1000000 in
theorem lifted (os : Os) (started : os.Started) (H : Type) (enc : TypeId × Value → H) :
    ReturnsInHanded {} Tryd.checked os 8 .any (fun w args => (Rows.reedsolomonSymbolsSpec.pre enc Tryd.prog Tryd.f8 [] false w args ∧ laidMetH Tryd.prog laid2 w) ∧ sizedMet enc Tryd.prog Tryd.f8 (OpenSpec.ofChange Rows.reedsolomonSymbolsSpec) false w args)
      (Rows.reedsolomonSymbolsSpec.post enc Tryd.prog Tryd.f8 false true false false) := by
  refine returnsInHanded_of_change_and (C := Tryd.checked) (X := fun w _ => laidMetH Tryd.prog laid2 w) (fun _ _ _ hh h => h.of_heap hh) own started (by kernel_rfl) Tryd.func8
    (ChangeSpec.witness_shaped (enc := enc) (C := Tryd.checked) (os := os) (X := fun w _ => laidMetH Tryd.prog laid2 w) false (World.doorLaid Tryd.prog 400 os) #[.slice none 0 0, .int .u8 0, .int .u8 0] 8 rfl (World.shaped_of_RefB (by kernel_rfl) (by kernel_rfl)) (by kernel_rfl) (by kernel_rfl) (by kernel_rfl) (door_met os _)) ?_
  intro W base args ds gs before hval0 hW _ _ hL _
  have hval : ∀ (j : Nat) t v, Tryd.f8.params[j]? = some t → args[j]? = some v → Value.okWide Tryd.prog W .any base t v := hval0
  have hW' : DataW.Whole enc Tryd.prog Tryd.f8.params.toList Rows.reedsolomonSymbolsSpec.vars false W args.toList ds gs before := hW
  obtain ⟨p, q, hA0, hV, rfl, hfz, hnd⟩ := hW
  have hA : DataW.TrodAll enc Tryd.prog W 0 (fun _ => true) true Tryd.f8.params.toList args.toList ds p := hA0
  rw [Tryd.params8] at hA hval
  obtain ⟨v0, vs0, d0, ds0, p0, q0, hargs, rfl, rfl, h0, r0⟩ := trodAll_cons hA
  obtain ⟨v1, vs1, d1, ds1, p1, q1, rfl, rfl, rfl, h1, r1⟩ := trodAll_cons r0
  obtain ⟨v2, vs2, d2, ds2, p2, q2, rfl, rfl, rfl, h2, r2⟩ := trodAll_cons r1
  obtain ⟨rfl, rfl, rfl⟩ := trodAll_nil r2
  obtain rfl : args = #[v0, v1, v2] := by cases args; simp_all
  obtain ⟨rfl, rfl⟩ := trodVars_none hV
  obtain ⟨a0, len0, cap0, rfl⟩ := okWide_slice Tryd.underlying37 (hval 0 37 v0 rfl rfl)
  obtain ⟨x0, hz0⟩ := openExts h0
  obtain ⟨x1, rfl, hz1⟩ := int_open Tryd.underlying5 (hval 1 5 v1 rfl rfl)
  obtain ⟨x2, rfl, hz2⟩ := int_open Tryd.underlying5 (hval 2 5 v2 rfl rfl)
  refine (walk W a0 len0 cap0 x0 x1 x2 (tab_of_laid hL) hz0 (by have := has_u8 hz1; omega) (by have := has_u8 hz1; omega) (by have := has_u8 hz2; omega) (by have := has_u8 hz2; omega)).mono fun e W' ⟨he, bel⟩ => ?_
  subst he
  exact ⟨_, rfl, law_post laidOut hW' rfl (by kernel_rfl) rfl Tryd.underlying4 rfl bel⟩

theorem row_proved : Rows.ReedsolomonSymbolsSaid :=
  OpenClaim.holds_of_wide 8 Tryd.f8 rfl rfl rfl rfl rfl rfl rfl ⟨rfl, rfl, rfl, rfl, rfl⟩ rfl rfl rfl rfl rfl (by kernel_rfl) Tryd.func8 (by kernel_rfl)
    (of_decide_eq_true (by kernel_rfl)) (by unfold Func.isWrapper; first | (rw [if_pos (by decide +kernel)]; kernel_rfl) | (rw [if_neg (by decide +kernel)]; exact ⟨rfl, rfl⟩))
    (fun os started H enc _ => lifted os started H enc)

/-- the card: the row's listed variables are tied to the program's text -/
theorem proved : Rows.ReedsolomonSymbolsCardSaid :=
  Claim7.holds_tied_plain_at .later [] [.data, .data] true Rows.reedsolomonSymbolsCard.stood.harness false
    row_proved (fun _ h => by cases h) (by kernel_rfl) (fun _ h => by cases h) reedsolomonSymbols_row_tie rfl ⟨rfl, rfl⟩ (by kernel_rfl) rfl
    (fun f fn hf hfn => by
      obtain rfl : f = 8 := (Option.some.inj ((show Tryd.prog.funcNamed Rows.reedsolomonSymbolsRow.func = some 8 by kernel_rfl).symm.trans hf)).symm
      obtain rfl : fn = Tryd.f8 := (Option.some.inj (Tryd.func8.symm.trans hfn)).symm
      exact ⟨by kernel_rfl, fun j t ht => by
        rw [Tryd.params8] at ht
        have hall : ([37, 5, 5].all fun t => !Tryd.prog.wantsStandIn t) = true := by kernel_rfl
        have hm := List.mem_of_getElem? (show [37, 5, 5][j]? = some t by simpa using ht)
        have := List.all_eq_true.1 hall t hm
        exact (show Tryd.prog.wantsStandIn t = false by simpa using this)⟩)
    (by kernel_rfl)
end Go.Proofs.YtbfblckgcefaaaaDoor.lawReedsolomonSymbols
