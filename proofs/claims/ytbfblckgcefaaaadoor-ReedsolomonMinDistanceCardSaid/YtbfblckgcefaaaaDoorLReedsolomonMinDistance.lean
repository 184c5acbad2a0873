/- ReedsolomonMinDistance: for every two rows of numbers and every two numbers of 8 bits the law on the distance of codewords returns true; no conditions. -/
import Derived.Test.YtbfblckgcefaaaaDoorFrd
import Derived.Test.YtbfblckgcefaaaaDoorRt
import Derived.Test.YtbfblckgcefaaaaDoorOpF
import Derived.Test.YtbfblckgcefaaaaDoorOpE
import Derived.Test.YtbfblckgcefaaaaDoorOp
namespace Go.Proofs.YtbfblckgcefaaaaDoor.lawReedsolomonMinDistance
open Go.ChangeShapes Go.WideShapes Go.ChangeAt Go.RowKit Att Att.CRing

set_option maxRecDepth 100000 in
set_option maxHeartbeats 4000000 in
theorem walk (w : World) (a0 : Option Addr) (len0 cap0 : Nat) (x0 : List Int) (a1 : Option Addr) (len1 cap1 : Nat) (x1 : List Int) (x2 : Int) (x3 : Int) (hT : Tab w) (h_x0 : SW w a0 len0 cap0 x0) (h_x1 : SW w a1 len1 cap1 x1) (l_x2 : 0 ≤ x2) (u_x2 : x2 ≤ 255) (l_x3 : 0 ≤ x3) (u_x3 : x3 ≤ 255) :
    Calls Tryd.prog 4 #[.slice a0 len0 cap0, .slice a1 len1 cap1, .int .u8 x2, .int .u8 x3] w fun e w' => e = .returned (.bool true) ∧ Below w.heap.size w w' := by
  classical
  obtain ⟨m, m1, m3, hm, hBl⟩ := y_blowup x3 l_x3 u_x3
  obtain ⟨s, hs⟩ : ∃ s : Nat, (s : Int) = x3 / 16 % 5 := ⟨(x3 / 16 % 5).toNat, Int.toNat_of_nonneg (by omega)⟩
  have hs4 : s ≤ 4 := by omega
  have hst : Int.tmod (x3 / 16) 5 = (s : Int) := by rw [hs]; exact Int.tmod_eq_emod_of_nonneg (by omega)
  replace hm := Lib.hid hm; replace hs := Lib.hid hs
  have ham : s + m ≤ 16 := by omega
  have hx : Dif (pw (root (s + m))) (2 ^ (s + m)) := (root_prim (s + m) (by omega)).dif
  have hPt := fun i hi w => y_point (s + m) i (by omega) hi w
  have hle : 2 ^ s ≤ 2 ^ (s + m) := Nat.pow_le_pow_right (by omega) (by omega)
  have hN : 2 ^ (s + m) ≤ 128 := Nat.le_trans (Nat.pow_le_pow_right (n := 2) (by omega) (show s + m ≤ 7 by omega)) (by decide)
  have hB8 : 2 ^ m ≤ 8 := Nat.le_trans (Nat.pow_le_pow_right (n := 2) (by omega) m3) (by decide)
  have hK0 : 0 < 2 ^ s := Nat.two_pow_pos s
  have hB0 : 0 < 2 ^ m := Nat.two_pow_pos m
  have hmul := two_mul_pow s m
  have hc2 := cast_pow s
  have hEnc : ∀ p : List F, p.length = 2 ^ s → encOf p ((2 ^ m : Nat) : Int) = (valP p (root (s + m)) (2 ^ (s + m)), 0) := fun p hp => by rw [← cast_pow]; exact encOf_pow hp m1 (by omega) ham
  have hDec := fun A c l w hT hl => s_decode A c l s m w hT m1 (by omega) ham hl
  have hIs := fun A c l w hT hl => s_is A c l s m w hT m1 (by omega) ham hl
  have hMd := s_minDistance (2 ^ s) (2 ^ m) (2 ^ (s + m)) hmul hle (by omega)
  have hMd' := y_minDistance (2 ^ s) (2 ^ m) (2 ^ (s + m)) hmul hle (by omega)
  have hsh := y_shift m m1 (by omega)
  have hMade := fun A n c l w hl => y_made A n c l s w hl (by omega)
  generalize hue : root (s + m) = u at *
  generalize hNe : 2 ^ (s + m) = N at *
  generalize hBe : 2 ^ m = B at *
  generalize hKe : 2 ^ s = K at *
  have hw1 : IntKind.i64.wrap (K : Int) = (K : Int) := IntWalk.i64_in _ (by omega)
  have hw2 : IntKind.i64.wrap (N : Int) = (N : Int) := IntWalk.i64_in _ (by omega)
  have hBs : (B : Int) * (2 : Int) ^ s = (N : Int) := by rw [hc2]; exact hmul
  obtain ⟨lim, hlim⟩ : ∃ lim, lim = (N - K) / 2 := ⟨_, rfl⟩
  have hl1 : 2 * lim ≤ N - K := by omega
  have hl2 : N - K ≤ 2 * lim + 1 := by omega
  have ht2 : Int.tdiv (((N - K + 1 : Nat) : Int) - 1) 2 = (lim : Int) := by rw [Int.tdiv_eq_ediv_of_nonneg (by omega)]; omega
  have ht3 : (((N - K + 1 : Nat) : Int) - 1) / 2 = (lim : Int) := by omega
  have ht5 : ((N - K : Nat) : Int) / 2 = (lim : Int) := by omega
  have ht6 : Int.tdiv ((N - K : Nat) : Int) 2 = (lim : Int) := by rw [Int.tdiv_eq_ediv_of_nonneg (by omega)]; omega
  clear hlim
  have ht4 : ((N - K + 1 : Nat) : Int) - 1 = ((N - K : Nat) : Int) := by omega
  replace hx := Lib.hid hx; replace hEnc := Lib.hid hEnc; replace hue := Lib.hid hue; replace hNe := Lib.hid hNe; replace hBe := Lib.hid hBe; replace hKe := Lib.hid hKe
  have HT2 := Lib.hid ht2; have HT3 := Lib.hid ht3; have HT5 := Lib.hid ht5; have HT6 := Lib.hid ht6; have HT4 := Lib.hid ht4; have HBS := Lib.hid hBs; have HC2 := Lib.hid hc2; have HMU := Lib.hid hmul
  clear ht2 ht3 ht5 ht6 ht4 hBs hc2 hmul
  have hx2n : ((x2.toNat : Nat) : Int) = x2 := Int.toNat_of_nonneg l_x2
  obtain ⟨R, hR⟩ : ∃ R, R = x2.toNat % K := ⟨_, rfl⟩
  have hR1 : R < K := by rw [hR]; exact Nat.mod_lt _ hK0
  have hR2 : x2 % (K : Int) = (R : Int) := by rw [hR, Int.natCast_emod, hx2n]
  have hR3 : Int.tmod x2 (K : Int) = (R : Int) := by rw [← hR2]; exact Int.tmod_eq_emod_of_nonneg l_x2
  have HR2 := Lib.hid hR2; have HR3 := Lib.hid hR3
  clear hR hR2 hR3 hx2n
  obtain ⟨po, hpo⟩ : ∃ po, po = (int 1 : Ext) := ⟨_, rfl⟩
  have hI1 := x_fromInt 1 (by omega) (by omega)
  rw [← hpo] at hI1
  clear hpo
  refine Calls.mono (R := fun e w' => e = .returned (.bool true) ∧ Gn w w') ?_ (fun e w' h => ⟨h.1, h.2.below⟩)
  go_enter Tryd.func4, Tryd.ntmps4
  go_wp2_with fail
  have hg : Gn w w := Gn.refl w
  refine (o_sanity9 _ hT).mono ?_
  rintro e w1 ⟨rfl, g⟩
  replace hg := hg.trans g
  replace hT := hT.up g
  replace h_x0 := h_x0.up g
  replace h_x1 := h_x1.up g
  clear g
  go_wp2_with fail
  skip
  refine (hBl _).mono ?_
  rintro e w2 ⟨rfl, rfl⟩
  go_wp2_with fail
  skip
  refine (hMade a0 len0 cap0 x0 _ h_x0).mono ?_
  rintro e w3 ⟨vv, rfl, ho, g⟩
  replace hg := hg.trans g
  replace hT := hT.up g
  replace h_x0 := h_x0.up g
  replace h_x1 := h_x1.up g
  clear g
  obtain ⟨Ap, cp, rfl, hp⟩ := ho.sf
  clear ho
  rw [padF_length] at hp
  obtain ⟨p, hpe⟩ : ∃ p, p = padF (redL x0) K := ⟨_, rfl⟩
  have lp : p.length = K := by rw [hpe, padF_length]
  rw [← hpe] at hp
  try rw [padF_length]
  clear hpe
  replace lp := Lib.hid lp
  go_wp2_with fail
  skip
  refine (hMade a1 len1 cap1 x1 _ h_x1).mono ?_
  rintro e w4 ⟨vv, rfl, ho, g⟩
  replace hg := hg.trans g
  replace hT := hT.up g
  replace h_x0 := h_x0.up g
  replace h_x1 := h_x1.up g
  replace hp := hp.up g
  clear g
  obtain ⟨Aq, cq, rfl, hq⟩ := ho.sf
  clear ho
  rw [padF_length] at hq
  obtain ⟨q, hqe⟩ : ∃ q, q = padF (redL x1) K := ⟨_, rfl⟩
  have lq : q.length = K := by rw [hqe, padF_length]
  rw [← hqe] at hq
  try rw [padF_length]
  clear hqe
  replace lq := Lib.hid lq
  go_wp2_with fail
  skip
  refine (hI1 _).mono ?_
  rintro e w5 ⟨rfl, g⟩
  replace hg := hg.trans g
  replace hT := hT.up g
  replace h_x0 := h_x0.up g
  replace h_x1 := h_x1.up g
  replace hp := hp.up g
  replace hq := hq.up g
  clear g
  go_wp2_with fail
  skip
  have hd : Sl (w5.alloc (.cells #[.int .u64 (Zm.i (Ext.a po)), .int .u64 (Zm.i (Ext.b po))] 35)) (some ⟨w5.heap.size, 0, none⟩) 1 1 [po] := (show Blk (w5.alloc (.cells #[.int .u64 (Zm.i (Ext.a po)), .int .u64 (Zm.i (Ext.b po))] 35)) w5.heap.size [po] from hnew _ _).sl (by simp)
  replace hg := hg.trans (Gn.al (w := w5) (.cells #[.int .u64 (Zm.i (Ext.a po)), .int .u64 (Zm.i (Ext.b po))] 35))
  replace hT := hT.up (Gn.al (w := w5) (.cells #[.int .u64 (Zm.i (Ext.a po)), .int .u64 (Zm.i (Ext.b po))] 35))
  replace h_x0 := h_x0.up (Gn.al (w := w5) (.cells #[.int .u64 (Zm.i (Ext.a po)), .int .u64 (Zm.i (Ext.b po))] 35))
  replace h_x1 := h_x1.up (Gn.al (w := w5) (.cells #[.int .u64 (Zm.i (Ext.a po)), .int .u64 (Zm.i (Ext.b po))] 35))
  replace hp := hp.up (Gn.al (w := w5) (.cells #[.int .u64 (Zm.i (Ext.a po)), .int .u64 (Zm.i (Ext.b po))] 35))
  replace hq := hq.up (Gn.al (w := w5) (.cells #[.int .u64 (Zm.i (Ext.a po)), .int .u64 (Zm.i (Ext.b po))] 35))
  skip
  generalize w5.alloc (.cells #[.int .u64 (Zm.i (Ext.a po)), .int .u64 (Zm.i (Ext.b po))] 35) = w6 at *
  generalize w5.heap.size = bd at *
  go_loopw [14, 15] (fun vv i wr => ∃ (k n c : Nat) (A : Option Addr) (dl : List Ext), k ≤ R ∧ i = .int .i64 k ∧ vv = .slice A n c ∧ Sl wr A n c dl ∧ n ≤ k + 1 ∧ Gn w6 wr) (fun _ i _ => R - (intOf i).toNat)
  case atStart => exact ⟨0, 1, 1, _, [po], by omega, rfl, rfl, hd, by omega, Gn.refl _⟩
  case round =>
    clear hd
    obtain ⟨k, nd, cd, Ad, dl, hk, rfl, rfl, hd, hdn, hgr⟩ := hrel
    by_cases h1 : k < R
    · have hR2 := HR2.out; have hR3 := HR3.out; have hmul := HMU.out
      have hPk := hPt k (by omega)
      clear hPt hT hp hq hg
      generalize pw u k = zp at *
      have hNg := r_negF zp
      generalize -zp = z2 at *
      have hFb := x_fromBase z2
      generalize Ext.base z2 = eb at *
      go_wp2_with fail
      skip
      clear hR2 hR3 hmul
      refine (hPk _).mono ?_
      rintro e w61 ⟨rfl, g⟩
      replace hgr := hgr.trans g
      replace hd := hd.up g
      clear g
      go_wp2_with fail
      skip
      refine (hNg _).mono ?_
      rintro e w62 ⟨rfl, rfl⟩
      go_wp2_with fail
      skip
      refine (hFb _).mono ?_
      rintro e w63 ⟨rfl, g⟩
      replace hgr := hgr.trans g
      replace hd := hd.up g
      clear g
      go_wp2_with fail
      skip
      refine (hI1 _).mono ?_
      rintro e w64 ⟨rfl, g⟩
      replace hgr := hgr.trans g
      replace hd := hd.up g
      clear g
      go_wp2_with fail
      skip
      have hf : Sl (w64.alloc (.cells #[.int .u64 (Zm.i (Ext.a eb)), .int .u64 (Zm.i (Ext.b eb)), .int .u64 (Zm.i (Ext.a po)), .int .u64 (Zm.i (Ext.b po))] 35)) (some ⟨w64.heap.size, 0, none⟩) 2 2 [eb, po] := (show Blk (w64.alloc (.cells #[.int .u64 (Zm.i (Ext.a eb)), .int .u64 (Zm.i (Ext.b eb)), .int .u64 (Zm.i (Ext.a po)), .int .u64 (Zm.i (Ext.b po))] 35)) w64.heap.size [eb, po] from hnew _ _).sl (by simp)
      replace hgr := hgr.trans (Gn.al (w := w64) (.cells #[.int .u64 (Zm.i (Ext.a eb)), .int .u64 (Zm.i (Ext.b eb)), .int .u64 (Zm.i (Ext.a po)), .int .u64 (Zm.i (Ext.b po))] 35))
      replace hd := hd.up (Gn.al (w := w64) (.cells #[.int .u64 (Zm.i (Ext.a eb)), .int .u64 (Zm.i (Ext.b eb)), .int .u64 (Zm.i (Ext.a po)), .int .u64 (Zm.i (Ext.b po))] 35))
      generalize w64.alloc (.cells #[.int .u64 (Zm.i (Ext.a eb)), .int .u64 (Zm.i (Ext.b eb)), .int .u64 (Zm.i (Ext.a po)), .int .u64 (Zm.i (Ext.b po))] 35) = w65 at *
      generalize w64.heap.size = bf at *
      have hlen : (trim (pmul dl [eb, po])).length ≤ nd + 1 := length_le_of_co fun i hi => by rw [co_pmul, conv_zero_big _ _ _ (by have := hd.len; simp; omega)]
      refine (x_mulL _ _ _ _ _ _ _ _ _ hd hf (by omega) (by omega)).mono ?_
      rintro e w66 ⟨A', n', c', rfl, hd', g⟩
      replace hgr := hgr.trans g
      have hn' := hd'.len
      generalize trim (pmul dl [eb, po]) = dl' at *
      subst hn'
      clear hd hf g
      go_wp2_with fail
      skip
      exact ⟨⟨k + 1, _, _, _, dl', by omega, by go_num, rfl, hd', by omega, hgr⟩, by simp [intOf]; omega⟩
    · obtain rfl : k = R := by omega
      replace hg := hg.trans hgr
      replace hT := hT.up hgr
      replace h_x0 := h_x0.up hgr
      replace h_x1 := h_x1.up hgr
      replace hp := hp.up hgr
      replace hq := hq.up hgr
      have hR2 := HR2.out; have hR3 := HR3.out
      rcases Bool.eq_false_or_eq_true (bits .and .u8 x2 128 != 0) with hbit | hbit
      · clear hq lq
        go_wp2_with (at_builtin; refine wpList_appF (.tmp 60) (.tmp 61) rfl (OF.empty wr (Nat.le_refl _)) (by simp) rfl (hp.up (Gn.al _)) (by simp; omega) ?_; intro v1 w150 ho hgb)
        have gA := grown_gnF (Gn.al _) (OF.empty wr (Nat.le_refl _)) (Nat.le_refl _) hgb
        clear hgb hR2 hR3
        rw [List.nil_append] at ho
        obtain ⟨gq, cq, rest, rfl, hrq, hgb, hpc, hcc⟩ := ho.rf (by rw [lp.out]; omega)
        rw [lp.out] at hpc ⊢
        clear ho
        have hdl := hd.len
        have hd0 := hd
        replace hd := hd.up gA
        go_loopw [16] (fun v wt => ∃ (i : Nat) (o : List F), i ≤ nd ∧ v = .int .i64 i ∧ o.length = K ∧ RF wt gq o rest ∧ Gn wr wt) (fun v _ => nd - (intOf v).toNat)
        case atStart => exact ⟨0, p, by omega, rfl, lp.out, hrq, gA⟩
        case round =>
          clear hrq
          obtain ⟨i, o, hi, rfl, hol, hrq, hgt⟩ := hrel
          by_cases h2 : i < nd
          · replace hd := hd0.up hgt
            obtain ⟨b1, o1, x, E1, hx1, q1, q2, q3⟩ := hd.at_ h2
            subst E1
            have hiK : i < K := by omega
            obtain ⟨y, hy⟩ : ∃ y, o[i]? = some y := ⟨_, List.getElem?_eq_getElem (show i < o.length by omega)⟩
            have c1 := hrq.cell hy
            have c2 := blk_lt hrq
            replace hol := Lib.hid hol
            clear hx1 hy hT hp hg hd hd0
            generalize Ext.a x = xa at *
            go_wp2_with fail
            try simp only [List.append_eq, List.cons_append, List.nil_append]
            refine Fk.wp_region_flow 13 (by kernel_rfl) (by kernel_rfl) ?_
            refine Fk.flow_one rfl (freeB_spec (by kernel_rfl)) ?_
            go_big_quiet_step (fail)
            refine wpQuiet_nil ?_
            refine Fk.flow_one rfl (freeB_spec (by kernel_rfl)) ?_
            go_big_quiet_step (fail)
            refine wpQuiet_nil ?_
            refine Fk.flow_one rfl (freeB_spec (by kernel_rfl)) ?_
            go_big_quiet_step (fail)
            refine wpQuiet_nil ?_
            refine Fk.flow_one rfl (freeB_spec (by kernel_rfl)) ?_
            go_big_quiet_step (fail)
            refine wpQuiet_nil ?_
            refine Fk.flow_one rfl (freeB_spec (by kernel_rfl)) ?_
            go_big_quiet_step (fail)
            refine wpQuiet_nil ?_
            refine Fk.flow_one rfl (freeB_spec (by kernel_rfl)) ?_
            go_big_quiet_step (fail)
            refine wpQuiet_nil ?_
            refine Fk.flow_one rfl (freeB_spec (by kernel_rfl)) ?_
            go_big_quiet_step (fail)
            refine wpQuiet_nil ?_
            refine Fk.flow_one rfl (freeB_spec (by kernel_rfl)) ?_
            go_big_quiet_step (fail)
            refine wpQuiet_nil ?_
            refine Fk.flow_one rfl (freeB_spec (by kernel_rfl)) ?_
            go_big_quiet_step (fail)
            refine wpQuiet_nil ?_
            refine Fk.flow_one rfl (freeB_spec (by kernel_rfl)) ?_
            go_big_quiet_step (fail)
            refine wpQuiet_nil ?_
            refine Fk.flow_one rfl (freeB_spec (by kernel_rfl)) ?_
            go_big_quiet_step (fail)
            refine wpQuiet_nil ?_
            apply Fk.flow_is
            · exact freeB_spec (by kernel_rfl)
            · intro g K hK
              go_wp2_with fail
              refine (r_addF y xa _).mono ?_
              rintro e w' ⟨rfl, rfl⟩
              go_wp2_with fail
              exact hK _ (Up.refl _)
            · rfl
            conv => arg 8; simp only [Act.put, List.setIfInBounds_toArray, List.set_cons_succ, List.set_cons_zero]
            refine Fk.flow_one rfl (freeB_spec (by kernel_rfl)) ?_
            go_big_quiet_step (fail)
            refine wpQuiet_nil ?_
            intro V N' X hΓ hdis g hX
            clear hΓ hdis hX
            have hgn : Gn wr (gr wr g) := ⟨g, rfl⟩
            generalize gr wr g = w181 at *
            replace hgt := hgt.trans hgn
            replace hrq := hrq.up hgn
            conv => arg 5; simp only [fill, Act.put, List.setIfInBounds_toArray, List.set_cons_succ, List.set_cons_zero]
            refine tail_storeF (b := gq) (i := i) (x := y + xa) rfl rfl hrq (by rw [hol.out]; exact hiK) ?_
            refine wpList_nil ?_
            have hr2 := hrq.set (i := i) (by rw [hol.out]; exact hiK) (y + xa)
            have hg2 := setF_below (i := i) hgt hgb (y + xa)
            have hol2 : (o.set i (y + xa)).length = K := by rw [List.length_set, hol.out]
            clear hrq c1 c2 q1 q2 q3
            go_wp2_with fail
            exact ⟨⟨i + 1, _, by omega, by go_num, hol2, hr2, hg2⟩, by simp [intOf]; omega⟩
          · have hq := hrq.sf (c := cq) (by rw [hol]; exact hpc) hcc
            rw [hol] at hq
            obtain ⟨q, hqe⟩ : ∃ q, q = o := ⟨_, rfl⟩
            rw [← hqe] at hq hol
            have lq := Lib.hid hol
            clear hqe hrq hol hd
            replace hg := hg.trans hgt
            replace hT := hT.up hgt
            replace hp := hp.up hgt
            obtain rfl : i = nd := by omega
            go_wp2_with fail
            skip
            have Ec := hEnc.out p lp.out
            obtain ⟨c, hce⟩ : ∃ c, c = valP p u N := ⟨_, rfl⟩
            have lc : c.length = N := by rw [hce, valP_length]
            rw [← hce] at Ec
            replace Ec := Lib.hid Ec; replace lc := Lib.hid lc; replace hce := Lib.hid hce
            refine (s_encode _ _ _ _ _ _ hT hp (by omega) (by omega)).mono ?_
            rintro e w201 hR
            rw [Ec.out] at hR
            obtain ⟨Ahc, chc, rfl, hc, g⟩ := hR.get lc.out
            replace hg := hg.trans g
            replace hT := hT.up g
            replace hp := hp.up g
            replace hq := hq.up g
            clear g
            go_wp2_with fail
            skip
            have Ed := hEnc.out q lq.out
            obtain ⟨d, hde⟩ : ∃ d, d = valP q u N := ⟨_, rfl⟩
            have ld : d.length = N := by rw [hde, valP_length]
            rw [← hde] at Ed
            replace Ed := Lib.hid Ed; replace ld := Lib.hid ld; replace hde := Lib.hid hde
            refine (s_encode _ _ _ _ _ _ hT hq (by omega) (by omega)).mono ?_
            rintro e w202 hR
            rw [Ed.out] at hR
            obtain ⟨Ahd2, chd2, rfl, hd2, g⟩ := hR.get ld.out
            replace hg := hg.trans g
            replace hT := hT.up g
            replace hp := hp.up g
            replace hq := hq.up g
            replace hc := hc.up g
            clear g
            have hmin : p ≠ q → ((N - K + 1 : Nat) : Int) ≤ ((disL c d : Nat) : Int) := by
              intro hne
              have h1 : disL c d = dis (cw p u) (cw q u) N := by
                rw [hce.out, disL_val ld.out]
                exact dis_congr (fun _ _ => rfl) (fun i hi => by rw [hde.out, co_valP _ _ _ _ hi]; rfl)
              have h2 := min_dist (p := p) (q := q) (x := pw u) (n := N) (k := K) hx.out (Nat.le_of_eq lp.out) (Nat.le_of_eq lq.out) (fun h => hne (list_ext_co (lp.out.trans lq.out.symm) (fun i _ => h i)))
              have h3 : dis (fun i => ev p (pw u i)) (fun i => ev q (pw u i)) N = dis (cw p u) (cw q u) N := rfl
              rw [h3] at h2
              rw [h1]
              omega
            have hsame : p = q → c = d := fun e => by rw [hce.out, hde.out, e]
            replace hmin := Lib.hid hmin; replace hsame := Lib.hid hsame
            go_wp2_with fail
            skip
            by_cases hpq : p = q
            · have hcd := Lib.hid (hsame.out hpq)
              replace hpq := Lib.hid hpq
              refine (y_same_true hp hq (by omega) (by omega) hpq.out).mono ?_
              rintro e w203 ⟨rfl, g⟩
              replace hg := hg.trans g
              replace hT := hT.up g
              replace hp := hp.up g
              replace hq := hq.up g
              replace hc := hc.up g
              replace hd2 := hd2.up g
              clear g
              go_wp2_with fail
              skip
              refine (y_same_true hp hq (by omega) (by omega) hpq.out).mono ?_
              rintro e w204 ⟨rfl, g⟩
              replace hg := hg.trans g
              replace hT := hT.up g
              replace hp := hp.up g
              replace hq := hq.up g
              replace hc := hc.up g
              replace hd2 := hd2.up g
              clear g
              go_wp2_with fail
              skip
              refine (y_same_true hc hd2 (by omega) (by omega) hcd.out).mono ?_
              rintro e w205 ⟨rfl, g⟩
              replace hg := hg.trans g
              replace hT := hT.up g
              replace hp := hp.up g
              replace hq := hq.up g
              replace hc := hc.up g
              replace hd2 := hd2.up g
              clear g
              go_wp2_with fail
              skip
              go_ret
              exact ⟨rfl, hg⟩
            · have hS := fun A B n c m d w h1 h2 h3 h4 => y_same A B n c m d p q w h1 h2 h3 h4
              rw [decide_eq_false hpq] at hS
              have hm := hmin.out hpq
              have hDi := fun A B n c' m d' w h1 h2 h3 h4 => s_distance A B n c' m d' c d w h1 h2 h3 h4
              generalize disL c d = dd at *
              have hb1 : decide (((N - K + 1 : Nat) : Int) ≤ (dd : Int)) = true := decide_eq_true hm
              have hb2 : decide (N - K + 1 ≤ dd) = true := decide_eq_true (by omega)
              replace hpq := Lib.hid hpq
              refine (hS _ _ _ _ _ _ _ hp hq (by omega) (by omega)).mono ?_
              rintro e w203 ⟨rfl, g⟩
              replace hg := hg.trans g
              replace hT := hT.up g
              replace hp := hp.up g
              replace hq := hq.up g
              replace hc := hc.up g
              replace hd2 := hd2.up g
              clear g
              go_wp2_with fail
              skip
              refine (hDi _ _ _ _ _ _ _ hc hd2 (by omega) (by omega)).mono ?_
              rintro e w204 ⟨rfl, g⟩
              replace hg := hg.trans g
              replace hT := hT.up g
              replace hp := hp.up g
              replace hq := hq.up g
              replace hc := hc.up g
              replace hd2 := hd2.up g
              clear g
              go_wp2_with fail
              skip
              refine (hMd _).mono ?_
              rintro e w205 ⟨rfl, rfl⟩
              go_wp2_with fail
              skip
              refine (hS _ _ _ _ _ _ _ hp hq (by omega) (by omega)).mono ?_
              rintro e w206 ⟨rfl, g⟩
              replace hg := hg.trans g
              replace hT := hT.up g
              replace hp := hp.up g
              replace hq := hq.up g
              replace hc := hc.up g
              replace hd2 := hd2.up g
              clear g
              go_wp2_with fail
              skip
              go_ret
              exact ⟨rfl, hg⟩
      · skip
        go_wp2_with fail
        skip
        have Ec := hEnc.out p lp.out
        obtain ⟨c, hce⟩ : ∃ c, c = valP p u N := ⟨_, rfl⟩
        have lc : c.length = N := by rw [hce, valP_length]
        rw [← hce] at Ec
        replace Ec := Lib.hid Ec; replace lc := Lib.hid lc; replace hce := Lib.hid hce
        refine (s_encode _ _ _ _ _ _ hT hp (by omega) (by omega)).mono ?_
        rintro e w101 hR
        rw [Ec.out] at hR
        obtain ⟨Ahc, chc, rfl, hc, g⟩ := hR.get lc.out
        replace hg := hg.trans g
        replace hT := hT.up g
        replace h_x0 := h_x0.up g
        replace h_x1 := h_x1.up g
        replace hp := hp.up g
        replace hq := hq.up g
        replace hd := hd.up g
        clear g
        go_wp2_with fail
        skip
        have Ed := hEnc.out q lq.out
        obtain ⟨d, hde⟩ : ∃ d, d = valP q u N := ⟨_, rfl⟩
        have ld : d.length = N := by rw [hde, valP_length]
        rw [← hde] at Ed
        replace Ed := Lib.hid Ed; replace ld := Lib.hid ld; replace hde := Lib.hid hde
        refine (s_encode _ _ _ _ _ _ hT hq (by omega) (by omega)).mono ?_
        rintro e w102 hR
        rw [Ed.out] at hR
        obtain ⟨Ahd2, chd2, rfl, hd2, g⟩ := hR.get ld.out
        replace hg := hg.trans g
        replace hT := hT.up g
        replace h_x0 := h_x0.up g
        replace h_x1 := h_x1.up g
        replace hp := hp.up g
        replace hq := hq.up g
        replace hd := hd.up g
        replace hc := hc.up g
        clear g
        have hmin : p ≠ q → ((N - K + 1 : Nat) : Int) ≤ ((disL c d : Nat) : Int) := by
          intro hne
          have h1 : disL c d = dis (cw p u) (cw q u) N := by
            rw [hce.out, disL_val ld.out]
            exact dis_congr (fun _ _ => rfl) (fun i hi => by rw [hde.out, co_valP _ _ _ _ hi]; rfl)
          have h2 := min_dist (p := p) (q := q) (x := pw u) (n := N) (k := K) hx.out (Nat.le_of_eq lp.out) (Nat.le_of_eq lq.out) (fun h => hne (list_ext_co (lp.out.trans lq.out.symm) (fun i _ => h i)))
          have h3 : dis (fun i => ev p (pw u i)) (fun i => ev q (pw u i)) N = dis (cw p u) (cw q u) N := rfl
          rw [h3] at h2
          rw [h1]
          omega
        have hsame : p = q → c = d := fun e => by rw [hce.out, hde.out, e]
        replace hmin := Lib.hid hmin; replace hsame := Lib.hid hsame
        go_wp2_with fail
        skip
        by_cases hpq : p = q
        · have hcd := Lib.hid (hsame.out hpq)
          replace hpq := Lib.hid hpq
          refine (y_same_true hp hq (by omega) (by omega) hpq.out).mono ?_
          rintro e w103 ⟨rfl, g⟩
          replace hg := hg.trans g
          replace hT := hT.up g
          replace h_x0 := h_x0.up g
          replace h_x1 := h_x1.up g
          replace hp := hp.up g
          replace hq := hq.up g
          replace hd := hd.up g
          replace hc := hc.up g
          replace hd2 := hd2.up g
          clear g
          go_wp2_with fail
          skip
          refine (y_same_true hp hq (by omega) (by omega) hpq.out).mono ?_
          rintro e w104 ⟨rfl, g⟩
          replace hg := hg.trans g
          replace hT := hT.up g
          replace h_x0 := h_x0.up g
          replace h_x1 := h_x1.up g
          replace hp := hp.up g
          replace hq := hq.up g
          replace hd := hd.up g
          replace hc := hc.up g
          replace hd2 := hd2.up g
          clear g
          go_wp2_with fail
          skip
          refine (y_same_true hc hd2 (by omega) (by omega) hcd.out).mono ?_
          rintro e w105 ⟨rfl, g⟩
          replace hg := hg.trans g
          replace hT := hT.up g
          replace h_x0 := h_x0.up g
          replace h_x1 := h_x1.up g
          replace hp := hp.up g
          replace hq := hq.up g
          replace hd := hd.up g
          replace hc := hc.up g
          replace hd2 := hd2.up g
          clear g
          go_wp2_with fail
          skip
          go_ret
          exact ⟨rfl, hg⟩
        · have hS := fun A B n c m d w h1 h2 h3 h4 => y_same A B n c m d p q w h1 h2 h3 h4
          rw [decide_eq_false hpq] at hS
          have hm := hmin.out hpq
          have hDi := fun A B n c' m d' w h1 h2 h3 h4 => s_distance A B n c' m d' c d w h1 h2 h3 h4
          generalize disL c d = dd at *
          have hb1 : decide (((N - K + 1 : Nat) : Int) ≤ (dd : Int)) = true := decide_eq_true hm
          have hb2 : decide (N - K + 1 ≤ dd) = true := decide_eq_true (by omega)
          replace hpq := Lib.hid hpq
          refine (hS _ _ _ _ _ _ _ hp hq (by omega) (by omega)).mono ?_
          rintro e w103 ⟨rfl, g⟩
          replace hg := hg.trans g
          replace hT := hT.up g
          replace h_x0 := h_x0.up g
          replace h_x1 := h_x1.up g
          replace hp := hp.up g
          replace hq := hq.up g
          replace hd := hd.up g
          replace hc := hc.up g
          replace hd2 := hd2.up g
          clear g
          go_wp2_with fail
          skip
          refine (hDi _ _ _ _ _ _ _ hc hd2 (by omega) (by omega)).mono ?_
          rintro e w104 ⟨rfl, g⟩
          replace hg := hg.trans g
          replace hT := hT.up g
          replace h_x0 := h_x0.up g
          replace h_x1 := h_x1.up g
          replace hp := hp.up g
          replace hq := hq.up g
          replace hd := hd.up g
          replace hc := hc.up g
          replace hd2 := hd2.up g
          clear g
          go_wp2_with fail
          skip
          refine (hMd _).mono ?_
          rintro e w105 ⟨rfl, rfl⟩
          go_wp2_with fail
          skip
          refine (hS _ _ _ _ _ _ _ hp hq (by omega) (by omega)).mono ?_
          rintro e w106 ⟨rfl, g⟩
          replace hg := hg.trans g
          replace hT := hT.up g
          replace h_x0 := h_x0.up g
          replace h_x1 := h_x1.up g
          replace hp := hp.up g
          replace hq := hq.up g
          replace hd := hd.up g
          replace hc := hc.up g
          replace hd2 := hd2.up g
          clear g
          go_wp2_with fail
          skip
          go_ret
          exact ⟨rfl, hg⟩

set_option linter.unusedVariables false in
set_option maxRecDepth 100000 in
set_option maxHeartbeats 1000000 in
theorem lifted (os : Os) (started : os.Started) (H : Type) (enc : TypeId × Value → H) :
    ReturnsInHanded {} Tryd.checked os 4 .any (fun w args => (Rows.reedsolomonMinDistanceSpec.pre enc Tryd.prog Tryd.f4 [] false w args ∧ laidMetH Tryd.prog laid2 w) ∧ sizedMet enc Tryd.prog Tryd.f4 (OpenSpec.ofChange Rows.reedsolomonMinDistanceSpec) false w args)
      (Rows.reedsolomonMinDistanceSpec.post enc Tryd.prog Tryd.f4 false true false false) := by
  refine returnsInHanded_of_change_and (C := Tryd.checked) (X := fun w _ => laidMetH Tryd.prog laid2 w) (fun _ _ _ hh h => h.of_heap hh) own started (by kernel_rfl) Tryd.func4
    (ChangeSpec.witness_shaped (enc := enc) (C := Tryd.checked) (os := os) (X := fun w _ => laidMetH Tryd.prog laid2 w) false (World.doorLaid Tryd.prog 400 os) #[.slice none 0 0, .slice none 0 0, .int .u8 0, .int .u8 0] 8 rfl (World.shaped_of_RefB (by kernel_rfl) (by kernel_rfl)) (by kernel_rfl) (by kernel_rfl) (by kernel_rfl) (door_met os _)) ?_
  intro W base args ds gs before hval0 hW _ _ hL _
  have hval : ∀ (j : Nat) t v, Tryd.f4.params[j]? = some t → args[j]? = some v → Value.okWide Tryd.prog W .any base t v := hval0
  have hW' : DataW.Whole enc Tryd.prog Tryd.f4.params.toList Rows.reedsolomonMinDistanceSpec.vars false W args.toList ds gs before := hW
  obtain ⟨p, q, hA0, hV, rfl, hfz, hnd⟩ := hW
  have hA : DataW.TrodAll enc Tryd.prog W 0 (fun _ => true) true Tryd.f4.params.toList args.toList ds p := hA0
  rw [Tryd.params4] at hA hval
  obtain ⟨v0, vs0, d0, ds0, p0, q0, hargs, rfl, rfl, h0, r0⟩ := trodAll_cons hA
  obtain ⟨v1, vs1, d1, ds1, p1, q1, rfl, rfl, rfl, h1, r1⟩ := trodAll_cons r0
  obtain ⟨v2, vs2, d2, ds2, p2, q2, rfl, rfl, rfl, h2, r2⟩ := trodAll_cons r1
  obtain ⟨v3, vs3, d3, ds3, p3, q3, rfl, rfl, rfl, h3, r3⟩ := trodAll_cons r2
  obtain ⟨rfl, rfl, rfl⟩ := trodAll_nil r3
  obtain rfl : args = #[v0, v1, v2, v3] := by cases args; simp_all
  obtain ⟨rfl, rfl⟩ := trodVars_none hV
  obtain ⟨a0, len0, cap0, rfl⟩ := okWide_slice Tryd.underlying22 (hval 0 22 v0 rfl rfl)
  obtain ⟨x0, hz0⟩ := openU64s h0
  obtain ⟨a1, len1, cap1, rfl⟩ := okWide_slice Tryd.underlying22 (hval 1 22 v1 rfl rfl)
  obtain ⟨x1, hz1⟩ := openU64s h1
  obtain ⟨x2, rfl, hz2⟩ := int_open Tryd.underlying5 (hval 2 5 v2 rfl rfl)
  obtain ⟨x3, rfl, hz3⟩ := int_open Tryd.underlying5 (hval 3 5 v3 rfl rfl)
  refine (walk W a0 len0 cap0 x0 a1 len1 cap1 x1 x2 x3 (tab_of_laid hL) hz0 hz1 (by have := has_u8 hz2; omega) (by have := has_u8 hz2; omega) (by have := has_u8 hz3; omega) (by have := has_u8 hz3; omega)).mono fun e W' ⟨he, bel⟩ => ?_
  subst he
  exact ⟨_, rfl, law_post laidOut hW' rfl (by kernel_rfl) rfl Tryd.underlying4 rfl bel⟩

theorem row_proved : Rows.ReedsolomonMinDistanceSaid :=
  OpenClaim.holds_of_wide 4 Tryd.f4 rfl rfl rfl rfl rfl rfl rfl ⟨rfl, rfl, rfl, rfl, rfl⟩ rfl rfl rfl rfl rfl (by kernel_rfl) Tryd.func4 (by kernel_rfl)
    (of_decide_eq_true (by kernel_rfl)) (by unfold Func.isWrapper; first | (rw [if_pos (by decide +kernel)]; kernel_rfl) | (rw [if_neg (by decide +kernel)]; exact ⟨rfl, rfl⟩))
    (fun os started H enc _ => lifted os started H enc)

/-- the card: the row's listed variables are tied to the program's text -/
theorem proved : Rows.ReedsolomonMinDistanceCardSaid :=
  Claim7.holds_tied_plain_at .later [] [.data, .data] true Rows.reedsolomonMinDistanceCard.stood.harness false
    row_proved (fun _ h => by cases h) (by kernel_rfl) (fun _ h => by cases h) reedsolomonMinDistance_row_tie rfl ⟨rfl, rfl⟩ (by kernel_rfl) rfl
    (fun f fn hf hfn => by
      obtain rfl : f = 4 := (Option.some.inj ((show Tryd.prog.funcNamed Rows.reedsolomonMinDistanceRow.func = some 4 by kernel_rfl).symm.trans hf)).symm
      obtain rfl : fn = Tryd.f4 := (Option.some.inj (Tryd.func4.symm.trans hfn)).symm
      exact ⟨by kernel_rfl, fun j t ht => by
        rw [Tryd.params4] at ht
        have hall : ([22, 22, 5, 5].all fun t => !Tryd.prog.wantsStandIn t) = true := by kernel_rfl
        have hm := List.mem_of_getElem? (show [22, 22, 5, 5][j]? = some t by simpa using ht)
        have := List.all_eq_true.1 hall t hm
        exact (show Tryd.prog.wantsStandIn t = false by simpa using this)⟩)
    (by kernel_rfl)
end Go.Proofs.YtbfblckgcefaaaaDoor.lawReedsolomonMinDistance
