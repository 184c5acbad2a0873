/- ntt.Mul. -/
import Derived.Test.YtjgdbfhpjjmjkaaDoorNp
import Derived.Test.YtjgdbfhpjjmjkaaDoorFf
import Derived.Test.YtjgdbfhpjjmjkaaDoorFlc
namespace Go.Proofs.YtjgdbfhpjjmjkaaDoor
open Go.RowKit Att Att.CRing
open Classical in
set_option maxHeartbeats 2000000 in
theorem n_mul (A B : Option Addr) (n c m d : Nat) (l k : List F) (w : World) (hT : Tab w) (hl : SF w A n c l) (hk : SF w B m d k) (hn : n ≤ 1000000) (hm : m ≤ 1000000) :
    Calls Tryd.prog 20 #[.slice A n c, .slice B m d] w fun e w' => Ret4 e w w' (mulOf l k) := by
  have l1 := Lib.hid hl.len
  have k1 := Lib.hid hk.len
  rcases Nat.eq_zero_or_pos n with h0 | h0
  · rw [mulOf_nil (.inl (by rw [l1.out]; exact h0))]
    subst h0
    go_enter Tryd.func20, Tryd.ntmps20
    go_wp2_with fail
    go_ret2
    exact ⟨⟨none, 0, rfl, SF.nil _⟩, Gn.refl _⟩
  · have b1 : ((n : Int) == 0) = false := by simp; omega
    rcases Nat.eq_zero_or_pos m with h2 | h2
    · rw [mulOf_nil (.inr (by rw [k1.out]; exact h2))]
      subst h2
      go_enter Tryd.func20, Tryd.ntmps20
      go_wp2_with fail
      go_ret2
      exact ⟨⟨none, 0, rfl, SF.nil _⟩, Gn.refl _⟩
    · have b2 : ((m : Int) == 0) = false := by simp; omega
      by_cases h3 : 65536 < n + m - 1
      · rw [mulOf_big (by rw [l1.out]; omega) (by rw [k1.out]; omega) (by rw [l1.out, k1.out]; exact h3)]
        go_enter Tryd.func20, Tryd.ntmps20
        go_wp2_with fail
        go_ret2
        exact ⟨⟨none, 0, rfl, SF.nil _⟩, Gn.refl _⟩
      · rw [mulOf_ok (by rw [l1.out]; omega) (by rw [k1.out]; omega) (by rw [l1.out, k1.out]; omega)]
        have HM := Lib.hid (mulL_length l k)
        obtain ⟨L, hL⟩ : ∃ L, L = mulL l k := ⟨_, rfl⟩
        rw [← hL] at HM ⊢
        replace hL := Lib.hid hL
        obtain ⟨M, hM⟩ : ∃ M, M = n + m - 1 := ⟨_, rfl⟩
        have hMi : (n : Int) + (m : Int) - 1 = (M : Int) := by omega
        have hM1 : (M : Int) - 1 = ((M - 1 : Nat) : Int) := by omega
        have HM2 : L.length = M := by rw [HM.out, l1.out, k1.out]; exact hM.symm
        replace hM := Lib.hid hM
        replace HM2 := Lib.hid HM2
        clear HM
        go_enter Tryd.func20, Tryd.ntmps20
        go_wp2_with fail
        refine (n_len (M - 1) (by have := hM.out; omega) _).mono ?_
        rintro e w1 ⟨⟨s, rfl, hs, hlt⟩, rfl⟩
        have hp := pow_lt hs
        have hNM : M ≤ 2 ^ s := by have := hM.out; omega
        have hNl : n ≤ 2 ^ s := by have := hM.out; omega
        have hNm : m ≤ 2 ^ s := by have := hM.out; omega
        have hF := fun g c (t : List F) rest w hT => n_tfF g c s (padF t (2 ^ s)) rest w hT hs (padF_length _ _)
        have HV1 := valP_padF (l := l) (N := 2 ^ s) (by rw [l1.out]; omega) (root s) (2 ^ s)
        have HV2 := valP_padF (l := k) (N := 2 ^ s) (by rw [k1.out]; omega) (root s) (2 ^ s)
        have hF1 := fun g c => hF g c l
        have hF2 := fun g c => hF g c k
        rw [HV1] at hF1
        rw [HV2] at hF2
        have HX := Lib.hid (valP_length l (root s) (2 ^ s))
        have HY := Lib.hid (valP_length k (root s) (2 ^ s))
        have HE := Lib.hid (mxF_end l k (root s) (2 ^ s))
        rw [← hL.out] at HE
        have HI := Lib.hid (inv_valP (l := L) (k := s) (by rw [HM2.out]; exact hNM) hs)
        have HP := Lib.hid (padF_take HM2.out hNM)
        have HPl := Lib.hid (padF_length L (2 ^ s))
        have hw := wrap_pow (k := s) (by omega)
        rw [cast_pow] at hw
        obtain ⟨N, hN⟩ : ∃ N, N = 2 ^ s := ⟨_, rfl⟩
        have hN2 : (2 : Int) ^ s = (N : Int) := by rw [cast_pow, hN]
        rw [← hN] at hp hNM hNl hNm hF1 hF2 HX HY HE HI HP HPl hw
        clear HV1 HV2 hF hN hlt
        generalize valP l (root s) N = X at *
        generalize valP k (root s) N = Y at *
        generalize valP L (root s) N = Z at *
        go_wp2_with fail
        try simp only [List.append_eq, List.cons_append, List.nil_append]
        refine Fc.wp_region_flow 5 8 35 (by kernel_rfl) (by kernel_rfl) (by kernel_rfl) (by simp) ?_
        refine Fc.flow_one rfl (by simp) (freeB_spec (by kernel_rfl)) ?_
        go_big_quiet_step (fail)
        refine wpQuiet_nil ?_
        refine Fc.flow_ex (mkF N) rfl (by simp) (ex_mkF _ _ _ _ _ _ N (fun V => rfl) (fun V => rfl) (by omega)) ?_
        refine Fc.flow_one rfl (by simp) (freeB_spec (by kernel_rfl)) ?_
        go_big_quiet_step (fail)
        refine wpQuiet_nil ?_
        refine Fc.flow_ex (mkF N) rfl (by simp) (ex_mkF _ _ _ _ _ _ N (fun V => rfl) (fun V => rfl) (by omega)) ?_
        refine Fc.flow_cp rfl ?_
        intro V N' X' hcpy hΓ hdis g hX
        obtain ⟨gx, gy, e1, e2, hne, hb1, hb2, hB1, hB2⟩ := end_mkF2 hΓ hdis hX 35 37 N N (by simp) (by simp) (by decide)
        have hgn : Gn w (gr w g) := ⟨g, rfl⟩
        clear hΓ hdis hX
        generalize gr w g = w2 at *
        conv => arg 5; simp only [fill, hcpy, e1, e2, Act.put, List.setIfInBounds_toArray, List.set_cons_succ, List.set_cons_zero]
        clear hcpy e1 e2
        obtain ⟨w3, hcp, hB3, hby⟩ := run_cpF (ty := 3) hB1 (hl.up hgn) hNl
        have hg3 := Gn.by hgn hb1 hby
        have hB4 : BF w3 gy (List.replicate N 0) := (hby.block gy (blk_lt hB2) (by simp; omega)).trans hB2
        obtain ⟨w4, hcp2, hB5, hby2⟩ := run_cpF (ty := 3) hB4 (hk.up hg3) hNm
        have hg4 := Gn.by hg3 hb2 hby2
        have hB6 : BF w4 gx (padF l N) := (hby2.block gx (blk_lt hB3) (by simp; omega)).trans hB3
        clear hby hby2 hB3 hB4 hg3
        clear hB1 hB2
        go_wp2_with fail
        refine (hF1 gx N [] _ (hT.up hg4) hB6.rf (by omega) (by omega)).mono ?_
        rintro e w5 ⟨rfl, hr5, hby5⟩
        have hg5 := Gn.by hg4 hb1 hby5
        have hB7 : BF w5 gy (padF k N) := (hby5.block gy (blk_lt hB5) (by simp; omega)).trans hB5
        clear hcp hcp2 hgn hg4 hB5 hB6 hby5
        go_wp2_with fail
        refine (hF2 gy N [] _ (hT.up hg5) hB7.rf (by omega) (by omega)).mono ?_
        rintro e w6 ⟨rfl, hr6, hby6⟩
        have hg6 := Gn.by hg5 hb2 hby6
        have hr7 : RF w6 gx X [] := (hby6.block gx (blk_lt hr5) (by simp; omega)).trans hr5
        rw [← mxF_zero X Y] at hr7
        clear hg5 hB7 hr5 hby6 hF1 hF2
        go_wp2_with fail
        go_loopw [50] (fun v wr => ∃ i : Nat, i ≤ N ∧ v = .int .i64 i ∧ RF wr gx (mxF X Y i) [] ∧ RF wr gy Y [] ∧ Gn w wr) (fun v _ => N - (intOf v).toNat)
        case atStart => exact ⟨0, by omega, rfl, hr7, hr6, hg6⟩
        case round =>
          clear hr7 hr6 hg6
          obtain ⟨i, hi, rfl, hr, hs_, hg⟩ := hrel
          by_cases h1 : i < N
          · have hx := mxF_get X Y (i := i) (by rw [HX.out]; exact h1)
            have hst := Lib.hid (mxF_set X Y (i := i) (by rw [HX.out]; exact h1))
            have hil := Lib.hid (show i < (mxF X Y i).length by rw [mxF_len, HX.out]; exact h1)
            have hy : Y[i]? = some (co Y i) := by
              have : i < Y.length := by rw [HY.out]; exact h1
              rw [co_get _ _ this]; exact List.getElem?_eq_getElem this
            generalize co X i = x at *
            generalize co Y i = y at *
            have c1 := hr.cell hx
            have c2 := hs_.cell hy
            have c3 := blk_lt hr
            have c4 := blk_lt hs_
            clear hx hy
            go_wp2_with fail
            try simp only [List.append_eq, List.cons_append, List.nil_append]
            refine Fk.wp_region_flow 11 (by kernel_rfl) (by kernel_rfl) ?_
            iterate 10
              refine Fk.flow_one rfl (freeB_spec (by kernel_rfl)) ?_
              go_big_quiet_step (fail)
              refine wpQuiet_nil ?_
            apply Fk.flow_is
            · exact freeB_spec (by kernel_rfl)
            · intro g K hK
              go_wp2_with fail
              refine (f_mulF x y _).mono ?_
              rintro e w' ⟨rfl, rfl⟩
              go_wp2_with fail
              exact hK _ (Up.refl _)
            · rfl
            intro V N' X' hΓ hdis g hX
            clear hΓ hdis hX
            conv => arg 5; simp only [fill, Act.put, List.setIfInBounds_toArray, List.set_cons_succ, List.set_cons_zero]
            have hgn : Gn wr (gr wr g) := ⟨g, rfl⟩
            have hr' := hr.up hgn
            have hs' := hs_.up hgn
            have hg' := hg.trans hgn
            clear c1 c2 c3 c4
            generalize gr wr g = w8 at *
            have hr2 := RF.set hr' hil.out (x * y)
            have hg2 := setF_below (i := i) hg' hb1 (x * y)
            have hs2 : RF (setF w8 gx i (x * y)) gy Y [] := (setF_other (by omega) _).trans hs'
            rw [hst.out] at hr2
            have c1 := blk_lt hr'
            go_wp2_with (refine tail_storeF (b := gx) (i := i) (x := x * y) rfl rfl hr' hil.out ?_)
            exact ⟨⟨i + 1, by omega, by go_num, hr2, hs2, hg2⟩, by simp [intOf]; omega⟩
          · obtain rfl : i = N := by omega
            rw [HE.out] at hr
            have hI := fun w (hT : Tab w) (h : SF w (some ⟨gx, 0, none⟩) i i Z) => n_inverse (some ⟨gx, 0, none⟩) i i Z w hT h (by omega)
            rw [HI.out] at hI
            have hZ : Hid (Z.length = i) := Lib.hid (by have := congrArg List.length HE.out; rw [mxF_len, HX.out] at this; exact this.symm)
            have hsf := hr.sf (c := i) (by rw [hZ.out]; exact Nat.le_refl _) (by omega)
            rw [hZ.out] at hsf
            go_wp2_with fail
            refine (hI _ (hT.up hg) hsf).mono ?_
            rintro e w9 ⟨⟨A9, c9, rfl, h9⟩, g9⟩
            have hg9 := hg.trans g9
            have hP := HP.out
            rw [HPl.out] at h9 ⊢
            have h10 := h9.takeM hNM
            rw [hP] at h10
            have hsl := fun w => slice_hm (A := A9) (n := i) (c := c9) (h := M) (Nat.le_trans hNM h9.le) w
            clear h9
            go_wp2_with fail
            go_ret2
            have e := HM2.out
            subst e
            exact ⟨⟨A9, _, rfl, h10⟩, hg9⟩
end Go.Proofs.YtjgdbfhpjjmjkaaDoor
