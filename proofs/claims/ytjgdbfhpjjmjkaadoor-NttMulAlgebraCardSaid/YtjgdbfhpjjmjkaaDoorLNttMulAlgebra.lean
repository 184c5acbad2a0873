/- NttMulAlgebra: for every three rows of numbers the law on the algebra of Mul returns true; no conditions. -/
import Derived.Test.YtjgdbfhpjjmjkaaDoorFrd
import Derived.Test.YtjgdbfhpjjmjkaaDoorNzb
import Derived.Test.YtjgdbfhpjjmjkaaDoorOpF
namespace Go.Proofs.YtjgdbfhpjjmjkaaDoor.lawNttMulAlgebra
open Go.ChangeShapes Go.WideShapes Go.ChangeAt Go.RowKit Att Att.CRing

set_option maxRecDepth 100000 in
set_option maxHeartbeats 30000000 in
theorem walk (w : World) (a0 : Option Addr) (len0 cap0 : Nat) (x0 : List Int) (a1 : Option Addr) (len1 cap1 : Nat) (x1 : List Int) (a2 : Option Addr) (len2 cap2 : Nat) (x2 : List Int) (hT : Tab w) (h_x0 : SW w a0 len0 cap0 x0) (h_x1 : SW w a1 len1 cap1 x1) (h_x2 : SW w a2 len2 cap2 x2) :
    Calls Tryd.prog 10 #[.slice a0 len0 cap0, .slice a1 len1 cap1, .slice a2 len2 cap2] w fun e w' => e = .returned (.bool true) ∧ Below w.heap.size w w' := by
  skip
  refine Calls.mono (R := fun e w' => e = .returned (.bool true) ∧ Gn w w') ?_ (fun e w' h => ⟨h.1, h.2.below⟩)
  go_enter Tryd.func10, Tryd.ntmps10
  go_wp2_with fail
  have hg : Gn w w := Gn.refl w
  refine (o_sanity4 _ hT).mono ?_
  rintro e w1 ⟨rfl, g⟩
  replace hg := hg.trans g
  replace hT := hT.up g
  replace h_x0 := h_x0.up g
  replace h_x1 := h_x1.up g
  replace h_x2 := h_x2.up g
  clear g
  go_wp2_with fail
  skip
  have e0 := min_nat len0 60
  obtain ⟨m0, hm0⟩ : ∃ m, m = min len0 60 := ⟨_, rfl⟩
  rw [← hm0] at e0
  have ml0 : m0 ≤ len0 := by omega
  have mk0 : m0 ≤ 60 := by omega
  have hs0 := fun w => slice_h (A := a0) (n := len0) (c := cap0) (h := m0) (Nat.le_trans ml0 h_x0.le) w
  have hc0 := h_x0.take ml0
  have L0 := take_redL x0 h_x0.len ml0
  replace e0 := Lib.hid e0
  clear hm0
  have e1 := min_nat len1 60
  obtain ⟨m1, hm1⟩ : ∃ m, m = min len1 60 := ⟨_, rfl⟩
  rw [← hm1] at e1
  have ml1 : m1 ≤ len1 := by omega
  have mk1 : m1 ≤ 60 := by omega
  have hs1 := fun w => slice_h (A := a1) (n := len1) (c := cap1) (h := m1) (Nat.le_trans ml1 h_x1.le) w
  have hc1 := h_x1.take ml1
  have L1 := take_redL x1 h_x1.len ml1
  replace e1 := Lib.hid e1
  clear hm1
  have e2 := min_nat len2 60
  obtain ⟨m2, hm2⟩ : ∃ m, m = min len2 60 := ⟨_, rfl⟩
  rw [← hm2] at e2
  have ml2 : m2 ≤ len2 := by omega
  have mk2 : m2 ≤ 60 := by omega
  have hs2 := fun w => slice_h (A := a2) (n := len2) (c := cap2) (h := m2) (Nat.le_trans ml2 h_x2.le) w
  have hc2 := h_x2.take ml2
  have L2 := take_redL x2 h_x2.len ml2
  replace e2 := Lib.hid e2
  clear hm2
  have i0 : isW _ _ w1 := ⟨_, _, _, rfl, h_x0.take ml0⟩
  have i1 : isW _ _ w1 := ⟨_, _, _, rfl, h_x1.take ml1⟩
  have i2 : isW _ _ w1 := ⟨_, _, _, rfl, h_x2.take ml2⟩
  try simp only [List.append_eq, List.cons_append, List.nil_append]
  refine Fk.wp_region_flow 18 (by kernel_rfl) (by kernel_rfl) ?_
  refine Fk.flow_one rfl (freeB_spec (by kernel_rfl)) ?_
  go_big_quiet_step (fail)
  refine wpQuiet_nil ?_
  refine Fk.flow_one rfl (freeB_spec (by kernel_rfl)) ?_
  go_big_quiet_step (fail)
  refine wpQuiet_nil ?_
  refine Fk.flow_is (freeB_spec (by kernel_rfl)) (is_len rfl) rfl ?_
  conv => arg 8; simp only [Act.put, List.setIfInBounds_toArray, List.set_cons_succ, List.set_cons_zero]
  refine Fk.flow_is (freeB_spec (by kernel_rfl)) (is_min rfl (e0.out)) rfl ?_
  conv => arg 8; simp only [Act.put, List.setIfInBounds_toArray, List.set_cons_succ, List.set_cons_zero]
  refine Fk.flow_is (freeB_spec (by kernel_rfl)) (is_sliceH hs0 rfl rfl) rfl ?_
  conv => arg 8; simp only [Act.put, List.setIfInBounds_toArray, List.set_cons_succ, List.set_cons_zero]
  refine flow_exS _ rfl (ex_call1 (k_made1 (by rw [hc0.len]; omega)) rfl (by kernel_rfl) (want_fill (by kernel_rfl) (by kernel_rfl)) (arg_w0 (by kernel_rfl) rfl i0)) ?_
  refine Fk.flow_one rfl (freeB_spec (by kernel_rfl)) ?_
  go_big_quiet_step (fail)
  refine wpQuiet_nil ?_
  refine Fk.flow_one rfl (freeB_spec (by kernel_rfl)) ?_
  go_big_quiet_step (fail)
  refine wpQuiet_nil ?_
  refine Fk.flow_is (freeB_spec (by kernel_rfl)) (is_len rfl) rfl ?_
  conv => arg 8; simp only [Act.put, List.setIfInBounds_toArray, List.set_cons_succ, List.set_cons_zero]
  refine Fk.flow_is (freeB_spec (by kernel_rfl)) (is_min rfl (e1.out)) rfl ?_
  conv => arg 8; simp only [Act.put, List.setIfInBounds_toArray, List.set_cons_succ, List.set_cons_zero]
  refine Fk.flow_is (freeB_spec (by kernel_rfl)) (is_sliceH hs1 rfl rfl) rfl ?_
  conv => arg 8; simp only [Act.put, List.setIfInBounds_toArray, List.set_cons_succ, List.set_cons_zero]
  refine flow_exS _ rfl (ex_call1 (k_made1 (by rw [hc1.len]; omega)) rfl (by kernel_rfl) (want_fill (by kernel_rfl) (by kernel_rfl)) (arg_w0 (by kernel_rfl) rfl i1)) ?_
  refine Fk.flow_one rfl (freeB_spec (by kernel_rfl)) ?_
  go_big_quiet_step (fail)
  refine wpQuiet_nil ?_
  refine Fk.flow_one rfl (freeB_spec (by kernel_rfl)) ?_
  go_big_quiet_step (fail)
  refine wpQuiet_nil ?_
  refine Fk.flow_is (freeB_spec (by kernel_rfl)) (is_len rfl) rfl ?_
  conv => arg 8; simp only [Act.put, List.setIfInBounds_toArray, List.set_cons_succ, List.set_cons_zero]
  refine Fk.flow_is (freeB_spec (by kernel_rfl)) (is_min rfl (e2.out)) rfl ?_
  conv => arg 8; simp only [Act.put, List.setIfInBounds_toArray, List.set_cons_succ, List.set_cons_zero]
  refine Fk.flow_is (freeB_spec (by kernel_rfl)) (is_sliceH hs2 rfl rfl) rfl ?_
  conv => arg 8; simp only [Act.put, List.setIfInBounds_toArray, List.set_cons_succ, List.set_cons_zero]
  refine flow_exS _ rfl (ex_call1 (k_made1 (by rw [hc2.len]; omega)) rfl (by kernel_rfl) (want_fill (by kernel_rfl) (by kernel_rfl)) (arg_w0 (by kernel_rfl) rfl i2)) ?_
  intro V N' X hΓ hdis g hX
  obtain ⟨Aa, ca, va, ha⟩ := end_fv hΓ hX 38 2 rfl
  obtain ⟨Ab, cb, vb, hb⟩ := end_fv hΓ hX 44 1 rfl
  obtain ⟨Ac, cc, vc, hc⟩ := end_fv hΓ hX 50 0 rfl
  clear hΓ hdis hX
  have hgn : Gn w1 (gr w1 g) := ⟨g, rfl⟩
  generalize gr w1 g = w2 at *
  replace hg := hg.trans hgn
  replace hT := hT.up hgn
  replace h_x0 := h_x0.up hgn
  replace h_x1 := h_x1.up hgn
  replace h_x2 := h_x2.up hgn
  clear hgn
  conv => arg 5; simp only [fill, Act.put, List.setIfInBounds_toArray, List.set_cons_succ, List.set_cons_zero, va, vb, vc]
  clear va
  clear vb
  clear vc
  clear i0 i1 i2 hc0 hc1 hc2 hs0 hs1 hs2 h_x0 h_x1 h_x2
  replace L0 := Lib.hid L0; replace L1 := Lib.hid L1; replace L2 := Lib.hid L2
  generalize redL (x0.take m0) = a at *
  generalize redL (x1.take m1) = b at *
  generalize redL (x2.take m2) = c at *
  obtain ⟨na, hna⟩ : ∃ n, n = a.length := ⟨_, rfl⟩
  obtain ⟨nb, hnb⟩ : ∃ n, n = b.length := ⟨_, rfl⟩
  obtain ⟨nc, hnc⟩ : ∃ n, n = c.length := ⟨_, rfl⟩
  have ka : na ≤ 60 := by rw [hna, L0.out]; exact mk0
  have kb : nb ≤ 60 := by rw [hnb, L1.out]; exact mk1
  have kc : nc ≤ 60 := by rw [hnc, L2.out]; exact mk2
  rw [← hna] at ha ⊢
  rw [← hnb] at hb ⊢
  rw [← hnc] at hc ⊢
  replace hna := Lib.hid hna; replace hnb := Lib.hid hnb; replace hnc := Lib.hid hnc
  obtain ⟨N, hN⟩ : ∃ N, N = max nb nc := ⟨_, rfl⟩
  have hN60 : N ≤ 60 := by omega
  have hNb : nb ≤ N := by omega
  have hNc : nc ≤ N := by omega
  replace hN := Lib.hid hN
  clear e0 e1 e2 mk0 mk1 mk2 ml0 ml1 ml2 L0 L1 L2
  go_wp2_with fail
  skip
  go_loopw [11, 12] (fun v i wr => ∃ k : Nat, k ≤ N ∧ i = .int .i64 k ∧ OF wr w2.heap.size v (tab k fun i => co b i + co c i) ∧ Gn w2 wr) (fun _ i _ => N - (intOf i).toNat)
  case atStart => exact ⟨0, by omega, rfl, OF.empty w2 (Nat.le_refl _), Gn.al _⟩
  case round =>
    obtain ⟨k, hk, rfl, ho, hr⟩ := hrel
    by_cases h0 : k < N
    · replace hb := hb.up hr; replace hc := hc.up hr
      have hst := tab_succ k fun i => co b i + co c i
      have lk2 : (tab k fun i => co b i + co c i).length ≤ 1024 := by rw [tab_length]; omega
      by_cases h1 : k < nb
      · by_cases h2 : k < nc
        · obtain ⟨b1, o1, x, E1, h1', p1, q1⟩ := hb.at_ h1
          first | cases E1 | (subst E1)
          try rw [Nat.zero_add] at q1
          rw [coF_at h1'] at hst
          clear h1'
          obtain ⟨b2, o2, y, E2, h2', p2, q2⟩ := hc.at_ h2
          first | cases E2 | (subst E2)
          try rw [Nat.zero_add] at q2
          rw [coF_at h2'] at hst
          clear h2'
          replace hst := Lib.hid hst
          generalize (tab k fun i => co b i + co c i) = T at *
          clear hg hT
          go_wp2_with fail
          refine (r_addF x y _).mono ?_
          rintro e w5 ⟨rfl, rfl⟩
          go_wp2_with (at_builtin; refine wpList_appF (.tmp 82) (.tmp 84) rfl (ho.up (Gn.al _)) (by have := hr.size; simp; omega) rfl ((BF.one (x + y)).sf (by simp)) (by simp; omega) ?_; intro v4 w4 ho4 hg4; have hg5 := grown_gnF (hr.trans (Gn.al _)) (ho.up (Gn.al _)) (Nat.le_refl _) hg4; clear hg4)
          exact ⟨⟨k + 1, by omega, by go_num, by rw [hst.out]; exact ho4, hg5⟩, by simp [intOf]; omega⟩
        · obtain ⟨b1, o1, x, E1, h1', p1, q1⟩ := hb.at_ h1
          first | cases E1 | (subst E1)
          try rw [Nat.zero_add] at q1
          rw [coF_at h1'] at hst
          clear h1'
          rw [co_big c k (by rw [← hnc.out]; omega)] at hst
          rw [add_zero] at hst
          replace hst := Lib.hid hst
          generalize (tab k fun i => co b i + co c i) = T at *
          clear hg hT
          have b2 : decide (k < nc) = false := decide_eq_false h2
          have b2' : decide ((k : Int) < (nc : Int)) = false := decide_eq_false (by omega)
          go_wp2_with (at_builtin; refine wpList_appF (.tmp 82) (.tmp 84) rfl (ho.up (Gn.al _)) (by have := hr.size; simp; omega) rfl ((BF.one (x)).sf (by simp)) (by simp; omega) ?_; intro v4 w4 ho4 hg4; have hg5 := grown_gnF (hr.trans (Gn.al _)) (ho.up (Gn.al _)) (Nat.le_refl _) hg4; clear hg4)
          exact ⟨⟨k + 1, by omega, by go_num, by rw [hst.out]; exact ho4, hg5⟩, by simp [intOf]; omega⟩
      · have h2 : k < nc := by have := hN.out; omega
        rw [co_big b k (by rw [← hnb.out]; omega)] at hst
        obtain ⟨b2, o2, y, E2, h2', p2, q2⟩ := hc.at_ h2
        first | cases E2 | (subst E2)
        try rw [Nat.zero_add] at q2
        rw [coF_at h2'] at hst
        clear h2'
        rw [zero_add] at hst
        replace hst := Lib.hid hst
        generalize (tab k fun i => co b i + co c i) = T at *
        clear hg hT
        have b1 : decide (k < nb) = false := decide_eq_false h1
        have b1' : decide ((k : Int) < (nb : Int)) = false := decide_eq_false (by omega)
        go_wp2_with fail
        refine (r_add0 y _).mono ?_
        rintro e w5 ⟨rfl, rfl⟩
        go_wp2_with (at_builtin; refine wpList_appF (.tmp 82) (.tmp 84) rfl (ho.up (Gn.al _)) (by have := hr.size; simp; omega) rfl ((BF.one (y)).sf (by simp)) (by simp; omega) ?_; intro v4 w4 ho4 hg4; have hg5 := grown_gnF (hr.trans (Gn.al _)) (ho.up (Gn.al _)) (Nat.le_refl _) hg4; clear hg4)
        exact ⟨⟨k + 1, by omega, by go_num, by rw [hst.out]; exact ho4, hg5⟩, by simp [intOf]; omega⟩
    · obtain rfl : k = N := by omega
      have b1 : decide (k < nb) = false := decide_eq_false (by omega)
      have b1' : decide ((k : Int) < (nb : Int)) = false := decide_eq_false (by omega)
      have b2 : decide (k < nc) = false := decide_eq_false (by omega)
      have b2' : decide ((k : Int) < (nc : Int)) = false := decide_eq_false (by omega)
      have hte : (tab k fun i => co b i + co c i) = padd b c := by unfold padd; rw [← hnb.out, ← hnc.out, ← hN.out]
      rw [hte] at ho
      clear hte
      obtain ⟨t, hte⟩ : ∃ t, t = padd b c := ⟨_, rfl⟩
      have lt : t.length = k := by rw [hte]; unfold padd; rw [tab_length, ← hnb.out, ← hnc.out, ← hN.out]
      rw [← hte] at ho
      obtain ⟨At, ct, rfl, ht⟩ := ho.sf
      rw [lt] at ht
      rw [lt]
      clear ho
      have la := hna.out.symm; have lb := hnb.out.symm; have lc := hnc.out.symm
      obtain ⟨ab, hab⟩ : ∃ t, t = mm a b := ⟨_, rfl⟩
      obtain ⟨bc, hbc⟩ : ∃ t, t = mm b c := ⟨_, rfl⟩
      obtain ⟨ac, hac⟩ : ∃ t, t = mm a c := ⟨_, rfl⟩
      obtain ⟨lf, hlf⟩ : ∃ t, t = mm ab c := ⟨_, rfl⟩
      obtain ⟨al, hal⟩ : ∃ q, q = mm a t := ⟨_, rfl⟩
      have hba : mm b a = ab := by rw [hab, mm_comm]
      have hrt : mm a bc = lf := by rw [hbc, hlf, hab, mm_assoc]
      have bnd : ∀ l k : List F, l.length ≤ 1000 → k.length ≤ 1000 → (mm l k).length ≤ l.length + k.length := by
        intro l k _ _
        rcases Nat.eq_zero_or_pos l.length with h | h
        · rw [mm_len0 (.inl h)]; omega
        · rcases Nat.eq_zero_or_pos k.length with h2 | h2
          · rw [mm_len0 (.inr h2)]; omega
          · rw [mm_len h h2]; omega
      have kab := bnd a b (by omega) (by omega)
      have kbc := bnd b c (by omega) (by omega)
      have kac := bnd a c (by omega) (by omega)
      have kal := bnd a t (by omega) (by omega)
      rw [← hab] at kab; rw [← hbc] at kbc; rw [← hac] at kac; rw [← hal] at kal
      have klf := bnd ab c (by omega) (by omega)
      rw [← hlf] at klf
      clear bnd
      have E1 : mulOf a b = (ab, 0) := by rw [hab]; exact mulOf_mm (by omega) (by omega)
      have E2 : mulOf b a = (ab, 0) := by rw [← hba]; exact mulOf_mm (by omega) (by omega)
      have E3 : mulOf b c = (bc, 0) := by rw [hbc]; exact mulOf_mm (by omega) (by omega)
      have E4 : mulOf a c = (ac, 0) := by rw [hac]; exact mulOf_mm (by omega) (by omega)
      have E5 : mulOf ab c = (lf, 0) := by rw [hlf]; exact mulOf_mm (by omega) (by omega)
      have E6 : mulOf a bc = (lf, 0) := by rw [← hrt]; exact mulOf_mm (by omega) (by omega)
      have E7 : mulOf a t = (al, 0) := by rw [hal]; exact mulOf_mm (by omega) (by omega)
      have E8 : mulOf a [fo 1] = (a, 0) := by
        have h := mulOf_mm (l := a) (k := [fo 1]) (by omega) (by simp)
        rwa [mm_one] at h
      have hV : ∀ i, co al i = co ab i + co ac i := fun i => by rw [hal, hab, hac, hte]; exact co_mm_add a b c i
      obtain ⟨nab, hnab⟩ : ∃ n, n = ab.length := ⟨_, rfl⟩
      obtain ⟨nac, hnac⟩ : ∃ n, n = ac.length := ⟨_, rfl⟩
      obtain ⟨nal, hnal⟩ : ∃ n, n = al.length := ⟨_, rfl⟩
      obtain ⟨nlf, hnlf⟩ : ∃ n, n = lf.length := ⟨_, rfl⟩
      obtain ⟨nbc, hnbc⟩ : ∃ n, n = bc.length := ⟨_, rfl⟩
      have hmax : 0 < nb → 0 < nc → 0 < na → nal = max nab nac := by
        intro h1 h2 h3
        have e1 := mm_len (l := a) (k := b) (by omega) (by omega)
        have e2 := mm_len (l := a) (k := c) (by omega) (by omega)
        have e3 := mm_len (l := a) (k := t) (by omega) (by have := hN.out; omega)
        rw [← hab] at e1; rw [← hac] at e2; rw [← hal] at e3
        have := hN.out
        omega
      rw [← hnab] at kab; rw [← hnac] at kac; rw [← hnal] at kal; rw [← hnlf] at klf; rw [← hnbc] at kbc
      rw [la, lb] at kab; rw [lb, lc] at kbc; rw [la, lc] at kac; rw [la, lt] at kal; rw [← hnab, lc] at klf
      clear hab hbc hac hlf hal hba hrt
      replace hte := Lib.hid hte; replace lt := Lib.hid lt; replace la := Lib.hid la; replace lb := Lib.hid lb; replace lc := Lib.hid lc
      replace hV := Lib.hid hV; replace hmax := Lib.hid hmax
      replace hnab := Lib.hid hnab.symm; replace hnac := Lib.hid hnac.symm; replace hnal := Lib.hid hnal.symm; replace hnlf := Lib.hid hnlf.symm; replace hnbc := Lib.hid hnbc.symm
      replace E1 := Lib.hid E1; replace E2 := Lib.hid E2; replace E3 := Lib.hid E3; replace E4 := Lib.hid E4; replace E5 := Lib.hid E5; replace E6 := Lib.hid E6; replace E7 := Lib.hid E7; replace E8 := Lib.hid E8
      replace hg := hg.trans hr
      replace hT := hT.up hr
      replace ha := ha.up hr
      replace hb := hb.up hr
      replace hc := hc.up hr
      clear hr
      go_wp2_with fail
      skip
      clear b1 b1' b2 b2'
      refine (n_mul _ _ _ _ _ _ _ _ _ hT ha hb (by omega) (by omega)).mono ?_
      rintro e w31 hR
      rw [E1.out] at hR
      obtain ⟨Ahab, chab, rfl, hab, g⟩ := hR.get hnab.out
      replace hg := hg.trans g
      replace hT := hT.up g
      replace ha := ha.up g
      replace hb := hb.up g
      replace hc := hc.up g
      replace ht := ht.up g
      clear g
      go_wp2_with fail
      skip
      refine (n_mul _ _ _ _ _ _ _ _ _ hT hb ha (by omega) (by omega)).mono ?_
      rintro e w32 hR
      rw [E2.out] at hR
      obtain ⟨Ahba, chba, rfl, hba, g⟩ := hR.get hnab.out
      replace hg := hg.trans g
      replace hT := hT.up g
      replace ha := ha.up g
      replace hb := hb.up g
      replace hc := hc.up g
      replace ht := ht.up g
      replace hab := hab.up g
      clear g
      go_wp2_with fail
      skip
      refine (n_mul _ _ _ _ _ _ _ _ _ hT hb hc (by omega) (by omega)).mono ?_
      rintro e w33 hR
      rw [E3.out] at hR
      obtain ⟨Ahbc, chbc, rfl, hbc, g⟩ := hR.get hnbc.out
      replace hg := hg.trans g
      replace hT := hT.up g
      replace ha := ha.up g
      replace hb := hb.up g
      replace hc := hc.up g
      replace ht := ht.up g
      replace hab := hab.up g
      replace hba := hba.up g
      clear g
      go_wp2_with fail
      skip
      refine (n_mul _ _ _ _ _ _ _ _ _ hT ha hc (by omega) (by omega)).mono ?_
      rintro e w34 hR
      rw [E4.out] at hR
      obtain ⟨Ahac, chac, rfl, hac, g⟩ := hR.get hnac.out
      replace hg := hg.trans g
      replace hT := hT.up g
      replace ha := ha.up g
      replace hb := hb.up g
      replace hc := hc.up g
      replace ht := ht.up g
      replace hab := hab.up g
      replace hba := hba.up g
      replace hbc := hbc.up g
      clear g
      go_wp2_with fail
      skip
      refine (n_mul _ _ _ _ _ _ _ _ _ hT hab hc (by omega) (by omega)).mono ?_
      rintro e w35 hR
      rw [E5.out] at hR
      obtain ⟨Ahlf, chlf, rfl, hlf, g⟩ := hR.get hnlf.out
      replace hg := hg.trans g
      replace hT := hT.up g
      replace ha := ha.up g
      replace hb := hb.up g
      replace hc := hc.up g
      replace ht := ht.up g
      replace hab := hab.up g
      replace hba := hba.up g
      replace hbc := hbc.up g
      replace hac := hac.up g
      clear g
      go_wp2_with fail
      skip
      refine (n_mul _ _ _ _ _ _ _ _ _ hT ha hbc (by omega) (by omega)).mono ?_
      rintro e w36 hR
      rw [E6.out] at hR
      obtain ⟨Ahrt, chrt, rfl, hrt, g⟩ := hR.get hnlf.out
      replace hg := hg.trans g
      replace hT := hT.up g
      replace ha := ha.up g
      replace hb := hb.up g
      replace hc := hc.up g
      replace ht := ht.up g
      replace hab := hab.up g
      replace hba := hba.up g
      replace hbc := hbc.up g
      replace hac := hac.up g
      replace hlf := hlf.up g
      clear g
      go_wp2_with fail
      skip
      refine (n_mul _ _ _ _ _ _ _ _ _ hT ha ht (by omega) (by omega)).mono ?_
      rintro e w37 hR
      rw [E7.out] at hR
      obtain ⟨Ahal, chal, rfl, hal, g⟩ := hR.get hnal.out
      replace hg := hg.trans g
      replace hT := hT.up g
      replace ha := ha.up g
      replace hb := hb.up g
      replace hc := hc.up g
      replace ht := ht.up g
      replace hab := hab.up g
      replace hba := hba.up g
      replace hbc := hbc.up g
      replace hac := hac.up g
      replace hlf := hlf.up g
      replace hrt := hrt.up g
      clear g
      go_wp2_with fail
      skip
      have h1 : SF (w37.alloc (.cells #[.int .u64 1] 34)) (some ⟨w37.heap.size, 0, none⟩) 1 1 [fo 1] := litF [1] (by decide) (by decide)
      replace hg := hg.trans (Gn.al (w := w37) (.cells #[.int .u64 1] 34))
      replace hT := hT.up (Gn.al (w := w37) (.cells #[.int .u64 1] 34))
      replace ha := ha.up (Gn.al (w := w37) (.cells #[.int .u64 1] 34))
      replace hb := hb.up (Gn.al (w := w37) (.cells #[.int .u64 1] 34))
      replace hc := hc.up (Gn.al (w := w37) (.cells #[.int .u64 1] 34))
      replace ht := ht.up (Gn.al (w := w37) (.cells #[.int .u64 1] 34))
      replace hab := hab.up (Gn.al (w := w37) (.cells #[.int .u64 1] 34))
      replace hba := hba.up (Gn.al (w := w37) (.cells #[.int .u64 1] 34))
      replace hbc := hbc.up (Gn.al (w := w37) (.cells #[.int .u64 1] 34))
      replace hac := hac.up (Gn.al (w := w37) (.cells #[.int .u64 1] 34))
      replace hlf := hlf.up (Gn.al (w := w37) (.cells #[.int .u64 1] 34))
      replace hrt := hrt.up (Gn.al (w := w37) (.cells #[.int .u64 1] 34))
      replace hal := hal.up (Gn.al (w := w37) (.cells #[.int .u64 1] 34))
      skip
      generalize w37.alloc (.cells #[.int .u64 1] 34) = w38 at *
      generalize w37.heap.size = bh1 at *
      refine (n_mul _ _ _ _ _ _ _ _ _ hT ha h1 (by omega) (by omega)).mono ?_
      rintro e w39 hR
      rw [E8.out] at hR
      obtain ⟨Ahone, chone, rfl, hone, g⟩ := hR.get la.out
      replace hg := hg.trans g
      replace hT := hT.up g
      replace ha := ha.up g
      replace hb := hb.up g
      replace hc := hc.up g
      replace ht := ht.up g
      replace hab := hab.up g
      replace hba := hba.up g
      replace hbc := hbc.up g
      replace hac := hac.up g
      replace hlf := hlf.up g
      replace hrt := hrt.up g
      replace hal := hal.up g
      replace h1 := h1.up g
      clear g
      rcases Nat.eq_zero_or_pos nb with z1 | z1
      · have z1' : ((nb : Int) > 0) = False := by simp; omega
        have z1'' : decide ((0 : Int) < (nb : Int)) = false := decide_eq_false (by omega)
        go_wp2_with fail
        skip
        go_loopw [30] (fun v wr => ∃ i : Nat, i ≤ nal ∧ v = .int .i64 i ∧ Gn w39 wr) (fun v _ => nal - (intOf v).toNat)
        case atStart => exact ⟨0, by omega, rfl, Gn.refl _⟩
        case round =>
          obtain ⟨i, hi, rfl, hr2⟩ := hrel
          by_cases h0 : i < nal
          · replace hab := hab.up hr2; replace hac := hac.up hr2; replace hal := hal.up hr2
            have hv := hV.out i
            clear hg
            by_cases h1 : i < nab
            · by_cases h2 : i < nac
              · obtain ⟨b1, o1, x, E1, h1', p1, q1⟩ := hab.at_ h1
                first | cases E1 | (subst E1)
                try rw [Nat.zero_add] at q1
                rw [coF_at h1'] at hv
                clear h1'
                obtain ⟨b2, o2, y, E2, h2', p2, q2⟩ := hac.at_ h2
                first | cases E2 | (subst E2)
                try rw [Nat.zero_add] at q2
                rw [coF_at h2'] at hv
                clear h2'
                obtain ⟨b3, o3, z, E3, h3', p3, q3⟩ := hal.at_ h0
                first | cases E3 | (subst E3)
                try rw [Nat.zero_add] at q3
                rw [coF_at h3'] at hv
                rw [hv] at q3
                clear h3' hv
                go_wp2_with fail
                refine (r_reduceF x _).mono ?_
                rintro e w5 ⟨rfl, rfl⟩
                go_wp2_with fail
                refine (r_reduceF y _).mono ?_
                rintro e w5 ⟨rfl, rfl⟩
                go_wp2_with fail
                refine (r_addF x y _).mono ?_
                rintro e w5 ⟨rfl, rfl⟩
                go_wp2_with fail
                exact ⟨⟨i + 1, by omega, by go_num, hr2⟩, by simp [intOf]; omega⟩
              · obtain ⟨b1, o1, x, E1, h1', p1, q1⟩ := hab.at_ h1
                first | cases E1 | (subst E1)
                try rw [Nat.zero_add] at q1
                rw [coF_at h1'] at hv
                clear h1'
                rw [co_big ac i (by rw [hnac.out]; omega)] at hv
                have b2 : decide (i < nac) = false := decide_eq_false h2
                have b2' : decide ((i : Int) < (nac : Int)) = false := decide_eq_false (by omega)
                rw [add_zero] at hv
                obtain ⟨b3, o3, z, E3, h3', p3, q3⟩ := hal.at_ h0
                first | cases E3 | (subst E3)
                try rw [Nat.zero_add] at q3
                rw [coF_at h3'] at hv
                rw [hv] at q3
                clear h3' hv
                go_wp2_with fail
                refine (r_reduceF x _).mono ?_
                rintro e w5 ⟨rfl, rfl⟩
                go_wp2_with fail
                exact ⟨⟨i + 1, by omega, by go_num, hr2⟩, by simp [intOf]; omega⟩
            · by_cases h2 : i < nac
              · rw [co_big ab i (by rw [hnab.out]; omega)] at hv
                have b1 : decide (i < nab) = false := decide_eq_false h1
                have b1' : decide ((i : Int) < (nab : Int)) = false := decide_eq_false (by omega)
                obtain ⟨b2, o2, y, E2, h2', p2, q2⟩ := hac.at_ h2
                first | cases E2 | (subst E2)
                try rw [Nat.zero_add] at q2
                rw [coF_at h2'] at hv
                clear h2'
                rw [zero_add] at hv
                obtain ⟨b3, o3, z, E3, h3', p3, q3⟩ := hal.at_ h0
                first | cases E3 | (subst E3)
                try rw [Nat.zero_add] at q3
                rw [coF_at h3'] at hv
                rw [hv] at q3
                clear h3' hv
                go_wp2_with fail
                refine (r_reduceF y _).mono ?_
                rintro e w5 ⟨rfl, rfl⟩
                go_wp2_with fail
                refine (r_add0 y _).mono ?_
                rintro e w5 ⟨rfl, rfl⟩
                go_wp2_with fail
                exact ⟨⟨i + 1, by omega, by go_num, hr2⟩, by simp [intOf]; omega⟩
              · rw [co_big ab i (by rw [hnab.out]; omega)] at hv
                have b1 : decide (i < nab) = false := decide_eq_false h1
                have b1' : decide ((i : Int) < (nab : Int)) = false := decide_eq_false (by omega)
                rw [co_big ac i (by rw [hnac.out]; omega)] at hv
                have b2 : decide (i < nac) = false := decide_eq_false h2
                have b2' : decide ((i : Int) < (nac : Int)) = false := decide_eq_false (by omega)
                rw [add_zero] at hv
                obtain ⟨b3, o3, z, E3, h3', p3, q3⟩ := hal.at_ h0
                first | cases E3 | (subst E3)
                try rw [Nat.zero_add] at q3
                rw [coF_at h3'] at hv
                rw [hv] at q3
                clear h3' hv
                have hz0 : Zm.i (0 : F) = 0 := i_zero
                rw [hz0] at q3
                clear hz0
                go_wp2_with fail
                exact ⟨⟨i + 1, by omega, by go_num, hr2⟩, by simp [intOf]; omega⟩
          · obtain rfl : i = nal := by omega
            replace hg := hg.trans hr2
            replace ha := ha.up hr2
            replace hab := hab.up hr2
            replace hba := hba.up hr2
            replace hlf := hlf.up hr2
            replace hrt := hrt.up hr2
            replace hone := hone.up hr2
            clear hr2
            go_wp2_with fail
            skip
            refine (r_same_true hab hba rfl).mono ?_
            rintro e w61 ⟨rfl, g⟩
            replace hg := hg.trans g
            replace ha := ha.up g
            replace hab := hab.up g
            replace hba := hba.up g
            replace hlf := hlf.up g
            replace hrt := hrt.up g
            replace hone := hone.up g
            clear g
            go_wp2_with fail
            skip
            refine (r_same_true hlf hrt rfl).mono ?_
            rintro e w62 ⟨rfl, g⟩
            replace hg := hg.trans g
            replace ha := ha.up g
            replace hab := hab.up g
            replace hba := hba.up g
            replace hlf := hlf.up g
            replace hrt := hrt.up g
            replace hone := hone.up g
            clear g
            go_wp2_with fail
            skip
            refine (r_same_true hone ha rfl).mono ?_
            rintro e w63 ⟨rfl, g⟩
            replace hg := hg.trans g
            replace ha := ha.up g
            replace hab := hab.up g
            replace hba := hba.up g
            replace hlf := hlf.up g
            replace hrt := hrt.up g
            replace hone := hone.up g
            clear g
            go_wp2_with fail
            skip
            go_ret
            exact ⟨rfl, hg⟩
      · rcases Nat.eq_zero_or_pos nc with z2 | z2
        · have z2'' : decide ((0 : Int) < (nc : Int)) = false := decide_eq_false (by omega)
          go_wp2_with fail
          skip
          go_loopw [30] (fun v wr => ∃ i : Nat, i ≤ nal ∧ v = .int .i64 i ∧ Gn w39 wr) (fun v _ => nal - (intOf v).toNat)
          case atStart => exact ⟨0, by omega, rfl, Gn.refl _⟩
          case round =>
            obtain ⟨i, hi, rfl, hr2⟩ := hrel
            by_cases h0 : i < nal
            · replace hab := hab.up hr2; replace hac := hac.up hr2; replace hal := hal.up hr2
              have hv := hV.out i
              clear hg
              by_cases h1 : i < nab
              · by_cases h2 : i < nac
                · obtain ⟨b1, o1, x, E1, h1', p1, q1⟩ := hab.at_ h1
                  first | cases E1 | (subst E1)
                  try rw [Nat.zero_add] at q1
                  rw [coF_at h1'] at hv
                  clear h1'
                  obtain ⟨b2, o2, y, E2, h2', p2, q2⟩ := hac.at_ h2
                  first | cases E2 | (subst E2)
                  try rw [Nat.zero_add] at q2
                  rw [coF_at h2'] at hv
                  clear h2'
                  obtain ⟨b3, o3, z, E3, h3', p3, q3⟩ := hal.at_ h0
                  first | cases E3 | (subst E3)
                  try rw [Nat.zero_add] at q3
                  rw [coF_at h3'] at hv
                  rw [hv] at q3
                  clear h3' hv
                  go_wp2_with fail
                  refine (r_reduceF x _).mono ?_
                  rintro e w5 ⟨rfl, rfl⟩
                  go_wp2_with fail
                  refine (r_reduceF y _).mono ?_
                  rintro e w5 ⟨rfl, rfl⟩
                  go_wp2_with fail
                  refine (r_addF x y _).mono ?_
                  rintro e w5 ⟨rfl, rfl⟩
                  go_wp2_with fail
                  exact ⟨⟨i + 1, by omega, by go_num, hr2⟩, by simp [intOf]; omega⟩
                · obtain ⟨b1, o1, x, E1, h1', p1, q1⟩ := hab.at_ h1
                  first | cases E1 | (subst E1)
                  try rw [Nat.zero_add] at q1
                  rw [coF_at h1'] at hv
                  clear h1'
                  rw [co_big ac i (by rw [hnac.out]; omega)] at hv
                  have b2 : decide (i < nac) = false := decide_eq_false h2
                  have b2' : decide ((i : Int) < (nac : Int)) = false := decide_eq_false (by omega)
                  rw [add_zero] at hv
                  obtain ⟨b3, o3, z, E3, h3', p3, q3⟩ := hal.at_ h0
                  first | cases E3 | (subst E3)
                  try rw [Nat.zero_add] at q3
                  rw [coF_at h3'] at hv
                  rw [hv] at q3
                  clear h3' hv
                  go_wp2_with fail
                  refine (r_reduceF x _).mono ?_
                  rintro e w5 ⟨rfl, rfl⟩
                  go_wp2_with fail
                  exact ⟨⟨i + 1, by omega, by go_num, hr2⟩, by simp [intOf]; omega⟩
              · by_cases h2 : i < nac
                · rw [co_big ab i (by rw [hnab.out]; omega)] at hv
                  have b1 : decide (i < nab) = false := decide_eq_false h1
                  have b1' : decide ((i : Int) < (nab : Int)) = false := decide_eq_false (by omega)
                  obtain ⟨b2, o2, y, E2, h2', p2, q2⟩ := hac.at_ h2
                  first | cases E2 | (subst E2)
                  try rw [Nat.zero_add] at q2
                  rw [coF_at h2'] at hv
                  clear h2'
                  rw [zero_add] at hv
                  obtain ⟨b3, o3, z, E3, h3', p3, q3⟩ := hal.at_ h0
                  first | cases E3 | (subst E3)
                  try rw [Nat.zero_add] at q3
                  rw [coF_at h3'] at hv
                  rw [hv] at q3
                  clear h3' hv
                  go_wp2_with fail
                  refine (r_reduceF y _).mono ?_
                  rintro e w5 ⟨rfl, rfl⟩
                  go_wp2_with fail
                  refine (r_add0 y _).mono ?_
                  rintro e w5 ⟨rfl, rfl⟩
                  go_wp2_with fail
                  exact ⟨⟨i + 1, by omega, by go_num, hr2⟩, by simp [intOf]; omega⟩
                · rw [co_big ab i (by rw [hnab.out]; omega)] at hv
                  have b1 : decide (i < nab) = false := decide_eq_false h1
                  have b1' : decide ((i : Int) < (nab : Int)) = false := decide_eq_false (by omega)
                  rw [co_big ac i (by rw [hnac.out]; omega)] at hv
                  have b2 : decide (i < nac) = false := decide_eq_false h2
                  have b2' : decide ((i : Int) < (nac : Int)) = false := decide_eq_false (by omega)
                  rw [add_zero] at hv
                  obtain ⟨b3, o3, z, E3, h3', p3, q3⟩ := hal.at_ h0
                  first | cases E3 | (subst E3)
                  try rw [Nat.zero_add] at q3
                  rw [coF_at h3'] at hv
                  rw [hv] at q3
                  clear h3' hv
                  have hz0 : Zm.i (0 : F) = 0 := i_zero
                  rw [hz0] at q3
                  clear hz0
                  go_wp2_with fail
                  exact ⟨⟨i + 1, by omega, by go_num, hr2⟩, by simp [intOf]; omega⟩
            · obtain rfl : i = nal := by omega
              replace hg := hg.trans hr2
              replace ha := ha.up hr2
              replace hab := hab.up hr2
              replace hba := hba.up hr2
              replace hlf := hlf.up hr2
              replace hrt := hrt.up hr2
              replace hone := hone.up hr2
              clear hr2
              go_wp2_with fail
              skip
              refine (r_same_true hab hba rfl).mono ?_
              rintro e w61 ⟨rfl, g⟩
              replace hg := hg.trans g
              replace ha := ha.up g
              replace hab := hab.up g
              replace hba := hba.up g
              replace hlf := hlf.up g
              replace hrt := hrt.up g
              replace hone := hone.up g
              clear g
              go_wp2_with fail
              skip
              refine (r_same_true hlf hrt rfl).mono ?_
              rintro e w62 ⟨rfl, g⟩
              replace hg := hg.trans g
              replace ha := ha.up g
              replace hab := hab.up g
              replace hba := hba.up g
              replace hlf := hlf.up g
              replace hrt := hrt.up g
              replace hone := hone.up g
              clear g
              go_wp2_with fail
              skip
              refine (r_same_true hone ha rfl).mono ?_
              rintro e w63 ⟨rfl, g⟩
              replace hg := hg.trans g
              replace ha := ha.up g
              replace hab := hab.up g
              replace hba := hba.up g
              replace hlf := hlf.up g
              replace hrt := hrt.up g
              replace hone := hone.up g
              clear g
              go_wp2_with fail
              skip
              go_ret
              exact ⟨rfl, hg⟩
        · rcases Nat.eq_zero_or_pos na with z3 | z3
          · have z3'' : decide ((0 : Int) < (na : Int)) = false := decide_eq_false (by omega)
            have z3' : decide (0 < na) = false := decide_eq_false (by omega)
            replace z3 := Lib.hid z3
            go_wp2_with fail
            skip
            go_loopw [30] (fun v wr => ∃ i : Nat, i ≤ nal ∧ v = .int .i64 i ∧ Gn w39 wr) (fun v _ => nal - (intOf v).toNat)
            case atStart => exact ⟨0, by omega, rfl, Gn.refl _⟩
            case round =>
              obtain ⟨i, hi, rfl, hr2⟩ := hrel
              by_cases h0 : i < nal
              · replace hab := hab.up hr2; replace hac := hac.up hr2; replace hal := hal.up hr2
                have hv := hV.out i
                clear hg
                by_cases h1 : i < nab
                · by_cases h2 : i < nac
                  · obtain ⟨b1, o1, x, E1, h1', p1, q1⟩ := hab.at_ h1
                    first | cases E1 | (subst E1)
                    try rw [Nat.zero_add] at q1
                    rw [coF_at h1'] at hv
                    clear h1'
                    obtain ⟨b2, o2, y, E2, h2', p2, q2⟩ := hac.at_ h2
                    first | cases E2 | (subst E2)
                    try rw [Nat.zero_add] at q2
                    rw [coF_at h2'] at hv
                    clear h2'
                    obtain ⟨b3, o3, z, E3, h3', p3, q3⟩ := hal.at_ h0
                    first | cases E3 | (subst E3)
                    try rw [Nat.zero_add] at q3
                    rw [coF_at h3'] at hv
                    rw [hv] at q3
                    clear h3' hv
                    go_wp2_with fail
                    refine (r_reduceF x _).mono ?_
                    rintro e w5 ⟨rfl, rfl⟩
                    go_wp2_with fail
                    refine (r_reduceF y _).mono ?_
                    rintro e w5 ⟨rfl, rfl⟩
                    go_wp2_with fail
                    refine (r_addF x y _).mono ?_
                    rintro e w5 ⟨rfl, rfl⟩
                    go_wp2_with fail
                    exact ⟨⟨i + 1, by omega, by go_num, hr2⟩, by simp [intOf]; omega⟩
                  · obtain ⟨b1, o1, x, E1, h1', p1, q1⟩ := hab.at_ h1
                    first | cases E1 | (subst E1)
                    try rw [Nat.zero_add] at q1
                    rw [coF_at h1'] at hv
                    clear h1'
                    rw [co_big ac i (by rw [hnac.out]; omega)] at hv
                    have b2 : decide (i < nac) = false := decide_eq_false h2
                    have b2' : decide ((i : Int) < (nac : Int)) = false := decide_eq_false (by omega)
                    rw [add_zero] at hv
                    obtain ⟨b3, o3, z, E3, h3', p3, q3⟩ := hal.at_ h0
                    first | cases E3 | (subst E3)
                    try rw [Nat.zero_add] at q3
                    rw [coF_at h3'] at hv
                    rw [hv] at q3
                    clear h3' hv
                    go_wp2_with fail
                    refine (r_reduceF x _).mono ?_
                    rintro e w5 ⟨rfl, rfl⟩
                    go_wp2_with fail
                    exact ⟨⟨i + 1, by omega, by go_num, hr2⟩, by simp [intOf]; omega⟩
                · by_cases h2 : i < nac
                  · rw [co_big ab i (by rw [hnab.out]; omega)] at hv
                    have b1 : decide (i < nab) = false := decide_eq_false h1
                    have b1' : decide ((i : Int) < (nab : Int)) = false := decide_eq_false (by omega)
                    obtain ⟨b2, o2, y, E2, h2', p2, q2⟩ := hac.at_ h2
                    first | cases E2 | (subst E2)
                    try rw [Nat.zero_add] at q2
                    rw [coF_at h2'] at hv
                    clear h2'
                    rw [zero_add] at hv
                    obtain ⟨b3, o3, z, E3, h3', p3, q3⟩ := hal.at_ h0
                    first | cases E3 | (subst E3)
                    try rw [Nat.zero_add] at q3
                    rw [coF_at h3'] at hv
                    rw [hv] at q3
                    clear h3' hv
                    go_wp2_with fail
                    refine (r_reduceF y _).mono ?_
                    rintro e w5 ⟨rfl, rfl⟩
                    go_wp2_with fail
                    refine (r_add0 y _).mono ?_
                    rintro e w5 ⟨rfl, rfl⟩
                    go_wp2_with fail
                    exact ⟨⟨i + 1, by omega, by go_num, hr2⟩, by simp [intOf]; omega⟩
                  · rw [co_big ab i (by rw [hnab.out]; omega)] at hv
                    have b1 : decide (i < nab) = false := decide_eq_false h1
                    have b1' : decide ((i : Int) < (nab : Int)) = false := decide_eq_false (by omega)
                    rw [co_big ac i (by rw [hnac.out]; omega)] at hv
                    have b2 : decide (i < nac) = false := decide_eq_false h2
                    have b2' : decide ((i : Int) < (nac : Int)) = false := decide_eq_false (by omega)
                    rw [add_zero] at hv
                    obtain ⟨b3, o3, z, E3, h3', p3, q3⟩ := hal.at_ h0
                    first | cases E3 | (subst E3)
                    try rw [Nat.zero_add] at q3
                    rw [coF_at h3'] at hv
                    rw [hv] at q3
                    clear h3' hv
                    have hz0 : Zm.i (0 : F) = 0 := i_zero
                    rw [hz0] at q3
                    clear hz0
                    go_wp2_with fail
                    exact ⟨⟨i + 1, by omega, by go_num, hr2⟩, by simp [intOf]; omega⟩
              · obtain rfl : i = nal := by omega
                replace hg := hg.trans hr2
                replace ha := ha.up hr2
                replace hab := hab.up hr2
                replace hba := hba.up hr2
                replace hlf := hlf.up hr2
                replace hrt := hrt.up hr2
                replace hone := hone.up hr2
                clear hr2
                go_wp2_with fail
                skip
                refine (r_same_true hab hba rfl).mono ?_
                rintro e w61 ⟨rfl, g⟩
                replace hg := hg.trans g
                replace ha := ha.up g
                replace hab := hab.up g
                replace hba := hba.up g
                replace hlf := hlf.up g
                replace hrt := hrt.up g
                replace hone := hone.up g
                clear g
                go_wp2_with fail
                skip
                refine (r_same_true hlf hrt rfl).mono ?_
                rintro e w62 ⟨rfl, g⟩
                replace hg := hg.trans g
                replace ha := ha.up g
                replace hab := hab.up g
                replace hba := hba.up g
                replace hlf := hlf.up g
                replace hrt := hrt.up g
                replace hone := hone.up g
                clear g
                go_wp2_with fail
                skip
                refine (r_same_true hone ha rfl).mono ?_
                rintro e w63 ⟨rfl, g⟩
                replace hg := hg.trans g
                replace ha := ha.up g
                replace hab := hab.up g
                replace hba := hba.up g
                replace hlf := hlf.up g
                replace hrt := hrt.up g
                replace hone := hone.up g
                clear g
                go_wp2_with fail
                skip
                go_ret
                exact ⟨rfl, hg⟩
          · rcases Nat.lt_trichotomy nab nac with z4 | z4 | z4
            · obtain rfl : nal = nac := by have := hmax.out z1 z2 z3; omega
              have hmx : max (nab : Int) (nal : Int) = (nal : Int) := by omega
              replace z4 := Lib.hid z4
              go_wp2_with fail
              skip
              go_loopw [30] (fun v wr => ∃ i : Nat, i ≤ nal ∧ v = .int .i64 i ∧ Gn w39 wr) (fun v _ => nal - (intOf v).toNat)
              case atStart => exact ⟨0, by omega, rfl, Gn.refl _⟩
              case round =>
                obtain ⟨i, hi, rfl, hr2⟩ := hrel
                by_cases h0 : i < nal
                · replace hab := hab.up hr2; replace hac := hac.up hr2; replace hal := hal.up hr2
                  have hv := hV.out i
                  clear hg
                  have h2 : i < nal := h0
                  by_cases h1 : i < nab
                  · obtain ⟨b1, o1, x, E1, h1', p1, q1⟩ := hab.at_ h1
                    first | cases E1 | (subst E1)
                    try rw [Nat.zero_add] at q1
                    rw [coF_at h1'] at hv
                    clear h1'
                    obtain ⟨b2, o2, y, E2, h2', p2, q2⟩ := hac.at_ h2
                    first | cases E2 | (subst E2)
                    try rw [Nat.zero_add] at q2
                    rw [coF_at h2'] at hv
                    clear h2'
                    obtain ⟨b3, o3, z, E3, h3', p3, q3⟩ := hal.at_ h0
                    first | cases E3 | (subst E3)
                    try rw [Nat.zero_add] at q3
                    rw [coF_at h3'] at hv
                    rw [hv] at q3
                    clear h3' hv
                    go_wp2_with fail
                    refine (r_reduceF x _).mono ?_
                    rintro e w5 ⟨rfl, rfl⟩
                    go_wp2_with fail
                    refine (r_reduceF y _).mono ?_
                    rintro e w5 ⟨rfl, rfl⟩
                    go_wp2_with fail
                    refine (r_addF x y _).mono ?_
                    rintro e w5 ⟨rfl, rfl⟩
                    go_wp2_with fail
                    exact ⟨⟨i + 1, by omega, by go_num, hr2⟩, by simp [intOf]; omega⟩
                  · rw [co_big ab i (by rw [hnab.out]; omega)] at hv
                    have b1 : decide (i < nab) = false := decide_eq_false h1
                    have b1' : decide ((i : Int) < (nab : Int)) = false := decide_eq_false (by omega)
                    obtain ⟨b2, o2, y, E2, h2', p2, q2⟩ := hac.at_ h2
                    first | cases E2 | (subst E2)
                    try rw [Nat.zero_add] at q2
                    rw [coF_at h2'] at hv
                    clear h2'
                    rw [zero_add] at hv
                    obtain ⟨b3, o3, z, E3, h3', p3, q3⟩ := hal.at_ h0
                    first | cases E3 | (subst E3)
                    try rw [Nat.zero_add] at q3
                    rw [coF_at h3'] at hv
                    rw [hv] at q3
                    clear h3' hv
                    go_wp2_with fail
                    refine (r_reduceF y _).mono ?_
                    rintro e w5 ⟨rfl, rfl⟩
                    go_wp2_with fail
                    refine (r_add0 y _).mono ?_
                    rintro e w5 ⟨rfl, rfl⟩
                    go_wp2_with fail
                    exact ⟨⟨i + 1, by omega, by go_num, hr2⟩, by simp [intOf]; omega⟩
                · obtain rfl : i = nal := by omega
                  replace hg := hg.trans hr2
                  replace ha := ha.up hr2
                  replace hab := hab.up hr2
                  replace hba := hba.up hr2
                  replace hlf := hlf.up hr2
                  replace hrt := hrt.up hr2
                  replace hone := hone.up hr2
                  clear hr2
                  go_wp2_with fail
                  skip
                  refine (r_same_true hab hba rfl).mono ?_
                  rintro e w61 ⟨rfl, g⟩
                  replace hg := hg.trans g
                  replace ha := ha.up g
                  replace hab := hab.up g
                  replace hba := hba.up g
                  replace hlf := hlf.up g
                  replace hrt := hrt.up g
                  replace hone := hone.up g
                  clear g
                  go_wp2_with fail
                  skip
                  refine (r_same_true hlf hrt rfl).mono ?_
                  rintro e w62 ⟨rfl, g⟩
                  replace hg := hg.trans g
                  replace ha := ha.up g
                  replace hab := hab.up g
                  replace hba := hba.up g
                  replace hlf := hlf.up g
                  replace hrt := hrt.up g
                  replace hone := hone.up g
                  clear g
                  go_wp2_with fail
                  skip
                  refine (r_same_true hone ha rfl).mono ?_
                  rintro e w63 ⟨rfl, g⟩
                  replace hg := hg.trans g
                  replace ha := ha.up g
                  replace hab := hab.up g
                  replace hba := hba.up g
                  replace hlf := hlf.up g
                  replace hrt := hrt.up g
                  replace hone := hone.up g
                  clear g
                  go_wp2_with fail
                  skip
                  go_ret
                  exact ⟨rfl, hg⟩
            · subst z4
              obtain rfl : nal = nab := by have := hmax.out z1 z2 z3; omega
              have hmx : max (nal : Int) (nal : Int) = (nal : Int) := by omega
              go_wp2_with fail
              skip
              go_loopw [30] (fun v wr => ∃ i : Nat, i ≤ nal ∧ v = .int .i64 i ∧ Gn w39 wr) (fun v _ => nal - (intOf v).toNat)
              case atStart => exact ⟨0, by omega, rfl, Gn.refl _⟩
              case round =>
                obtain ⟨i, hi, rfl, hr2⟩ := hrel
                by_cases h0 : i < nal
                · replace hab := hab.up hr2; replace hac := hac.up hr2; replace hal := hal.up hr2
                  have hv := hV.out i
                  clear hg
                  have h1 : i < nal := h0
                  have h2 : i < nal := h0
                  obtain ⟨b1, o1, x, E1, h1', p1, q1⟩ := hab.at_ h1
                  first | cases E1 | (subst E1)
                  try rw [Nat.zero_add] at q1
                  rw [coF_at h1'] at hv
                  clear h1'
                  obtain ⟨b2, o2, y, E2, h2', p2, q2⟩ := hac.at_ h2
                  first | cases E2 | (subst E2)
                  try rw [Nat.zero_add] at q2
                  rw [coF_at h2'] at hv
                  clear h2'
                  obtain ⟨b3, o3, z, E3, h3', p3, q3⟩ := hal.at_ h0
                  first | cases E3 | (subst E3)
                  try rw [Nat.zero_add] at q3
                  rw [coF_at h3'] at hv
                  rw [hv] at q3
                  clear h3' hv
                  go_wp2_with fail
                  refine (r_reduceF x _).mono ?_
                  rintro e w5 ⟨rfl, rfl⟩
                  go_wp2_with fail
                  refine (r_reduceF y _).mono ?_
                  rintro e w5 ⟨rfl, rfl⟩
                  go_wp2_with fail
                  refine (r_addF x y _).mono ?_
                  rintro e w5 ⟨rfl, rfl⟩
                  go_wp2_with fail
                  exact ⟨⟨i + 1, by omega, by go_num, hr2⟩, by simp [intOf]; omega⟩
                · obtain rfl : i = nal := by omega
                  replace hg := hg.trans hr2
                  replace ha := ha.up hr2
                  replace hab := hab.up hr2
                  replace hba := hba.up hr2
                  replace hlf := hlf.up hr2
                  replace hrt := hrt.up hr2
                  replace hone := hone.up hr2
                  clear hr2
                  go_wp2_with fail
                  skip
                  refine (r_same_true hab hba rfl).mono ?_
                  rintro e w61 ⟨rfl, g⟩
                  replace hg := hg.trans g
                  replace ha := ha.up g
                  replace hab := hab.up g
                  replace hba := hba.up g
                  replace hlf := hlf.up g
                  replace hrt := hrt.up g
                  replace hone := hone.up g
                  clear g
                  go_wp2_with fail
                  skip
                  refine (r_same_true hlf hrt rfl).mono ?_
                  rintro e w62 ⟨rfl, g⟩
                  replace hg := hg.trans g
                  replace ha := ha.up g
                  replace hab := hab.up g
                  replace hba := hba.up g
                  replace hlf := hlf.up g
                  replace hrt := hrt.up g
                  replace hone := hone.up g
                  clear g
                  go_wp2_with fail
                  skip
                  refine (r_same_true hone ha rfl).mono ?_
                  rintro e w63 ⟨rfl, g⟩
                  replace hg := hg.trans g
                  replace ha := ha.up g
                  replace hab := hab.up g
                  replace hba := hba.up g
                  replace hlf := hlf.up g
                  replace hrt := hrt.up g
                  replace hone := hone.up g
                  clear g
                  go_wp2_with fail
                  skip
                  go_ret
                  exact ⟨rfl, hg⟩
            · obtain rfl : nal = nab := by have := hmax.out z1 z2 z3; omega
              have hmx : max (nal : Int) (nac : Int) = (nal : Int) := by omega
              replace z4 := Lib.hid z4
              go_wp2_with fail
              skip
              go_loopw [30] (fun v wr => ∃ i : Nat, i ≤ nal ∧ v = .int .i64 i ∧ Gn w39 wr) (fun v _ => nal - (intOf v).toNat)
              case atStart => exact ⟨0, by omega, rfl, Gn.refl _⟩
              case round =>
                obtain ⟨i, hi, rfl, hr2⟩ := hrel
                by_cases h0 : i < nal
                · replace hab := hab.up hr2; replace hac := hac.up hr2; replace hal := hal.up hr2
                  have hv := hV.out i
                  clear hg
                  have h1 : i < nal := h0
                  by_cases h2 : i < nac
                  · obtain ⟨b1, o1, x, E1, h1', p1, q1⟩ := hab.at_ h1
                    first | cases E1 | (subst E1)
                    try rw [Nat.zero_add] at q1
                    rw [coF_at h1'] at hv
                    clear h1'
                    obtain ⟨b2, o2, y, E2, h2', p2, q2⟩ := hac.at_ h2
                    first | cases E2 | (subst E2)
                    try rw [Nat.zero_add] at q2
                    rw [coF_at h2'] at hv
                    clear h2'
                    obtain ⟨b3, o3, z, E3, h3', p3, q3⟩ := hal.at_ h0
                    first | cases E3 | (subst E3)
                    try rw [Nat.zero_add] at q3
                    rw [coF_at h3'] at hv
                    rw [hv] at q3
                    clear h3' hv
                    go_wp2_with fail
                    refine (r_reduceF x _).mono ?_
                    rintro e w5 ⟨rfl, rfl⟩
                    go_wp2_with fail
                    refine (r_reduceF y _).mono ?_
                    rintro e w5 ⟨rfl, rfl⟩
                    go_wp2_with fail
                    refine (r_addF x y _).mono ?_
                    rintro e w5 ⟨rfl, rfl⟩
                    go_wp2_with fail
                    exact ⟨⟨i + 1, by omega, by go_num, hr2⟩, by simp [intOf]; omega⟩
                  · obtain ⟨b1, o1, x, E1, h1', p1, q1⟩ := hab.at_ h1
                    first | cases E1 | (subst E1)
                    try rw [Nat.zero_add] at q1
                    rw [coF_at h1'] at hv
                    clear h1'
                    rw [co_big ac i (by rw [hnac.out]; omega)] at hv
                    have b2 : decide (i < nac) = false := decide_eq_false h2
                    have b2' : decide ((i : Int) < (nac : Int)) = false := decide_eq_false (by omega)
                    rw [add_zero] at hv
                    obtain ⟨b3, o3, z, E3, h3', p3, q3⟩ := hal.at_ h0
                    first | cases E3 | (subst E3)
                    try rw [Nat.zero_add] at q3
                    rw [coF_at h3'] at hv
                    rw [hv] at q3
                    clear h3' hv
                    go_wp2_with fail
                    refine (r_reduceF x _).mono ?_
                    rintro e w5 ⟨rfl, rfl⟩
                    go_wp2_with fail
                    exact ⟨⟨i + 1, by omega, by go_num, hr2⟩, by simp [intOf]; omega⟩
                · obtain rfl : i = nal := by omega
                  replace hg := hg.trans hr2
                  replace ha := ha.up hr2
                  replace hab := hab.up hr2
                  replace hba := hba.up hr2
                  replace hlf := hlf.up hr2
                  replace hrt := hrt.up hr2
                  replace hone := hone.up hr2
                  clear hr2
                  go_wp2_with fail
                  skip
                  refine (r_same_true hab hba rfl).mono ?_
                  rintro e w61 ⟨rfl, g⟩
                  replace hg := hg.trans g
                  replace ha := ha.up g
                  replace hab := hab.up g
                  replace hba := hba.up g
                  replace hlf := hlf.up g
                  replace hrt := hrt.up g
                  replace hone := hone.up g
                  clear g
                  go_wp2_with fail
                  skip
                  refine (r_same_true hlf hrt rfl).mono ?_
                  rintro e w62 ⟨rfl, g⟩
                  replace hg := hg.trans g
                  replace ha := ha.up g
                  replace hab := hab.up g
                  replace hba := hba.up g
                  replace hlf := hlf.up g
                  replace hrt := hrt.up g
                  replace hone := hone.up g
                  clear g
                  go_wp2_with fail
                  skip
                  refine (r_same_true hone ha rfl).mono ?_
                  rintro e w63 ⟨rfl, g⟩
                  replace hg := hg.trans g
                  replace ha := ha.up g
                  replace hab := hab.up g
                  replace hba := hba.up g
                  replace hlf := hlf.up g
                  replace hrt := hrt.up g
                  replace hone := hone.up g
                  clear g
                  go_wp2_with fail
                  skip
                  go_ret
                  exact ⟨rfl, hg⟩

set_option linter.unusedVariables false in
set_option maxRecDepth 100000 in
set_option maxHeartbeats 1000000 in
theorem lifted (os : Os) (started : os.Started) (H : Type) (enc : TypeId × Value → H) :
    ReturnsInHanded {} Tryd.checked os 10 .any (fun w args => (Rows.nttMulAlgebraSpec.pre enc Tryd.prog Tryd.f10 [] false w args ∧ laidMetH Tryd.prog laid2 w) ∧ sizedMet enc Tryd.prog Tryd.f10 (OpenSpec.ofChange Rows.nttMulAlgebraSpec) false w args)
      (Rows.nttMulAlgebraSpec.post enc Tryd.prog Tryd.f10 false true false false) := by
  refine returnsInHanded_of_change_and (C := Tryd.checked) (X := fun w _ => laidMetH Tryd.prog laid2 w) (fun _ _ _ hh h => h.of_heap hh) own started (by kernel_rfl) Tryd.func10
    (ChangeSpec.witness_shaped (enc := enc) (C := Tryd.checked) (os := os) (X := fun w _ => laidMetH Tryd.prog laid2 w) false (World.doorLaid Tryd.prog 400 os) #[.slice none 0 0, .slice none 0 0, .slice none 0 0] 8 rfl (World.shaped_of_RefB (by kernel_rfl) (by kernel_rfl)) (by kernel_rfl) (by kernel_rfl) (by kernel_rfl) (door_met os _)) ?_
  intro W base args ds gs before hval0 hW _ _ hL _
  have hval : ∀ (j : Nat) t v, Tryd.f10.params[j]? = some t → args[j]? = some v → Value.okWide Tryd.prog W .any base t v := hval0
  have hW' : DataW.Whole enc Tryd.prog Tryd.f10.params.toList Rows.nttMulAlgebraSpec.vars false W args.toList ds gs before := hW
  obtain ⟨p, q, hA0, hV, rfl, hfz, hnd⟩ := hW
  have hA : DataW.TrodAll enc Tryd.prog W 0 (fun _ => true) true Tryd.f10.params.toList args.toList ds p := hA0
  rw [Tryd.params10] at hA hval
  obtain ⟨v0, vs0, d0, ds0, p0, q0, hargs, rfl, rfl, h0, r0⟩ := trodAll_cons hA
  obtain ⟨v1, vs1, d1, ds1, p1, q1, rfl, rfl, rfl, h1, r1⟩ := trodAll_cons r0
  obtain ⟨v2, vs2, d2, ds2, p2, q2, rfl, rfl, rfl, h2, r2⟩ := trodAll_cons r1
  obtain ⟨rfl, rfl, rfl⟩ := trodAll_nil r2
  obtain rfl : args = #[v0, v1, v2] := by cases args; simp_all
  obtain ⟨rfl, rfl⟩ := trodVars_none hV
  obtain ⟨a0, len0, cap0, rfl⟩ := okWide_slice Tryd.underlying22 (hval 0 22 v0 rfl rfl)
  obtain ⟨x0, hz0⟩ := openU64s h0
  obtain ⟨a1, len1, cap1, rfl⟩ := okWide_slice Tryd.underlying22 (hval 1 22 v1 rfl rfl)
  obtain ⟨x1, hz1⟩ := openU64s h1
  obtain ⟨a2, len2, cap2, rfl⟩ := okWide_slice Tryd.underlying22 (hval 2 22 v2 rfl rfl)
  obtain ⟨x2, hz2⟩ := openU64s h2
  refine (walk W a0 len0 cap0 x0 a1 len1 cap1 x1 a2 len2 cap2 x2 (tab_of_laid hL) hz0 hz1 hz2).mono fun e W' ⟨he, bel⟩ => ?_
  subst he
  exact ⟨_, rfl, law_post laidOut hW' rfl (by kernel_rfl) rfl Tryd.underlying4 rfl bel⟩

theorem row_proved : Rows.NttMulAlgebraSaid :=
  OpenClaim.holds_of_wide 10 Tryd.f10 rfl rfl rfl rfl rfl rfl rfl ⟨rfl, rfl, rfl, rfl, rfl⟩ rfl rfl rfl rfl rfl (by kernel_rfl) Tryd.func10 (by kernel_rfl)
    (of_decide_eq_true (by kernel_rfl)) (by unfold Func.isWrapper; first | (rw [if_pos (by decide +kernel)]; kernel_rfl) | (rw [if_neg (by decide +kernel)]; exact ⟨rfl, rfl⟩))
    (fun os started H enc _ => lifted os started H enc)

/-- the card: the row's listed variables are tied to the program's text -/
theorem proved : Rows.NttMulAlgebraCardSaid :=
  Claim7.holds_tied_plain_at .later [] [.data, .data] true Rows.nttMulAlgebraCard.stood.harness false
    row_proved (fun _ h => by cases h) (by kernel_rfl) (fun _ h => by cases h) nttMulAlgebra_row_tie rfl ⟨rfl, rfl⟩ (by kernel_rfl) rfl
    (fun f fn hf hfn => by
      obtain rfl : f = 10 := (Option.some.inj ((show Tryd.prog.funcNamed Rows.nttMulAlgebraRow.func = some 10 by kernel_rfl).symm.trans hf)).symm
      obtain rfl : fn = Tryd.f10 := (Option.some.inj (Tryd.func10.symm.trans hfn)).symm
      exact ⟨by kernel_rfl, fun j t ht => by
        rw [Tryd.params10] at ht
        have hall : ([22, 22, 22].all fun t => !Tryd.prog.wantsStandIn t) = true := by kernel_rfl
        have hm := List.mem_of_getElem? (show [22, 22, 22][j]? = some t by simpa using ht)
        have := List.all_eq_true.1 hall t hm
        exact (show Tryd.prog.wantsStandIn t = false by simpa using this)⟩)
    (by kernel_rfl)
end Go.Proofs.YtjgdbfhpjjmjkaaDoor.lawNttMulAlgebra
