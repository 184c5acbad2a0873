/- The walk of TopCodewordsAgreeRarely. -/
import Derived.Test.YtgambglgkilgkaaGreatDoorTl1
import Derived.Test.YtgambglgkilgkaaGreatDoorTe6
namespace Go.Proofs.YtgambglgkilgkaaGreatDoor
open Go.RowKit Att Att.CRing
theorem agr_eq {K : Type} [Fld K] {f g : Nat → K} {i : Nat} (h : f i = g i) : (agr f g (i + 1)).length = (agr f g i).length + 1 := by
  rw [show agr f g (i + 1) = if f i = g i then i :: agr f g i else agr f g i from rfl, if_pos h, List.length_cons]
theorem agr_ne {K : Type} [Fld K] {f g : Nat → K} {i : Nat} (h : f i ≠ g i) : (agr f g (i + 1)).length = (agr f g i).length := by
  rw [show agr f g (i + 1) = if f i = g i then i :: agr f g i else agr f g i from rfl, if_neg h]
theorem agr_le {K : Type} [Fld K] (f g : Nat → K) (i : Nat) : (agr f g i).length ≤ i := by
  have := agr_len f g i
  omega
set_option maxRecDepth 100000 in
set_option maxHeartbeats 4000000 in
theorem top_walk (w : World) (a0 : Option Addr) (len0 cap0 : Nat) (x0 : List (Int × Int)) (a1 : Option Addr) (len1 cap1 : Nat) (x1 : List (Int × Int)) (x2 : Int) (hT : Tab w) (hW : WT w)
    (h_x0 : SlR w a0 len0 cap0 x0) (h_x1 : SlR w a1 len1 cap1 x1) (l_x2 : 0 ≤ x2) :
    Calls Tryz.prog 3 #[.slice a0 len0 cap0, .slice a1 len1 cap1, .int .u8 x2] w fun e w' => e = .returned (.bool true) ∧ Gn w w' := by
  obtain ⟨s, hs⟩ : ∃ s : Nat, (s : Int) = x2 % 4 := ⟨(x2 % 4).toNat, Int.toNat_of_nonneg (by omega)⟩
  have hs3 : s ≤ 3 := by omega
  have hst : Int.tmod x2 4 = (s : Int) := by rw [hs]; exact Int.tmod_eq_emod_of_nonneg (by omega)
  have hP := fun (X Y : List Ext) => agree_rarely X Y (root (s + 2)) (2 ^ (s + 2)) (root_prim (s + 2) (by omega)).dif
  have hEnc := fun (X : List Ext) hX => encE_four X s hs3 hX
  have hUl := fun (X : List Ext) => Ue_length X (root (s + 2)) (2 ^ (s + 2))
  have hK8 : 2 ^ s ≤ 8 := Nat.le_trans (Nat.pow_le_pow_right (n := 2) (by omega) hs3) (by decide)
  have hN4 : 2 ^ (s + 2) = 4 * 2 ^ s := by rw [Nat.pow_add]; omega
  have hc2 := cast_pow s
  generalize root (s + 2) = u at *
  generalize 2 ^ (s + 2) = N at *
  generalize 2 ^ s = K at *
  have hw1 : IntKind.i64.wrap (K : Int) = (K : Int) := IntWalk.i64_in _ (by omega)
  have hw2 : IntKind.i64.wrap (4 * (K : Int)) = 4 * (K : Int) := IntWalk.i64_in _ (by omega)
  replace hP := Lib.hid hP; replace hEnc := Lib.hid hEnc; replace hUl := Lib.hid hUl; replace hs := Lib.hid hs
  go_enter Tryz.func3, Tryz.ntmps3
  go_wp2_with fail
  refine (s_sanity15 _ hW).mono ?_
  rintro e w1 ⟨rfl, g⟩
  have hg := g
  replace hN4 := Lib.hid hN4
  replace hT := hT.up g; replace h_x0 := h_x0.up g; replace h_x1 := h_x1.up g
  clear g hW
  go_wp2_with fail
  refine (x_exactly a0 len0 cap0 x0 K _ h_x0 (by omega)).mono ?_
  rintro e w2 hR
  obtain ⟨AX, nX, cX, rfl, hX, g⟩ := hR.sl
  obtain ⟨X, hXe⟩ : ∃ X, X = (x0.take K).map mkP ++ List.replicate (K - ((x0.take K).map mkP).length) 0 := ⟨_, rfl⟩
  have lX : X.length = K := by rw [hXe, List.length_append, List.length_replicate]; have hq : ((x0.take K).map mkP).length ≤ K := (by rw [List.length_map, List.length_take]; omega); omega
  rw [← hXe] at hX
  have nXe : nX = K := by rw [← lX]; exact hX.len.symm
  rw [nXe] at hX ⊢; clear nXe
  clear hXe hR
  replace lX := Lib.hid lX
  replace hg := hg.trans g; replace hT := hT.up g; replace h_x0 := h_x0.up g; replace h_x1 := h_x1.up g
  clear g
  go_wp2_with fail
  refine (x_exactly a1 len1 cap1 x1 K _ h_x1 (by omega)).mono ?_
  rintro e w3 hR
  obtain ⟨AY, nY, cY, rfl, hY, g⟩ := hR.sl
  obtain ⟨Y, hYe⟩ : ∃ Y, Y = (x1.take K).map mkP ++ List.replicate (K - ((x1.take K).map mkP).length) 0 := ⟨_, rfl⟩
  have lY : Y.length = K := by rw [hYe, List.length_append, List.length_replicate]; have hq : ((x1.take K).map mkP).length ≤ K := (by rw [List.length_map, List.length_take]; omega); omega
  rw [← hYe] at hY
  have nYe : nY = K := by rw [← lY]; exact hY.len.symm
  rw [nYe] at hY ⊢; clear nYe
  clear hYe hR
  replace lY := Lib.hid lY
  replace hg := hg.trans g; replace hT := hT.up g; replace h_x0 := h_x0.up g; replace h_x1 := h_x1.up g; replace hX := hX.up g
  clear g
  go_wp2_with fail
  refine (s_encodeExt _ _ _ X 4 _ hT hX (by omega) (by omega)).mono ?_
  rintro e w4 hR
  rw [hEnc.out X lX.out] at hR
  obtain ⟨AU, cU, rfl, hU, g⟩ := hR.get (hUl.out X)
  clear hR
  replace hg := hg.trans g; replace hT := hT.up g; replace h_x0 := h_x0.up g; replace h_x1 := h_x1.up g; replace hX := hX.up g; replace hY := hY.up g
  clear g
  go_wp2_with fail
  refine (s_encodeExt _ _ _ Y 4 _ hT hY (by omega) (by omega)).mono ?_
  rintro e w5 hR
  rw [hEnc.out Y lY.out] at hR
  obtain ⟨AV, cV, rfl, hV, g⟩ := hR.get (hUl.out Y)
  clear hR
  replace hg := hg.trans g; replace hT := hT.up g; replace h_x0 := h_x0.up g; replace h_x1 := h_x1.up g; replace hX := hX.up g; replace hY := hY.up g; replace hU := hU.up g
  clear g
  have hL := hP.out X Y
  have lU := hUl.out X; have lV := hUl.out Y
  obtain ⟨U, hUe⟩ : ∃ U, U = Ue X u N := ⟨_, rfl⟩
  obtain ⟨V, hVe⟩ : ∃ V, V = Ue Y u N := ⟨_, rfl⟩
  rw [← hUe] at hL lU hU
  rw [← hVe] at hL lV hV
  replace hL := Lib.hid hL; replace lU := Lib.hid lU; replace lV := Lib.hid lV
  clear hUe hVe hP hEnc hUl
  have hu1 : ∀ j x, U[j]? = some x → V[j]? = some x → (agr (co U) (co V) (j + 1)).length = (agr (co U) (co V) j).length + 1 := fun j x h1 h2 => agr_eq ((co_at h1).trans (co_at h2).symm)
  have hu2 : ∀ j x y, U[j]? = some x → V[j]? = some y → x ≠ y → (agr (co U) (co V) (j + 1)).length = (agr (co U) (co V) j).length := fun j x y h1 h2 h3 => agr_ne (by rw [co_at h1, co_at h2]; exact h3)
  have hu3 : ∀ j, (agr (co U) (co V) j).length ≤ j := agr_le _ _
  have hu0 : (agr (co U) (co V) 0).length = 0 := rfl
  obtain ⟨ct, hct⟩ : ∃ ct : Nat → Nat, ct = fun j => (agr (co U) (co V) j).length := ⟨_, rfl⟩
  have hct2 : ∀ j, (agr (co U) (co V) j).length = ct j := fun j => by rw [hct]
  simp only [hct2] at hu1 hu2 hu3 hu0
  have hL2 := hL.out
  simp only [hct2] at hL2
  replace hL := Lib.hid hL2; replace hu1 := Lib.hid hu1; replace hu2 := Lib.hid hu2
  clear hct hct2 hL2
  have hNK : 4 * (K : Int) = (N : Int) := by have := hN4.out; omega
  have hN32 : N ≤ 32 := by have := hN4.out; omega
  have hw3 : IntKind.i64.wrap (N : Int) = (N : Int) := IntWalk.i64_in _ (by have := hN4.out; omega)
  go_wp2_with fail
  go_loopw [15, 16] (fun v i wr => ∃ j : Nat, j ≤ N ∧ i = .int .i64 j ∧ v = .int .i64 (ct j : Nat) ∧ Gn w5 wr) (fun _ i _ => N - (intOf i).toNat)
  case atStart => exact ⟨0, by omega, rfl, by rw [hu0]; rfl, Gn.refl _⟩
  case round =>
    obtain ⟨j, hj, rfl, rfl, hgr⟩ := hrel
    have hq := hu3 j
    by_cases hlt : j < N
    · obtain ⟨b, o, x, rfl, hx, q1, q2, q3⟩ := (hU.up hgr).at_ hlt
      obtain ⟨b', o', y, rfl, hy, r1, r2, r3⟩ := (hV.up hgr).at_ hlt
      rcases eqs x y with ⟨h, e1, e2⟩ | h
      · have hst := Lib.hid (hu1.out j x hx (by rw [h]; exact hy))
        clear h hx hy hu0
        generalize ct j = q at *
        go_wp2_with fail
        try simp only [List.append_eq, List.cons_append, List.nil_append]
        refine wp_region_gr (by kernel_rfl) (lex_of_chk (by kernel_rfl) (by kernel_rfl)) ?_
        repeat (go_big_quiet_step (fail))
        refine wpQuiet_nil ?_
        intro wr2 hg2
        go_wp2_with fail
        exact ⟨⟨j + 1, by omega, by go_num, by rw [hst.out]; exact congrArg (Value.int .i64) (by omega), hgr.trans hg2⟩, by simp [intOf]; omega⟩
      · have hne : x ≠ y := by rcases h with ⟨h, _⟩ | ⟨h, _⟩ <;> exact h
        have hst := Lib.hid (hu2.out j x y hx hy hne)
        clear hx hy hu0 hne
        generalize ct j = q at *
        rcases h with ⟨h, e1, e2⟩ | ⟨h, e1, e2⟩
        all_goals
          clear h
          go_wp2_with fail
          try simp only [List.append_eq, List.cons_append, List.nil_append]
          refine wp_region_gr (by kernel_rfl) (lex_of_chk (by kernel_rfl) (by kernel_rfl)) ?_
          repeat (go_big_quiet_step (fail))
          refine wpQuiet_nil ?_
          intro wr2 hg2
          go_wp2_with fail
          exact ⟨⟨j + 1, by omega, by go_num, by rw [hst.out], hgr.trans hg2⟩, by simp [intOf]; omega⟩
    · obtain rfl : j = N := by omega
      go_wp2_with fail
      refine (p_subL AX AY K cX K cY X Y _ (hX.up hgr) (hY.up hgr) (by omega) (by omega)).mono ?_
      rintro e w7 ⟨A7, d, c7, rfl, hD, g⟩
      have hd := hD.len; have hdc := hD.le; have hcs := hD.small
      have hL2 := hL.out
      rw [hd] at hL2
      clear hd hD hu0
      generalize ct j = q at *
      rcases hL2 with ⟨hd0, hq0⟩ | ⟨hd0, hq0⟩
      · subst hd0
        subst hq0
        go_wp2_with fail
        go_ret
        exact ⟨rfl, (hg.trans hgr).trans g⟩
      · have hb : decide ((q : Int) ≤ (d : Int) - 1) = true := decide_eq_true (by omega)
        have hwd : IntKind.i64.wrap ((d : Int) - 1) = (d : Int) - 1 := IntWalk.i64_in _ (by omega)
        have hne : ¬ d = 0 := by omega
        go_wp2_with fail
        go_ret
        exact ⟨rfl, (hg.trans hgr).trans g⟩
end Go.Proofs.YtgambglgkilgkaaGreatDoor
