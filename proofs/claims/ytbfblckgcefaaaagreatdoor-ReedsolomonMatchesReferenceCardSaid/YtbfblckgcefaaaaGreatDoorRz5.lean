/- The walk of the reference's through: the row through the word at some positions. -/
import Derived.Test.YtbfblckgcefaaaaGreatDoorRz4
namespace Go.Proofs.YtbfblckgcefaaaaGreatDoor
open Go.RowKit Att Att.CRing
theorem r_subF (x y : F) (w : World) : Calls Tryz.prog 75 #[.int .u64 (Zm.i (x)), .int .u64 (Zm.i (y))] w fun e w' => e = .returned (.int .u64 (Zm.i (x - y))) ∧ w = w' := by
  have h := r_sub (Zm.i x) (Zm.i y) w
  rwa [int_i, int_i] at h
theorem r_invF (x : F) (hx : x ≠ 0) (w : World) : Calls Tryz.prog 74 #[.int .u64 (Zm.i (x))] w fun e w' => e = .returned (.tuple #[.int .u64 (Zm.i ((Fld.inv x : F))), .int .i64 0]) ∧ w = w' := by
  have h0 : 0 < Zm.i x := by
    have h1 := i_nn x
    rcases Int.lt_or_le 0 (Zm.i x) with h | h
    · exact h
    · exact absurd (i_inj (show Zm.i x = Zm.i 0 by rw [i_zero]; omega)) hx
  have h := r_inv (Zm.i x) h0 w
  rwa [int_i] at h
theorem base_sub' (a b : F) : Ext.base (a - b) = Ext.base a - Ext.base b := by rw [CRing.sub_eq, CRing.sub_eq, ← Ext.base_neg]; rfl
theorem thF_base (a b : F) : thF (Ext.base a) (Ext.base b) = [Ext.base (-b * Fld.inv (a - b)), Ext.base (Fld.inv (a - b))] := by
  unfold thF
  rw [← base_sub', ← Ext.base_inv, ← Ext.base_neg, ← Ext.base_mul]
theorem co_lit {b : Nat} {w : World} {x y : Ext} (h : w.heap[b]? = some (.cells #[.int .u64 (Zm.i (Ext.a x)), .int .u64 (Zm.i (Ext.b x)), .int .u64 (Zm.i (Ext.a y)), .int .u64 (Zm.i (Ext.b y))] 41)) : Sl w (some ⟨b, 0, none⟩) 2 2 [x, y] := (show Blk w b [x, y] from h).sl (by simp)
theorem co_lit1 {b : Nat} {w : World} {x : Ext} (h : w.heap[b]? = some (.cells #[.int .u64 (Zm.i (Ext.a x)), .int .u64 (Zm.i (Ext.b x))] 41)) : Sl w (some ⟨b, 0, none⟩) 1 1 [x] := (show Blk w b [x] from h).sl (by simp)
set_option maxRecDepth 100000 in
set_option maxHeartbeats 8000000 in
theorem y_through (A B : Option Addr) (c d k M : Nat) (l : List F) (s : Nat → Nat) (w : World) (hl : SF w A (2 ^ M) c l) (hM : M ≤ 16) (hb : SlI w B k d (idl k s)) (hk : k ≤ 2 ^ M) (hs : Inc k (2 ^ M) s) :
    Calls Tryz.prog 41 #[.slice A (2 ^ M : Nat) c, .slice B k d] w fun e w' => ∃ b, e = .returned (.slice (some ⟨b, 0, none⟩) k k) ∧ BF w' b (thr (root M) (co l) s k) ∧ Gn w w' := by
  have hp := pow_lt hM
  have hPt := fun i (hi : i < 2 ^ M) w => y_point M i hM (by omega) w
  have hdif : ∀ i j, i < k → j < k → j ≠ i → pw (root M) (s i) - pw (root M) (s j) ≠ 0 := by
    intro i j hi hj hne e
    have h1 := (root_prim M (by omega)).dif (s i) (s j) (hs.1 i hi) (hs.1 j hj) (by
      have h2 : pw (root M) (s i) = (pw (root M) (s i) - pw (root M) (s j)) + pw (root M) (s j) := ring_of [pw (root M) (s i), pw (root M) (s j)] v0 (v0 - v1 + v1) rfl
      rw [h2, e, zero_add])
    rcases Nat.lt_trichotomy i j with h | h | h
    · have := hs.2 i j h hj; omega
    · omega
    · have := hs.2 j i h hi; omega
  have hsn := hs.1
  have ll := Lib.hid hl.len
  generalize root M = u at *
  generalize 2 ^ M = N at *
  obtain ⟨X, hX⟩ : ∃ X : Nat → Ext, X = fun i => Ext.base (pw u (s i)) := ⟨_, rfl⟩
  obtain ⟨Y, hY⟩ : ∃ Y : Nat → Ext, Y = fun i => Ext.base (co l (s i)) := ⟨_, rfl⟩
  have hR : thr u (co l) s k = padF (partA (thS X Y k k)) k := by rw [hX, hY]; rfl
  obtain ⟨R, hRe⟩ : ∃ R, R = thr u (co l) s k := ⟨_, rfl⟩
  rw [← hRe] at hR ⊢
  have hSl : (thS X Y k k).length ≤ k := thS_len X Y k k (Nat.le_refl _)
  have hXi : ∀ i, X i = Ext.base (pw u (s i)) := fun i => by rw [hX]
  have hYi : ∀ i, Y i = Ext.base (co l (s i)) := fun i => by rw [hY]
  clear hRe hX hY hs
  replace hR := Lib.hid hR; replace hSl := Lib.hid hSl; replace hXi := Lib.hid hXi; replace hYi := Lib.hid hYi; replace hdif := Lib.hid hdif
  go_enter Tryz.func41, Tryz.ntmps41
  go_wp2_with fail
  have h0 : Sl (w.alloc (.cells #[] 41)) (some ⟨w.heap.size, 0, none⟩) 0 0 ([] : List Ext) := (show Blk _ _ [] from hnew w _).sl (by simp)
  have hg0 : Gn w (w.alloc (.cells #[] 41)) := Gn.al _
  go_loopw [6, 7] (fun v i wr => ∃ (j m cm : Nat) (Am : Option Addr), j ≤ k ∧ i = .int .i64 j ∧ v = .slice Am m cm ∧ Sl wr Am m cm (thS X Y k j) ∧ Gn w wr) (fun _ i _ => k - (intOf i).toNat)
  case atStart => exact ⟨0, 0, 0, _, by omega, rfl, rfl, h0, hg0⟩
  case round =>
    clear h0 hg0
    obtain ⟨i, m, cm, Am, hi, rfl, rfl, hS, hg⟩ := hrel
    by_cases hik : i < k
    · obtain ⟨b1, o1, z, E1, hz, a1, a2, a3, a4⟩ := (hb.up hg).at_ hik
      rw [idl_get hik] at hz
      obtain rfl := (Option.some.inj hz).symm
      have hsi := hsn i hik
      obtain ⟨b2, o2, y, E2, hy, p1, p2⟩ := (hl.up hg).at_ hsi
      subst E1 E2
      have hyv := hYi.out i
      rw [coF_get hy] at hyv
      have hFb := x_fromBase y
      rw [← hyv] at hFb
      have hPi := hPt (s i) hsi
      have hxv := hXi.out i
      have hSn : thS X Y k (i + 1) = trim (padd (thS X Y k i) (thB X (Y i) i k)) := rfl
      have hSi : (thS X Y k i).length ≤ k := thS_len X Y k i (by omega)
      have hBl : ∀ j, (thB X (Y i) i j).length ≤ j + 1 := fun j => (thB_len X (Y i) i j).1
      have hdi := fun j hj hne => hdif.out i j hik hj hne
      generalize hq : s i = q at *
      replace hq := Lib.hid hq.symm
      obtain ⟨x, hx⟩ : ∃ x, x = pw u q := ⟨_, rfl⟩
      rw [← hx] at hPi hxv hdi
      obtain ⟨yi, hyi⟩ : ∃ yi, yi = Y i := ⟨_, rfl⟩
      rw [← hyi] at hFb hSn hBl
      have hmS := hS.len
      rw [hmS] at hSi
      replace hSn := Lib.hid hSn; replace hBl := Lib.hid hBl; replace hx := Lib.hid hx; replace hdi := Lib.hid hdi; replace hxv := Lib.hid hxv; replace hmS := Lib.hid hmS
      clear hy hz hyv hyi
      go_wp2_with fail
      refine (hFb _).mono ?_
      rintro e w1 ⟨rfl, g1⟩
      have g1 : Gn wr w1 := g1
      replace hS := hS.up g1; replace hg := hg.trans g1
      obtain ⟨b1', o1', z', E1, hz, a1, a2, a3, a4⟩ := (hb.up hg).at_ hik
      cases E1
      rw [idl_get hik, ← hq.out] at hz
      obtain rfl := (Option.some.inj hz).symm
      clear hz p1 p2 g1 hFb
      have hbw := Nat.lt_of_lt_of_le a1 (Gn.al (w := w1) (.cells #[.int .u64 (Zm.i (Ext.a yi)), .int .u64 (Zm.i (Ext.b yi))] 41)).size
      go_wp2_with fail
      have hBs := co_lit1 (hnew w1 (.cells #[.int .u64 (Zm.i (Ext.a yi)), .int .u64 (Zm.i (Ext.b yi))] 41))
      have g1 : Gn w1 (w1.alloc (.cells #[.int .u64 (Zm.i (Ext.a yi)), .int .u64 (Zm.i (Ext.b yi))] 41)) := Gn.al _
      replace hS := hS.up g1; replace hg := hg.trans g1
      generalize w1.alloc (.cells #[.int .u64 (Zm.i (Ext.a yi)), .int .u64 (Zm.i (Ext.b yi))] 41) = w2 at *
      generalize w1.heap.size = bb at *
      clear g1 a1 a2 a3 a4 hbw
      refine (hPi _).mono ?_
      rintro e w3 ⟨rfl, g1⟩
      have g1 : Gn w2 w3 := g1
      replace hS := hS.up g1; replace hg := hg.trans g1; replace hBs := hBs.up g1
      clear g1 hPi
      go_wp2_with fail
      have hB0 : Sl w3 (some ⟨bb, 0, none⟩) 1 1 (thB X yi i 0) := hBs
      go_loopw [8, 10] (fun v jv wt => ∃ (j n c : Nat) (A' : Option Addr), j ≤ k ∧ jv = .int .i64 j ∧ v = .slice A' n c ∧ Sl wt A' n c (thB X yi i j) ∧ Gn w3 wt) (fun _ jv _ => k - (intOf jv).toNat)
      case atStart => exact ⟨0, 1, 1, _, by omega, rfl, rfl, hB0, Gn.refl _⟩
      case round =>
        clear hB0 hBs
        obtain ⟨j, n, cn, An, hj, rfl, rfl, hB, hr⟩ := hrel
        have hnl := hBl.out j
        rw [hB.len] at hnl
        by_cases hjk : j < k
        · by_cases hji : j = i
          · have hb1 : ((j : Int) != (i : Int)) = false := by rw [hji]; simp
            have hst : thB X yi i (j + 1) = thB X yi i j := by show (if j = i then _ else _) = _; rw [if_pos hji]
            replace hst := Lib.hid hst
            replace hji := Lib.hid hji
            go_wp2_with fail
            exact ⟨⟨j + 1, n, cn, An, by omega, by go_num, rfl, by rw [hst.out]; exact hB, hr⟩, by simp [intOf]; omega⟩
          · have hb1 : ((j : Int) != (i : Int)) = true := by rw [bne_iff_ne]; omega
            have hst : thB X yi i (j + 1) = trim (pmul (thB X yi i j) (thF (X i) (X j))) := by show (if j = i then _ else _) = _; rw [if_neg hji]
            have hgr := hg.trans hr
            obtain ⟨b1'', o1'', z', E1, hz, a1, a2, a3, a4⟩ := (hb.up hgr).at_ hjk
            cases E1
            rw [idl_get hjk] at hz
            obtain rfl := (Option.some.inj hz).symm
            have hsj := hsn j hjk
            have hPj := hPt (s j) hsj
            have hne := hdi.out j hjk hji
            rw [hxv.out, hXi.out j, thF_base] at hst
            generalize hqj : s j = qj at *
            obtain ⟨y', hy'⟩ : ∃ y', y' = pw u qj := ⟨_, rfl⟩
            rw [← hy'] at hPj hne hst
            have hSu := r_subF x y'
            have hIn := r_invF (x - y') hne
            obtain ⟨iv, hiv⟩ : ∃ iv, iv = Fld.inv (x - y') := ⟨_, rfl⟩
            rw [← hiv] at hIn hst
            generalize x - y' = xy at *
            have hNe := r_negF y'
            generalize hny : -y' = ny at *
            have hMu := r_mulF ny iv
            obtain ⟨pr, hpr⟩ : ∃ pr, pr = ny * iv := ⟨_, rfl⟩
            rw [← hpr] at hMu hst
            have hF1 := x_fromBase pr
            have hF2 := x_fromBase iv
            generalize Ext.base pr = e1 at *
            generalize Ext.base iv = e2 at *
            replace hst := Lib.hid hst
            clear hz hji hqj hy' hiv hpr hny hne
            clear hS hg
            go_wp2_with fail
            refine (hPj _).mono ?_
            rintro e w4 ⟨rfl, g1⟩
            have g1 : Gn wr w4 := g1
            replace hr := hr.trans g1; replace hB := hB.up g1
            clear g1 hPj a1 a2 a3 a4
            go_wp2_with fail
            refine (hSu _).mono ?_
            rintro e w5 ⟨rfl, rfl⟩
            go_wp2_with fail
            refine (hIn _).mono ?_
            rintro e w5 ⟨rfl, rfl⟩
            go_wp2_with fail
            refine (hNe _).mono ?_
            rintro e w5 ⟨rfl, rfl⟩
            go_wp2_with fail
            refine (hMu _).mono ?_
            rintro e w5 ⟨rfl, rfl⟩
            go_wp2_with fail
            refine (hF1 _).mono ?_
            rintro e w5 ⟨rfl, g1⟩
            have g1 : Gn w4 w5 := g1
            replace hr := hr.trans g1; replace hB := hB.up g1
            clear g1
            go_wp2_with fail
            refine (hF2 _).mono ?_
            rintro e w6 ⟨rfl, g1⟩
            have g1 : Gn w5 w6 := g1
            replace hr := hr.trans g1; replace hB := hB.up g1
            clear g1
            go_wp2_with fail
            have hf := co_lit (hnew w6 (.cells #[.int .u64 (Zm.i (Ext.a e1)), .int .u64 (Zm.i (Ext.b e1)), .int .u64 (Zm.i (Ext.a e2)), .int .u64 (Zm.i (Ext.b e2))] 41))
            have g1 : Gn w6 (w6.alloc (.cells #[.int .u64 (Zm.i (Ext.a e1)), .int .u64 (Zm.i (Ext.b e1)), .int .u64 (Zm.i (Ext.a e2)), .int .u64 (Zm.i (Ext.b e2))] 41)) := Gn.al _
            replace hr := hr.trans g1; replace hB := hB.up g1
            clear g1
            generalize w6.alloc (.cells #[.int .u64 (Zm.i (Ext.a e1)), .int .u64 (Zm.i (Ext.b e1)), .int .u64 (Zm.i (Ext.a e2)), .int .u64 (Zm.i (Ext.b e2))] 41) = w7 at *
            generalize w6.heap.size = bf at *
            refine (x_mulL _ _ _ _ _ _ _ _ _ hB hf (by omega) (by omega)).mono ?_
            rw [← hst.out]
            rintro e w8 ⟨A', n', c', rfl, hB', g1⟩
            replace hr := hr.trans g1
            clear g1 hB hf
            go_wp2_with fail
            exact ⟨⟨j + 1, n', c', A', by omega, by go_num, rfl, hB', hr⟩, by simp [intOf]; omega⟩
        · obtain rfl : j = k := by omega
          replace hS := hS.up hr; replace hg := hg.trans hr
          go_wp2_with fail
          refine (x_addL _ _ _ _ _ _ _ _ _ hS hB (by omega) (by omega)).mono ?_
          rw [← hSn.out]
          rintro e w4 ⟨A', n', c', rfl, hS', g1⟩
          replace hg := hg.trans g1
          go_wp2_with fail
          exact ⟨⟨i + 1, n', c', A', by omega, by go_num, rfl, hS', hg⟩, by simp [intOf]; omega⟩
    · obtain rfl : i = k := by omega
      have hm := hS.len
      have hml := hSl.out
      rw [hm] at hml
      obtain ⟨L, hL⟩ : ∃ L, L = thS X Y i i := ⟨_, rfl⟩
      rw [← hL] at hS hm
      have hRL := hR.out
      rw [← hL] at hRL
      replace hRL := Lib.hid hRL; replace hm := Lib.hid hm
      clear hL hl hb
      go_wp2_with (at_make; refine wpList_mkF (.tmp 76) (.tmp 76) i rfl rfl (by omega) ?_)
      have hb0 : BF (wr.alloc (.cells (ff (List.replicate i 0)).toArray 39)) wr.heap.size (mdF (partA L) i 0) := by rw [mdF_zero]; exact hnew wr _
      have gx : Gn wr (wr.alloc (.cells (ff (List.replicate i 0)).toArray 39)) := Gn.al _
      generalize wr.alloc (.cells (ff (List.replicate i 0)).toArray 39) = w1 at *
      go_loopw [15] (fun v wt => ∃ t : Nat, t ≤ m ∧ v = .int .i64 t ∧ BF wt wr.heap.size (mdF (partA L) i t) ∧ Gn wr wt) (fun v _ => m - (intOf v).toNat)
      case atStart => exact ⟨0, by omega, rfl, hb0, gx⟩
      case round =>
        clear hb0 gx
        obtain ⟨t, ht, rfl, hr, hgt⟩ := hrel
        by_cases h1 : t < m
        · obtain ⟨b, o, x, rfl, hx, q1, q2, q3⟩ := (hS.up hgt).at_ h1
          have hti : t < i := by omega
          have hco : co (partA L) t = x.a := by rw [co_partA, co_at hx]
          have hst := Lib.hid (mdF_set (partA L) hti)
          rw [hco] at hst
          clear hx hco
          have hlen := mdF_len (partA L) i t
          generalize mdF (partA L) i t = Mt at *
          generalize Ext.a x = xa at *
          obtain ⟨y, hy⟩ : ∃ y, Mt[t]? = some y := ⟨_, List.getElem?_eq_getElem (show t < Mt.length by omega)⟩
          clear hlen
          have c1 := hr.cell hy
          have c3 := blk_lt hr
          have f1 := box_fz (i := t) hr
          have hB3 := BF.set hr (i := t) xa
          have hg3 := setF_below (i := t) hgt (Nat.le_refl _) xa
          rw [hst.out] at hB3
          clear hy
          go_wp2_with fail
          exact ⟨⟨t + 1, by omega, by go_num, hB3, hg3⟩, by simp [intOf]; omega⟩
        · obtain rfl : t = m := by omega
          have he := Lib.hid (mdF_end (partA L) (n := i) (i := t) (.inr (by rw [partA_length, hm.out]; exact Nat.le_refl _)))
          rw [he.out, ← hRL.out] at hr
          go_wp2_with fail
          go_ret
          exact ⟨_, rfl, hr, hg.trans hgt⟩
end Go.Proofs.YtbfblckgcefaaaaGreatDoor
