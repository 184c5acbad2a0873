/- The walk of Decode; At, Is and Decode where an argument does not serve. -/
import Derived.Test.YtbfblckgcefaaaaGreatDoorRw6
import Derived.Test.YtbfblckgcefaaaaGreatDoorGa
import Derived.OwnWalk
namespace Go.Proofs.YtbfblckgcefaaaaGreatDoor
open Go.RowKit Att Att.CRing
/-- what a decoder answers -/
def RetX (e : Ending) (w w' : World) (r : List F × Int × Int) : Prop := (∃ A c, e = .returned (.tuple #[.slice A r.1.length c, .int .i64 r.2.1, .int .i64 r.2.2]) ∧ SF w' A r.1.length c r.1) ∧ Gn w w'
theorem RetX.get {e : Ending} {w w' : World} {l : List F} {d z : Int} {n : Nat} (h : RetX e w w' (l, d, z)) (hn : l.length = n) : ∃ A c, e = .returned (.tuple #[.slice A n c, .int .i64 d, .int .i64 z]) ∧ SF w' A n c l ∧ Gn w w' := by
  obtain ⟨⟨A, c, rfl, hs⟩, g⟩ := h
  subst hn
  exact ⟨A, c, rfl, hs, g⟩
/-- the inverse transform's values are the word -/
theorem ev_invOf {l : List F} {N : Nat} (hl : l.length = 2 ^ N) (hN : N ≤ 16) {i : Nat} (hi : i < 2 ^ N) : ev (invOf l).1 (pw (root N) i) = co l i := by
  have h := fwd_inv hl hN
  rw [fwdOf_pow (invOf_length hl hN) hN] at h
  have h2 := congrArg (fun r => co r.1 i) h
  rwa [show co (valP (invOf l).1 (root N) (2 ^ N), (0 : Int)).1 i = co (valP (invOf l).1 (root N) (2 ^ N)) i from rfl, co_valP _ _ _ _ hi] at h2
theorem gao_word {l v : List F} {N k : Nat} (hl : l.length = 2 ^ N) (hN : N ≤ 16) (hk : k ≤ 2 ^ N) (hv : invOf l = (v, 0)) :
    Gao (2 ^ N) k (fun i => Ext.base (pw (root N) i)) (fun i => Ext.base (co l i)) (cyc (2 ^ N)) (trim (liftE v)) [] [1] := by
  have hlen := invOf_length hl hN
  rw [hv] at hlen
  refine Gao.start (Nat.two_pow_pos N) hk (fun i _ => ?_) (fun i hi => ?_) (by rw [liftE_length]; exact Nat.le_of_eq hlen)
  · rw [← Ext.base_pw, ← pw_mul, Nat.mul_comm, pw_mul, root_full N (by omega), one_pw, Ext.base_one]
  · have h := ev_invOf hl hN hi
    rw [hv] at h
    rw [ev_liftE, h]
theorem disL_val {l k : List F} {u : F} {n : Nat} (hk : k.length = n) : disL (valP l u n) k = dis (cw l u) (co k) n := by
  unfold disL
  rw [valP_length, hk, Nat.min_self, Nat.max_self, Nat.sub_self, Nat.add_zero]
  exact dis_congr (fun i hi => co_valP _ _ _ _ hi) (fun _ _ => rfl)
theorem padF_padA (P : List Ext) (k : Nat) : padF (partA P) k = padA P k := rfl
open Classical in
set_option maxRecDepth 100000 in
set_option maxHeartbeats 8000000 in
theorem s_decode (A : Option Addr) (c : Nat) (l : List F) (a m : Nat) (w : World) (hT : Tab w) (m1 : 1 ≤ m) (m4 : m ≤ 4) (ham : a + m ≤ 16) (hl : SF w A (2 ^ (a + m)) c l) :
    Calls Tryz.prog 11 #[.slice A (2 ^ (a + m) : Nat) c, .int .i64 (2 ^ m : Nat)] w fun e w' => ∃ r, DecIs (2 ^ (a + m)) (2 ^ a) (root (a + m)) (co l) r ∧ RetX e w w' r := by
  have hp := pow_lt ham
  have hV := s_validWord A (2 ^ (a + m)) c ((2 ^ m : Nat) : Int) w (by omega) (by have := pow_16 m4; omega)
  rw [decide_eq_true (show vword (2 ^ (a + m)) ((2 ^ m : Nat) : Int) from ⟨a, m, m1, m4, rfl, (cast_pow m).symm, ham⟩)] at hV
  have hi := invOf_length hl.len ham
  obtain ⟨v, hv⟩ : ∃ v, invOf l = (v, 0) := ⟨(invOf l).1, by rw [invOf_pow hl.len ham]⟩
  rw [hv] at hi
  have hle : 2 ^ a ≤ 2 ^ (a + m) := Nat.pow_le_pow_right (by omega) (by omega)
  have hG0 := gao_word hl.len ham hle hv
  have hx : Dif (pw (root (a + m))) (2 ^ (a + m)) := (root_prim (a + m) (by omega)).dif
  have hEnc : ∀ P, encOf (padA P (2 ^ a)) ((2 ^ m : Nat) : Int) = (valP (padA P (2 ^ a)) (root (a + m)) (2 ^ (a + m)), 0) := fun P => by
    rw [← cast_pow]; exact encOf_pow (padA_length P _) m1 m4 ham
  have hq1 : Int.tdiv ((2 ^ (a + m) : Nat) : Int) ((2 ^ m : Nat) : Int) = ((2 ^ a : Nat) : Int) := by
    rw [Int.tdiv_eq_ediv_of_nonneg (by omega), ← Int.natCast_ediv, Nat.pow_add, Nat.mul_div_cancel _ (Nat.two_pow_pos m)]
  have hq2 : ((2 ^ (a + m) : Nat) : Int) / ((2 ^ m : Nat) : Int) = ((2 ^ a : Nat) : Int) := by
    rw [← Int.natCast_ediv, Nat.pow_add, Nat.mul_div_cancel _ (Nat.two_pow_pos m)]
  have hmul := two_mul_pow a m
  have hlt : 2 ^ a < 2 ^ (a + m) := Nat.pow_lt_pow_right (by omega) (by omega)
  have hK0 : 0 < 2 ^ a := Nat.two_pow_pos a
  have hB0 : 0 < 2 ^ m := Nat.two_pow_pos m
  have hB16 := pow_16 m4
  generalize root (a + m) = u at *
  generalize 2 ^ (a + m) = N at *
  generalize 2 ^ m = B at *
  generalize 2 ^ a = K at *
  have hi0 := hi
  have ll := Lib.hid hl.len
  replace hi := Lib.hid hi; replace hv := Lib.hid hv; replace hG0 := Lib.hid hG0; replace hx := Lib.hid hx; replace hEnc := Lib.hid hEnc
  have hMd := s_minDistance K B N hmul hle (by omega)
  have hLl : (liftE v).length = N := by rw [liftE_length]; exact hi0
  clear hi0
  replace hLl := Lib.hid hLl
  have hQ1 := Lib.hid hq1; have hQ2 := Lib.hid hq2; have hM := Lib.hid hmul
  clear hq1 hq2 hmul
  have hT0 := hT
  go_enter Tryz.func11, Tryz.ntmps11
  go_wp2_with fail
  refine hV.mono ?_
  rintro e w1 ⟨rfl, g1⟩
  have g1 : Gn w w1 := g1
  replace hT := hT.up g1
  go_wp2_with fail
  refine (n_inverse _ _ _ _ _ hT (hl.up g1) (by omega)).mono ?_
  rintro e w2 hR
  rw [hv.out] at hR
  obtain ⟨A2, c2, rfl, h2, g⟩ := hR.get hi.out
  replace g1 := g1.trans g; replace hT := hT.up g
  clear g hR hV
  have hq1 := hQ1.out; have hq2 := hQ2.out
  go_wp2_with fail
  clear hq1 hq2
  refine (s_lift A2 N c2 v _ h2 (by omega)).mono ?_
  rintro e w3 ⟨rfl, hB, g⟩
  have h3 := hB.sl (by rw [hLl.out]; omega)
  rw [hLl.out] at h3
  replace g1 := g1.trans g; replace hT := hT.up g
  clear g hB h2
  generalize w2.heap.size = b2 at *
  go_wp2_with fail
  refine (s_candidate _ N N K (liftE v) (fun i => Ext.base (pw u i)) (fun i => Ext.base (co l i)) _ h3 (by omega) (by omega) hle hG0.out).mono ?_
  rintro e w4 ⟨r0, r1, v0, v1, P, ok, Ap, cp, hG, hS, rfl, hP, g, hPl, hcase⟩
  have hD := DecIs.cand hG hle hS hx.out hcase
  replace g1 := g1.trans g; replace hT := hT.up g
  clear hG hS hcase g h3
  cases ok with
  | false =>
    have hD1 := Lib.hid (hD.1 rfl)
    clear hD
    go_wp2_with fail
    go_ret3
    exact ⟨_, hD1.out, ⟨none, 0, rfl, SF.nil _⟩, g1⟩
  | true =>
    obtain ⟨hPk, hyes, hno⟩ := hD.2 rfl
    replace hyes := Lib.hid hyes; replace hno := Lib.hid hno
    clear hD
    go_wp2_with (at_make; refine wpList_mkF (.tmp 40) (.tmp 40) K rfl rfl (by omega) ?_)
    have hb0 : BF (w4.alloc (.cells (ff (List.replicate K 0)).toArray 39)) w4.heap.size (List.replicate K 0) := hnew w4 _
    have gx : Gn w4 (w4.alloc (.cells (ff (List.replicate K 0)).toArray 39)) := Gn.al _
    have hbb := g1.size
    generalize w4.alloc (.cells (ff (List.replicate K 0)).toArray 39) = w5 at *
    generalize w4.heap.size = b4 at *
    replace g1 := g1.trans gx; replace hT := hT.up gx; replace hP := hP.up gx
    clear gx
    refine (s_compD Ap P.length cp P _ hP (by omega)).mono ?_
    rintro e w6 ⟨rfl, hC, g⟩
    have hl6 : (partA P).length = P.length := partA_length P
    have h6 := hC.sf (by rw [hl6]; omega)
    rw [hl6] at h6
    replace g1 := g1.trans g; replace hT := hT.up g; replace hb0 := hb0.up g
    clear g hC hP hl6
    generalize w5.heap.size = b5 at *
    obtain ⟨w7, hcp, hb7, hby⟩ := run_cpF (ty := 3) hb0 h6 hPk
    have hg7 := Gn.by g1 hbb hby
    have hT7 := hT0.up hg7
    rw [padF_padA] at hb7
    clear hby
    have h7 := hb7.sf (by rw [padA_length]; omega)
    rw [padA_length] at h7
    clear hb7 h6 hb0
    go_wp2_with fail
    clear hcp
    refine (s_encode _ _ _ _ _ _ hT7 h7 (by omega) (by omega)).mono ?_
    rintro e w8 hR
    rw [hEnc.out] at hR
    obtain ⟨A8, c8, rfl, h8, g⟩ := hR.get (valP_length _ _ _)
    replace hg7 := hg7.trans g
    replace h7 := h7.up g
    clear g hR hT7 hT
    have hl8 := hl.up hg7
    have hdl := disL_val (l := padA P K) (u := u) ll.out
    go_wp2_with fail
    refine (s_distance _ _ _ _ _ _ _ _ _ h8 hl8 (by omega) (by omega)).mono ?_
    rintro e w9 ⟨rfl, g9⟩
    have g9 : Gn w8 w9 := g9
    replace hg7 := hg7.trans g9
    replace h7 := h7.up g9
    rw [hdl]
    clear g9 h8 hl8 hl hdl
    have hdn := dis_le (cw (padA P K) u) (co l) N
    have hyes2 := hyes.out; have hno2 := hno.out
    clear hyes hno
    have hZ : (padA P K).length = K := padA_length P K
    generalize padA P K = Z at *
    generalize dis (cw Z u) (co l) N = d at *
    by_cases hd : 2 * d < N - K + 1
    · have hY := Lib.hid (hyes2 hd)
      have b1 : decide (2 * (d : Int) < ((N - K + 1 : Nat) : Int)) = true := decide_eq_true (by omega)
      clear hyes2 hno2
      go_wp2_with fail
      refine (hMd _).mono ?_
      rintro e w10 ⟨rfl, rfl⟩
      go_wp2_with fail
      go_ret3
      refine ⟨_, hY.out, ⟨some ⟨b4, 0, none⟩, K, ?_, ?_⟩, hg7⟩
      · show _ = Ending.returned (.tuple #[.slice (some ⟨b4, 0, none⟩) Z.length K, .int .i64 (d : Int), .int .i64 0])
        rw [hZ]; rfl
      · show SF _ (some ⟨b4, 0, none⟩) Z.length K Z
        rw [hZ]; exact h7
    · have hY := Lib.hid (hno2 hd)
      have b1 : decide (2 * (d : Int) < ((N - K + 1 : Nat) : Int)) = false := decide_eq_false (by omega)
      clear hyes2 hno2
      go_wp2_with fail
      refine (hMd _).mono ?_
      rintro e w10 ⟨rfl, rfl⟩
      go_wp2_with fail
      go_ret3
      exact ⟨_, hY.out, ⟨none, 0, rfl, SF.nil _⟩, hg7⟩
/- ───── where an argument does not serve ───── -/
open Classical in
theorem s_decode_bad (A : Option Addr) (n c : Nat) (b : Int) (w : World) (hn : n ≤ 1000000) (hb : b ≤ 9223372036854775807) (h : ¬ vword n b) :
    Calls Tryz.prog 11 #[.slice A n c, .int .i64 b] w fun e w' => e = .returned (.tuple #[.slice none 0 0, .int .i64 0, .int .i64 1]) ∧ Gn w w' := by
  have hV := s_validWord A n c b w hn hb
  rw [decide_eq_false h] at hV
  clear h
  go_enter Tryz.func11, Tryz.ntmps11
  go_wp2_with fail
  refine hV.mono ?_
  rintro e w1 ⟨rfl, g1⟩
  go_wp2_with fail
  go_ret3
  exact ⟨rfl, g1⟩
open Classical in
theorem s_is_bad (A : Option Addr) (n c : Nat) (b : Int) (w : World) (hn : n ≤ 1000000) (hb : b ≤ 9223372036854775807) (h : ¬ vword n b) :
    Calls Tryz.prog 20 #[.slice A n c, .int .i64 b] w fun e w' => e = .returned (.tuple #[.bool false, .int .i64 1]) ∧ Gn w w' := by
  have hV := s_validWord A n c b w hn hb
  rw [decide_eq_false h] at hV
  clear h
  go_enter Tryz.func20, Tryz.ntmps20
  go_wp2_with fail
  refine hV.mono ?_
  rintro e w1 ⟨rfl, g1⟩
  go_wp2_with fail
  go_ret2
  exact ⟨rfl, g1⟩
end Go.Proofs.YtbfblckgcefaaaaGreatDoor
