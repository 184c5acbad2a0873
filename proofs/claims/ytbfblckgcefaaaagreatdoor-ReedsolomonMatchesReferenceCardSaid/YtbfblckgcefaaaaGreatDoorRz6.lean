/- The walks of the reference's Is and Decode; elements of the laws. -/
import Derived.Test.YtbfblckgcefaaaaGreatDoorRz5
import Derived.Deep.LoopGhost
import Derived.OwnWalk
namespace Go.Proofs.YtbfblckgcefaaaaGreatDoor
open Go.RowKit Att Att.CRing
theorem vword_iff {n : Nat} {b : Int} : vword n b ↔ vrate b ∧ isP2 (n : Int) ∧ b ≤ (n : Int) ∧ n ≤ 65536 := by
  constructor
  · intro h
    have h65 := vword_len h
    obtain ⟨a, m, m1, m4, rfl, rfl, h6⟩ := h
    refine ⟨⟨m, m1, m4, rfl⟩, ⟨a + m, (cast_pow _).symm⟩, ?_, h65⟩
    rw [cast_pow]
    have : 2 ^ m ≤ 2 ^ (a + m) := Nat.pow_le_pow_right (by omega) (by omega)
    omega
  · rintro ⟨⟨m, m1, m4, rfl⟩, ⟨N, hN⟩, h3, h4⟩
    rw [cast_pow] at hN
    have hN2 : n = 2 ^ N := by exact_mod_cast hN
    subst hN2
    have h5 := pow_log h4
    rw [cast_pow] at h3
    have h6 : m ≤ N := by
      rcases Nat.lt_or_ge N m with h | h
      · have : 2 ^ N < 2 ^ m := Nat.pow_lt_pow_right (by omega) h
        omega
      · exact h
    exact ⟨N - m, m, m1, m4, by rw [show N - m + m = N from by omega], rfl, by omega⟩
open Classical in
set_option maxHeartbeats 2000000 in
theorem y_is_bad (A : Option Addr) (n c : Nat) (b : Int) (w : World) (hn : n ≤ 1000000) (hb : b ≤ 9223372036854775807) (h : ¬ vword n b) :
    Calls Tryz.prog 21 #[.slice A n c, .int .i64 b] w fun e w' => e = .returned (.tuple #[.bool false, .int .i64 1]) ∧ Gn w w' := by
  have hR := y_rate b hb
  have hP := y_powI (n : Int) (by omega)
  by_cases v1 : vrate b
  · rw [decide_eq_true v1] at hR
    by_cases v2 : isP2 (n : Int)
    · rw [decide_eq_true v2] at hP
      have hvw : vword n b ↔ b ≤ (n : Int) ∧ n ≤ 65536 := ⟨fun h => let q := vword_iff.1 h; ⟨q.2.2.1, q.2.2.2⟩, fun h => vword_iff.2 ⟨v1, v2, h.1, h.2⟩⟩
      rw [hvw] at h
      clear v1 v2 hvw
      by_cases h3 : b ≤ (n : Int)
      · have hb1 : decide ((n : Int) < b) = false := decide_eq_false (by omega)
        have hb2 : decide ((65536 : Int) < (n : Int)) = true := decide_eq_true (by omega)
        have hb3 : decide (65536 < n) = true := decide_eq_true (by omega)
        clear h
        go_enter Tryz.func21, Tryz.ntmps21
        go_wp2_with fail
        refine (hR _).mono ?_
        rintro e w1 ⟨rfl, g1⟩
        have hg : Gn w w1 := g1
        clear g1
        go_wp2_with fail
        refine (hP _).mono ?_
        rintro e w2 ⟨rfl, g1⟩
        have g1 : Gn w1 w2 := g1
        replace hg := hg.trans g1
        clear g1
        go_wp2_with fail
        go_ret2
        exact ⟨rfl, hg⟩
      · have hb1 : decide ((n : Int) < b) = true := decide_eq_true (by omega)
        clear h
        go_enter Tryz.func21, Tryz.ntmps21
        go_wp2_with fail
        refine (hR _).mono ?_
        rintro e w1 ⟨rfl, g1⟩
        have hg : Gn w w1 := g1
        clear g1
        go_wp2_with fail
        refine (hP _).mono ?_
        rintro e w2 ⟨rfl, g1⟩
        have g1 : Gn w1 w2 := g1
        replace hg := hg.trans g1
        clear g1
        go_wp2_with fail
        go_ret2
        exact ⟨rfl, hg⟩
    · rw [decide_eq_false v2] at hP
      clear h v1 v2
      go_enter Tryz.func21, Tryz.ntmps21
      go_wp2_with fail
      refine (hR _).mono ?_
      rintro e w1 ⟨rfl, g1⟩
      have hg : Gn w w1 := g1
      clear g1
      go_wp2_with fail
      refine (hP _).mono ?_
      rintro e w2 ⟨rfl, g1⟩
      have g1 : Gn w1 w2 := g1
      replace hg := hg.trans g1
      clear g1
      go_wp2_with fail
      go_ret2
      exact ⟨rfl, hg⟩
  · rw [decide_eq_false v1] at hR
    clear h v1 hP
    go_enter Tryz.func21, Tryz.ntmps21
    go_wp2_with fail
    refine (hR _).mono ?_
    rintro e w1 ⟨rfl, g1⟩
    have hg : Gn w w1 := g1
    clear g1
    go_wp2_with fail
    go_ret2
    exact ⟨rfl, hg⟩
open Classical in
set_option maxHeartbeats 2000000 in
theorem y_decode_bad (A : Option Addr) (n c : Nat) (b : Int) (w : World) (hn : n ≤ 1000000) (hb : b ≤ 9223372036854775807) (h : ¬ vword n b) :
    Calls Tryz.prog 12 #[.slice A n c, .int .i64 b] w fun e w' => e = .returned (.tuple #[.slice none 0 0, .int .i64 0, .int .i64 1]) ∧ Gn w w' := by
  have hR := y_rate b hb
  have hP := y_powI (n : Int) (by omega)
  by_cases v1 : vrate b
  · rw [decide_eq_true v1] at hR
    by_cases v2 : isP2 (n : Int)
    · rw [decide_eq_true v2] at hP
      have hvw : vword n b ↔ b ≤ (n : Int) ∧ n ≤ 65536 := ⟨fun h => let q := vword_iff.1 h; ⟨q.2.2.1, q.2.2.2⟩, fun h => vword_iff.2 ⟨v1, v2, h.1, h.2⟩⟩
      rw [hvw] at h
      clear v1 v2 hvw
      by_cases h3 : b ≤ (n : Int)
      · have hb1 : decide ((n : Int) < b) = false := decide_eq_false (by omega)
        have hb2 : decide ((65536 : Int) < (n : Int)) = true := decide_eq_true (by omega)
        have hb3 : decide (65536 < n) = true := decide_eq_true (by omega)
        clear h
        go_enter Tryz.func12, Tryz.ntmps12
        go_wp2_with fail
        refine (hR _).mono ?_
        rintro e w1 ⟨rfl, g1⟩
        have hg : Gn w w1 := g1
        clear g1
        go_wp2_with fail
        refine (hP _).mono ?_
        rintro e w2 ⟨rfl, g1⟩
        have g1 : Gn w1 w2 := g1
        replace hg := hg.trans g1
        clear g1
        go_wp2_with fail
        go_ret3
        exact ⟨rfl, hg⟩
      · have hb1 : decide ((n : Int) < b) = true := decide_eq_true (by omega)
        clear h
        go_enter Tryz.func12, Tryz.ntmps12
        go_wp2_with fail
        refine (hR _).mono ?_
        rintro e w1 ⟨rfl, g1⟩
        have hg : Gn w w1 := g1
        clear g1
        go_wp2_with fail
        refine (hP _).mono ?_
        rintro e w2 ⟨rfl, g1⟩
        have g1 : Gn w1 w2 := g1
        replace hg := hg.trans g1
        clear g1
        go_wp2_with fail
        go_ret3
        exact ⟨rfl, hg⟩
    · rw [decide_eq_false v2] at hP
      clear h v1 v2
      go_enter Tryz.func12, Tryz.ntmps12
      go_wp2_with fail
      refine (hR _).mono ?_
      rintro e w1 ⟨rfl, g1⟩
      have hg : Gn w w1 := g1
      clear g1
      go_wp2_with fail
      refine (hP _).mono ?_
      rintro e w2 ⟨rfl, g1⟩
      have g1 : Gn w1 w2 := g1
      replace hg := hg.trans g1
      clear g1
      go_wp2_with fail
      go_ret3
      exact ⟨rfl, hg⟩
  · rw [decide_eq_false v1] at hR
    clear h v1 hP
    go_enter Tryz.func12, Tryz.ntmps12
    go_wp2_with fail
    refine (hR _).mono ?_
    rintro e w1 ⟨rfl, g1⟩
    have hg : Gn w w1 := g1
    clear g1
    go_wp2_with fail
    go_ret3
    exact ⟨rfl, hg⟩
theorem code_thr {N K : Nat} {u : F} {y : Nat → F} (hx : Dif (pw u) N) (hI : Inc K N (fun j => j)) : isCode N K u y ↔ dis (cw (thr u y (fun j => j) K) u) y N = 0 := by
  constructor
  · rintro ⟨row, h1, h2⟩
    have e := thr_unique (y := y) hx hI h1 (fun j hj => h2 j (hI.1 j hj))
    rw [e]
    exact dis_zero.2 h2
  · intro h
    exact ⟨_, thr_length _ _ _ _, fun i hi => dis_zero.1 h i hi⟩
open Classical in
set_option maxRecDepth 100000 in
set_option maxHeartbeats 8000000 in
theorem y_is (A : Option Addr) (c : Nat) (l : List F) (a m : Nat) (w : World) (m1 : 1 ≤ m) (m4 : m ≤ 4) (ham : a + m ≤ 16) (hl : SF w A (2 ^ (a + m)) c l) :
    Calls Tryz.prog 21 #[.slice A (2 ^ (a + m) : Nat) c, .int .i64 (2 ^ m : Nat)] w fun e w' => e = .returned (.tuple #[.bool (decide (isCode (2 ^ (a + m)) (2 ^ a) (root (a + m)) (co l))), .int .i64 0]) ∧ Gn w w' := by
  have hp := pow_lt ham
  have hR := y_rate ((2 ^ m : Nat) : Int) (by have := pow_16 m4; omega)
  rw [decide_eq_true (show vrate ((2 ^ m : Nat) : Int) from ⟨m, m1, m4, (cast_pow m).symm⟩)] at hR
  have hP := y_powI ((2 ^ (a + m) : Nat) : Int) (by omega)
  rw [decide_eq_true (show isP2 ((2 ^ (a + m) : Nat) : Int) from ⟨a + m, (cast_pow _).symm⟩)] at hP
  have hle : 2 ^ a ≤ 2 ^ (a + m) := Nat.pow_le_pow_right (by omega) (by omega)
  have hBle : 2 ^ m ≤ 2 ^ (a + m) := Nat.pow_le_pow_right (by omega) (by omega)
  have hx : Dif (pw (root (a + m))) (2 ^ (a + m)) := (root_prim (a + m) (by omega)).dif
  have hEnc : ∀ P : List F, P.length = 2 ^ a → encOf P ((2 ^ m : Nat) : Int) = (valP P (root (a + m)) (2 ^ (a + m)), 0) := fun P hP => by
    rw [← cast_pow]; exact encOf_pow hP m1 m4 ham
  have hTh := fun A B c d s w hl hb hs => y_through A B c d (2 ^ a) (a + m) l s w hl ham hb hle hs
  have hq1 : Int.tdiv ((2 ^ (a + m) : Nat) : Int) ((2 ^ m : Nat) : Int) = ((2 ^ a : Nat) : Int) := by
    rw [Int.tdiv_eq_ediv_of_nonneg (Int.natCast_nonneg _), ← Int.natCast_ediv, Nat.pow_add, Nat.mul_div_cancel _ (Nat.two_pow_pos m)]
  have hq2 : ((2 ^ (a + m) : Nat) : Int) / ((2 ^ m : Nat) : Int) = ((2 ^ a : Nat) : Int) := by
    rw [← Int.natCast_ediv, Nat.pow_add, Nat.mul_div_cancel _ (Nat.two_pow_pos m)]
  have hmul := two_mul_pow a m
  have hK0 : 0 < 2 ^ a := Nat.two_pow_pos a
  have hB0 : 0 < 2 ^ m := Nat.two_pow_pos m
  have hB16 := pow_16 m4
  generalize root (a + m) = u at *
  generalize 2 ^ (a + m) = N at *
  generalize 2 ^ m = B at *
  generalize 2 ^ a = K at *
  have ll := Lib.hid hl.len
  replace hx := Lib.hid hx; replace hEnc := Lib.hid hEnc
  have hInc : Inc K N (fun j => j) := ⟨fun j hj => Nat.lt_of_lt_of_le hj hle, fun i j h _ => h⟩
  have hb1 : decide ((N : Int) < (B : Int)) = false := decide_eq_false (by omega)
  have hb2 : decide ((65536 : Int) < (N : Int)) = false := decide_eq_false (by omega)
  have hb3 : decide (N < B) = false := decide_eq_false (by omega)
  have hb4 : decide (65536 < N) = false := decide_eq_false (by omega)
  obtain ⟨row, hrow⟩ : ∃ row, row = thr u (co l) (fun j => j) K := ⟨_, rfl⟩
  have lrow : row.length = K := by rw [hrow]; exact thr_length _ _ _ _
  have Er := hEnc.out row lrow
  obtain ⟨v, hv⟩ : ∃ v, v = valP row u N := ⟨_, rfl⟩
  have lv : v.length = N := by rw [hv, valP_length]
  have hdl : disL v l = dis (cw row u) (co l) N := by rw [hv]; exact disL_val ll.out
  obtain ⟨D, hD⟩ : ∃ D, D = dis (cw row u) (co l) N := ⟨_, rfl⟩
  have hq : decide (isCode N K u (co l)) = ((D : Int) == 0) := by
    rw [Bool.eq_iff_iff, decide_eq_true_eq, beq_iff_eq, code_thr hx.out hInc, ← hrow, ← hD]
    omega
  rw [hq]
  have hTh1 := fun B d w hl hb => hTh A B c d (fun j => j) w hl hb hInc
  rw [← hv] at Er
  rw [← hD] at hdl
  rw [← hrow] at hTh1
  have hrng := idl_rng (k := K) (s := fun j => j) (n := N) (fun j hj => Nat.lt_of_lt_of_le hj hle) (by omega)
  replace Er := Lib.hid Er; replace lv := Lib.hid lv; replace hdl := Lib.hid hdl; replace lrow := Lib.hid lrow; replace hrng := Lib.hid hrng
  have hQ1 := hq1; have hQ2 := hq2
  clear hv hD hrow hq hTh hInc hq1 hq2 hmul
  go_enter Tryz.func21, Tryz.ntmps21
  go_wp2_with fail
  refine (hR _).mono ?_
  rintro e w1 ⟨rfl, g1⟩
  have hg : Gn w w1 := g1
  clear g1
  go_wp2_with fail
  refine (hP _).mono ?_
  rintro e w2 ⟨rfl, g1⟩
  have g1 : Gn w1 w2 := g1
  replace hg := hg.trans g1
  clear g1
  go_wp2_with fail
  go_loopw [6, 7] (fun v i wr => ∃ k : Nat, k ≤ K ∧ i = .int .i64 k ∧ OwI wr w2.heap.size v (idl k fun j => j) ∧ Gn w2 wr) (fun _ i _ => K - (intOf i).toNat)
  case atStart => exact ⟨0, by omega, rfl, OwI.empty w2 (Nat.le_refl _), Gn.al _⟩
  case round =>
    obtain ⟨k, hk, rfl, ho, hr⟩ := hrel
    have lk : (idl k fun j => j).length = k := idl_length _ _
    by_cases h1 : k < K
    · have hst := Lib.hid (idl_succ k fun j => j)
      generalize (idl k fun j => j) = T at *
      go_wp2_with (at_builtin; refine wpList_appI (.tmp 39) (.tmp 41) (z := (k : Int)) rfl (ho.up (Gn.al _)) (by have := hr.size; simp; omega) rfl (hnew _ _) (by simp; omega) ?_; intro v4 w4 ho4 hg4; have hg5 := grown_gnI (hr.trans (Gn.al _)) (ho.up (Gn.al _)) (Nat.le_refl _) hg4; clear hg4)
      exact ⟨⟨k + 1, by omega, by go_num, by rw [hst.out]; exact ho4, hg5⟩, by simp [intOf]; omega⟩
    · obtain rfl : k = K := by omega
      obtain ⟨Ai, ci, rfl, hi⟩ := ho.sl hrng.out
      rw [lk] at hi
      try rw [lk]
      clear ho
      replace hg := hg.trans hr
      go_wp2_with fail
      refine (hTh1 _ _ _ (hl.up hg) hi).mono ?_
      rintro e w3 ⟨br, rfl, hB, g1⟩
      replace hg := hg.trans g1
      have hrw := hB.sf (by rw [lrow.out]; omega)
      rw [lrow.out] at hrw
      clear g1 hi hTh1 hB
      go_wp2_with fail
      refine (y_encode _ _ _ _ _ _ hrw (by omega) (by omega)).mono ?_
      rintro e w4 hRt
      rw [Er.out] at hRt
      obtain ⟨Av, cv, rfl, hvv, g1⟩ := hRt.get lv.out
      replace hg := hg.trans g1
      clear g1 hrw hRt
      go_wp2_with fail
      have hDi := y_distance _ _ _ _ _ _ _ _ _ hvv (hl.up hg) (by omega) (by omega)
      rw [hdl.out] at hDi
      refine hDi.mono ?_
      rintro e w5 ⟨rfl, g1⟩
      have g1 : Gn w4 w5 := g1
      replace hg := hg.trans g1
      go_wp2_with fail
      go_ret2
      exact ⟨rfl, hg⟩
theorem Tried.first {n k : Nat} {u : F} {y : Nat → F} : Tried n k u y (fun j => j) := by
  intro t ht hlx
  obtain ⟨d, hd, _, h2⟩ := hlx
  have := ht.gap (i := 0) d (by omega)
  rw [Nat.zero_add] at this
  have h3 : t d < d := h2
  omega
open Classical in
set_option maxRecDepth 100000 in
set_option maxHeartbeats 8000000 in
theorem y_decode (A : Option Addr) (c : Nat) (l : List F) (a m : Nat) (w : World) (m1 : 1 ≤ m) (m4 : m ≤ 4) (ham : a + m ≤ 16) (hl : SF w A (2 ^ (a + m)) c l) :
    Calls Tryz.prog 12 #[.slice A (2 ^ (a + m) : Nat) c, .int .i64 (2 ^ m : Nat)] w fun e w' => ∃ r, DecIs (2 ^ (a + m)) (2 ^ a) (root (a + m)) (co l) r ∧ RetX e w w' r := by
  have hp := pow_lt ham
  have hR := y_rate ((2 ^ m : Nat) : Int) (by have := pow_16 m4; omega)
  rw [decide_eq_true (show vrate ((2 ^ m : Nat) : Int) from ⟨m, m1, m4, (cast_pow m).symm⟩)] at hR
  have hP := y_powI ((2 ^ (a + m) : Nat) : Int) (by omega)
  rw [decide_eq_true (show isP2 ((2 ^ (a + m) : Nat) : Int) from ⟨a + m, (cast_pow _).symm⟩)] at hP
  have hle : 2 ^ a ≤ 2 ^ (a + m) := Nat.pow_le_pow_right (by omega) (by omega)
  have hBle : 2 ^ m ≤ 2 ^ (a + m) := Nat.pow_le_pow_right (by omega) (by omega)
  have hx : Dif (pw (root (a + m))) (2 ^ (a + m)) := (root_prim (a + m) (by omega)).dif
  have hEnc : ∀ P : List F, P.length = 2 ^ a → encOf P ((2 ^ m : Nat) : Int) = (valP P (root (a + m)) (2 ^ (a + m)), 0) := fun P hP => by
    rw [← cast_pow]; exact encOf_pow hP m1 m4 ham
  have hTh := fun A B c d s w hl hb hs => y_through A B c d (2 ^ a) (a + m) l s w hl ham hb hle hs
  have hq1 : Int.tdiv ((2 ^ (a + m) : Nat) : Int) ((2 ^ m : Nat) : Int) = ((2 ^ a : Nat) : Int) := by
    rw [Int.tdiv_eq_ediv_of_nonneg (Int.natCast_nonneg _), ← Int.natCast_ediv, Nat.pow_add, Nat.mul_div_cancel _ (Nat.two_pow_pos m)]
  have hq2 : ((2 ^ (a + m) : Nat) : Int) / ((2 ^ m : Nat) : Int) = ((2 ^ a : Nat) : Int) := by
    rw [← Int.natCast_ediv, Nat.pow_add, Nat.mul_div_cancel _ (Nat.two_pow_pos m)]
  have hmul := two_mul_pow a m
  have hK0 : 0 < 2 ^ a := Nat.two_pow_pos a
  have hB0 : 0 < 2 ^ m := Nat.two_pow_pos m
  have hB16 := pow_16 m4
  generalize root (a + m) = u at *
  generalize 2 ^ (a + m) = N at *
  generalize 2 ^ m = B at *
  generalize 2 ^ a = K at *
  have ll := Lib.hid hl.len
  replace hx := Lib.hid hx; replace hEnc := Lib.hid hEnc
  have hInc : Inc K N (fun j => j) := ⟨fun j hj => Nat.lt_of_lt_of_le hj hle, fun i j h _ => h⟩
  have hb1 : decide ((N : Int) < (B : Int)) = false := decide_eq_false (by omega)
  have hb2 : decide ((65536 : Int) < (N : Int)) = false := decide_eq_false (by omega)
  have hb3 : decide (N < B) = false := decide_eq_false (by omega)
  have hb4 : decide (65536 < N) = false := decide_eq_false (by omega)
  have hMd := y_minDistance K B N hmul hle (by omega)
  have hdl : ∀ row : List F, disL (valP row u N) l = dis (cw row u) (co l) N := fun row => disL_val ll.out
  replace hdl := Lib.hid hdl
  have hQ1 := hq1; have hQ2 := hq2
  clear hq1 hq2 hmul
  go_enter Tryz.func12, Tryz.ntmps12
  go_wp2_with fail
  refine (hR _).mono ?_
  rintro e w1 ⟨rfl, g1⟩
  have hg : Gn w w1 := g1
  clear g1
  go_wp2_with fail
  refine (hP _).mono ?_
  rintro e w2 ⟨rfl, g1⟩
  have g1 : Gn w1 w2 := g1
  replace hg := hg.trans g1
  clear g1
  go_wp2_with fail
  go_loopw [8, 9] (fun v i wr => ∃ k : Nat, k ≤ K ∧ i = .int .i64 k ∧ OwI wr w2.heap.size v (idl k fun j => j) ∧ Gn w2 wr) (fun _ i _ => K - (intOf i).toNat)
  case atStart => exact ⟨0, by omega, rfl, OwI.empty w2 (Nat.le_refl _), Gn.al _⟩
  case round =>
    obtain ⟨k, hk, rfl, ho, hr⟩ := hrel
    have lk : (idl k fun j => j).length = k := idl_length _ _
    by_cases h1 : k < K
    · have hst := Lib.hid (idl_succ k fun j => j)
      generalize (idl k fun j => j) = T at *
      go_wp2_with (at_builtin; refine wpList_appI (.tmp 44) (.tmp 46) (z := (k : Int)) rfl (ho.up (Gn.al _)) (by have := hr.size; simp; omega) rfl (hnew _ _) (by simp; omega) ?_; intro v4 w4 ho4 hg4; have hg5 := grown_gnI (hr.trans (Gn.al _)) (ho.up (Gn.al _)) (Nat.le_refl _) hg4; clear hg4)
      exact ⟨⟨k + 1, by omega, by go_num, by rw [hst.out]; exact ho4, hg5⟩, by simp [intOf]; omega⟩
    · obtain rfl : k = K := by omega
      obtain ⟨gi, ci, rest, rfl, hri, hgi, hpc, hcc⟩ := ho.ri (by rw [lk]; exact hK0)
      rw [lk] at hpc ⊢
      have hgw : w.heap.size ≤ gi := Nat.le_trans hg.size hgi
      clear ho
      replace hg := hg.trans hr
      clear hr hR hP
      go_wp2_with fail
      clear hQ1 hQ2
      go_loopg [13] (N ^ k - lxv N (fun j => j) k) (fun gk _s wt => ∃ s, gk = N ^ k - lxv N s k ∧ Inc k N s ∧ Tried N k u (co l) s ∧ RI wt gi (idl k s) rest ∧ Gn w wt)
      case atStart => exact ⟨fun j => j, rfl, hInc, Tried.first, hri, hg⟩
      case round =>
        clear hri hg hInc
        obtain ⟨s, rfl, hI, hT, hri, hg⟩ := hrel
        have hsl := hri.sl (c := ci) (by rw [idl_length]; exact hpc) hcc (idl_rng hI.1 (by omega))
        rw [idl_length] at hsl
        have hThs := hTh A (some ⟨gi, 0, none⟩) c ci s _ (hl.up hg) hsl hI
        obtain ⟨row, hrow⟩ : ∃ row, row = thr u (co l) s k := ⟨_, rfl⟩
        have lrow : row.length = k := by rw [hrow]; exact thr_length _ _ _ _
        have Er := hEnc.out row lrow
        have hdr := hdl.out row
        obtain ⟨v, hv⟩ : ∃ v, v = valP row u N := ⟨_, rfl⟩
        have lv : v.length = N := by rw [hv, valP_length]
        rw [← hv] at Er hdr
        obtain ⟨D, hD⟩ : ∃ D, D = dis (cw row u) (co l) N := ⟨_, rfl⟩
        rw [← hD] at hdr
        rw [← hrow] at hThs
        have hDn : D ≤ N := by rw [hD]; exact dis_le _ _ _
        replace hI := Lib.hid hI; replace hT := Lib.hid hT; replace Er := Lib.hid Er; replace hdr := Lib.hid hdr; replace lv := Lib.hid lv; replace lrow := Lib.hid lrow; replace hD := Lib.hid hD; replace hrow := Lib.hid hrow
        clear hv hsl
        go_wp2_with fail
        refine hThs.mono ?_
        rintro e w3 ⟨br, rfl, hB, g1⟩
        replace hg := hg.trans g1; replace hri := hri.up g1
        have hrw := hB.sf (by rw [lrow.out]; omega)
        rw [lrow.out] at hrw
        clear g1 hThs hB
        go_wp2_with fail
        refine (y_encode _ _ _ _ _ _ hrw (by omega) (by omega)).mono ?_
        rintro e w4 hRt
        rw [Er.out] at hRt
        obtain ⟨Av, cv, rfl, hvv, g1⟩ := hRt.get lv.out
        replace hg := hg.trans g1; replace hri := hri.up g1; replace hrw := hrw.up g1
        clear g1 hRt
        go_wp2_with fail
        have hDi := y_distance _ _ _ _ _ _ _ _ _ hvv (hl.up hg) (by omega) (by omega)
        rw [hdr.out] at hDi
        refine hDi.mono ?_
        rintro e w5 ⟨rfl, g1⟩
        have g1 : Gn w4 w5 := g1
        replace hg := hg.trans g1; replace hri := hri.up g1; replace hrw := hrw.up g1
        clear g1 hDi hvv
        by_cases hd : 2 * D < N - k + 1
        · have hbd : decide (2 * (D : Int) < ((N - k + 1 : Nat) : Int)) = true := decide_eq_true (by omega)
          have hnear : DecIs N k u (co l) (row, ((D : Nat) : Int), 0) := by
            rw [hD.out]
            exact .inl ⟨row, ⟨lrow.out, by rw [← hD.out]; exact hd⟩, rfl⟩
          replace hnear := Lib.hid hnear
          go_wp2_with fail
          refine (hMd _).mono ?_
          rintro e w6 ⟨rfl, rfl⟩
          go_wp2_with fail
          try rw [Exit.noGoto_ret]
          go_ret3
          refine ⟨_, hnear.out, ⟨some ⟨br, 0, none⟩, k, ?_, ?_⟩, hg⟩
          · show _ = Ending.returned (.tuple #[.slice (some ⟨br, 0, none⟩) row.length k, .int .i64 (D : Int), .int .i64 0])
            rw [lrow.out]; rfl
          · show SF _ (some ⟨br, 0, none⟩) row.length k row
            rw [lrow.out]; exact hrw
        · have hbd : decide (2 * (D : Int) < ((N - k + 1 : Nat) : Int)) = false := decide_eq_false (by omega)
          have hfar : ¬ Near N k u (co l) (thr u (co l) s k) := by
            rw [← hrow.out]
            rintro ⟨_, h⟩
            rw [← hD.out] at h
            exact hd h
          replace hfar := Lib.hid hfar
          clear hrw
          go_wp2_with fail
          refine (hMd _).mono ?_
          rintro e w6 ⟨rfl, rfl⟩
          go_wp2_with fail
          refine (y_next gi k ci N s rest w _ hg hgw hri hpc hI.out (by omega) hle).mono ?_
          rintro e w7 ⟨hg7, ⟨i, hi, hlt, htop, rfl, hri7⟩ | ⟨htop, rfl⟩⟩
          · have hI2 := nxt_inc hI.out hi hlt
            have hT2 := hT.out.step hx.out hI.out hfar.out hi htop
            have hdec : N ^ k - lxv N (nxt s i) k < N ^ k - lxv N s k := by
              have h1 := lxv_mono (n := N) (s := s) (t := nxt s i) hI.out.1 (nxt_gt hi)
              have h2 := lxv_lt (n := N) (s := nxt s i) (k := k) hI2.1
              omega
            replace hI2 := Lib.hid hI2; replace hT2 := Lib.hid hT2
            clear hI hT htop hri hg
            go_wp2_with fail
            go_roundg (N ^ k - lxv N (nxt s i) k)
            case measure => exact hdec
            case rel => exact ⟨nxt s i, rfl, hI2.out, hT2.out, hri7, hg7⟩
          · have hbadd := DecIs.bad (hT.out.none hx.out hle hI.out hfar.out htop)
            replace hbadd := Lib.hid hbadd
            clear hri hg hI hT htop
            go_wp2_with fail
            try rw [Exit.noGoto_ret]
            go_ret3
            exact ⟨_, hbadd.out, ⟨none, 0, rfl, SF.nil _⟩, hg7⟩
end Go.Proofs.YtbfblckgcefaaaaGreatDoor
