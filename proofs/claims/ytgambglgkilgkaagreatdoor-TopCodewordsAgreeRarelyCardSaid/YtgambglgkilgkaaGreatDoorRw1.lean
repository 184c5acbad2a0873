/- The walks of package reedsolomon and its reference: powers of two, rates, rows, words, Encode. -/
import Derived.Test.YtgambglgkilgkaaGreatDoorGm
namespace Go.Proofs.YtgambglgkilgkaaGreatDoor
open Go.RowKit Att Att.CRing
def isP2 (b : Int) : Prop := ∃ m : Nat, b = (2 : Int) ^ m
theorem isP2_neg {b : Int} (h : b ≤ 0) : ¬ isP2 b := by
  rintro ⟨m, rfl⟩
  rw [cast_pow] at h
  have := Nat.two_pow_pos m
  omega
open Classical in
theorem isP2_nat (n : Nat) : decide (∃ k, n = 2 ^ k) = decide (isP2 (n : Int)) := by
  congr 1
  apply propext
  constructor
  · rintro ⟨k, rfl⟩; exact ⟨k, (cast_pow k).symm⟩
  · rintro ⟨k, hk⟩; exact ⟨k, by rw [cast_pow] at hk; omega⟩
/-- a blowup that serves -/
def vrate (b : Int) : Prop := ∃ m : Nat, 1 ≤ m ∧ m ≤ 4 ∧ b = (2 : Int) ^ m
theorem pow_16 {m : Nat} (h : m ≤ 4) : 2 ^ m ≤ 16 := Nat.le_trans (Nat.pow_le_pow_right (n := 2) (by omega) h) (by decide)
theorem pow_2 {m : Nat} (h : 1 ≤ m) : 2 ≤ 2 ^ m := Nat.le_trans (by decide) (Nat.pow_le_pow_right (n := 2) (by omega) h)
theorem vrate_le {b : Int} (h : vrate b) : b ≤ 16 := by
  obtain ⟨m, _, h4, rfl⟩ := h
  rw [cast_pow]
  have := pow_16 h4
  omega
theorem vrate_ge {b : Int} (h : vrate b) : 2 ≤ b := by
  obtain ⟨m, h1, _, rfl⟩ := h
  rw [cast_pow]
  have := pow_2 h1
  omega
theorem vrate_iff {b : Int} (h2 : 2 ≤ b) (h16 : b ≤ 16) : vrate b ↔ isP2 b := by
  constructor
  · rintro ⟨m, _, _, rfl⟩; exact ⟨m, rfl⟩
  · rintro ⟨m, rfl⟩
    rw [cast_pow] at h2 h16
    refine ⟨m, ?_, ?_, rfl⟩
    · rcases Nat.eq_zero_or_pos m with h | h
      · subst h; simp at h2
      · exact h
    · rcases Nat.lt_or_ge 4 m with h | h
      · have : 2 ^ 5 ≤ 2 ^ m := Nat.pow_le_pow_right (n := 2) (by omega) h
        omega
      · exact h
/-- a row that can be encoded -/
def vrow (k : Nat) (b : Int) : Prop := ∃ a m : Nat, 1 ≤ m ∧ m ≤ 4 ∧ k = 2 ^ a ∧ b = (2 : Int) ^ m ∧ a + m ≤ 16
/-- a word that can be decoded -/
def vword (n : Nat) (b : Int) : Prop := ∃ a m : Nat, 1 ≤ m ∧ m ≤ 4 ∧ n = 2 ^ (a + m) ∧ b = (2 : Int) ^ m ∧ a + m ≤ 16
open Classical in
noncomputable def encOf (l : List F) (b : Int) : List F × Int := if vrow l.length b then extOf l b else ([], 1)
theorem encOf_pow {l : List F} {k m : Nat} (hl : l.length = 2 ^ k) (h1 : 1 ≤ m) (h4 : m ≤ 4) (h : k + m ≤ 16) : encOf l ((2 : Int) ^ m) = (valP l (root (k + m)) (2 ^ (k + m)), 0) := by
  unfold encOf
  rw [if_pos ⟨k, m, h1, h4, hl, rfl, h⟩, extOf_pow hl h]
theorem encOf_bad {l : List F} {b : Int} (h : ¬ vrow l.length b) : encOf l b = ([], 1) := if_neg h
theorem two_mul_pow (a m : Nat) : ((2 ^ m : Nat) : Int) * ((2 ^ a : Nat) : Int) = ((2 ^ (a + m) : Nat) : Int) := by
  rw [← Int.natCast_mul, ← Nat.pow_add, Nat.add_comm]
theorem pow_gt {k : Nat} (h : ¬ k ≤ 16) : 65536 < 2 ^ k := Nat.lt_of_lt_of_le (by decide) (Nat.pow_le_pow_right (n := 2) (by omega) (show 17 ≤ k by omega))
theorem pow_log {k : Nat} (h : 2 ^ k ≤ 65536) : k ≤ 16 := by
  rcases Nat.lt_or_ge 16 k with h' | h'
  · have := pow_gt (k := k) (by omega); omega
  · exact h'

theorem s_pow0 (n : Int) (h0 : n ≤ 0) (w : World) :
    Calls Tryz.prog 67 #[.int .i64 n] w fun e w' => e = .returned (.bool false) ∧ ∃ g, w' = gr w g := by
  have hb : ¬ 1 ≤ n := by omega
  have hb2 : decide (1 ≤ n) = false := decide_eq_false hb
  go_enter Tryz.func67, Tryz.ntmps67
  go_wp2_with fail
  go_ret
  exact ⟨rfl, Gn.refl w⟩
open Classical in
theorem s_powL (n : Nat) (h0 : 0 < n) (hn : n < 9223372036854775808) (w : World) :
    Calls Tryz.prog 67 #[.int .i64 n] w fun e w' => e = .returned (.bool (decide (∃ k, n = 2 ^ k))) ∧ ∃ g, w' = gr w g := by
  have e : (bits .and .i64 (n : Int) ((n : Int) - 1) == 0) = decide (∃ k, n = 2 ^ k) := by
    rw [show (n : Int) - 1 = ((n - 1 : Nat) : Int) from by omega, bits_and_i64_63 n (n - 1) hn (by omega)]
    rw [Bool.eq_iff_iff, beq_iff_eq, decide_eq_true_eq, ← and_pred n h0]
    omega
  replace e := Lib.hid e
  have hb : 1 ≤ (n : Int) := by omega
  go_enter Tryz.func67, Tryz.ntmps67
  go_wp2_with fail
  go_ret
  exact ⟨by rw [← e.out]; rfl, Gn.refl w⟩
open Classical in
theorem s_powI (b : Int) (h1 : b ≤ 9223372036854775807) (w : World) :
    Calls Tryz.prog 67 #[.int .i64 b] w fun e w' => e = .returned (.bool (decide (isP2 b))) ∧ ∃ g, w' = gr w g := by
  by_cases h0 : b ≤ 0
  · rw [decide_eq_false (isP2_neg h0)]
    exact s_pow0 b h0 w
  · obtain ⟨n, rfl⟩ : ∃ n : Nat, b = (n : Int) := ⟨b.toNat, by omega⟩
    have h := s_powL n (by omega) (by omega) w
    rwa [isP2_nat n] at h

open Classical in
theorem s_rate (b : Int) (h1 : b ≤ 9223372036854775807) (w : World) :
    Calls Tryz.prog 66 #[.int .i64 b] w fun e w' => e = .returned (.bool (decide (vrate b))) ∧ ∃ g, w' = gr w g := by
  by_cases h2 : 2 ≤ b
  · by_cases h16 : b ≤ 16
    · have hP := s_powI b h1
      have e : vrate b = isP2 b := propext (vrate_iff h2 h16)
      rw [e]
      generalize decide (isP2 b) = r at *
      go_enter Tryz.func66, Tryz.ntmps66
      go_wp2_with fail
      refine (hP _).mono ?_
      rintro e w1 ⟨rfl, g1⟩
      go_wp2_with fail
      go_ret
      exact ⟨rfl, g1⟩
    · rw [decide_eq_false (fun h => h16 (vrate_le h))]
      have b1 : decide (b ≤ 16) = false := decide_eq_false h16
      go_enter Tryz.func66, Tryz.ntmps66
      go_wp2_with fail
      go_ret
      exact ⟨rfl, Gn.refl w⟩
  · rw [decide_eq_false (fun h => h2 (vrate_ge h))]
    have b1 : decide (2 ≤ b) = false := decide_eq_false h2
    go_enter Tryz.func66, Tryz.ntmps66
    go_wp2_with fail
    go_ret
    exact ⟨rfl, Gn.refl w⟩

theorem Ret4.get {e : Ending} {w w' : World} {l : List F} {z : Int} {n : Nat} (h : Ret4 e w w' (l, z)) (hn : l.length = n) : ∃ A c, e = .returned (.tuple #[.slice A n c, .int .i64 z]) ∧ SF w' A n c l ∧ Gn w w' := by
  obtain ⟨⟨A, c, rfl, hs⟩, g⟩ := h
  subst hn
  exact ⟨A, c, rfl, hs, g⟩

open Classical in
set_option maxHeartbeats 1000000 in
theorem s_validRow (k : Nat) (b : Int) (hk : k ≤ 1000000) (h1 : b ≤ 9223372036854775807) (w : World) :
    Calls Tryz.prog 31 #[.int .i64 k, .int .i64 b] w fun e w' => e = .returned (.bool (decide (vrow k b))) ∧ ∃ g, w' = gr w g := by
  have hR := s_rate b h1
  have hP := s_powI (k : Int) (by omega)
  by_cases hr : vrate b
  · rw [decide_eq_true hr] at hR
    by_cases hp : isP2 (k : Int)
    · rw [decide_eq_true hp] at hP
      obtain ⟨m, m1, m4, rfl⟩ := hr
      obtain ⟨a, ha⟩ := hp
      rw [cast_pow] at ha
      have ha2 : k = 2 ^ a := by exact_mod_cast ha
      clear ha
      have hmul := two_mul_pow a m
      have hm16 := pow_16 m4
      rw [← ha2] at hmul
      by_cases h65 : k ≤ 65536
      · have hb1 : decide ((k : Int) ≤ 65536) = true := decide_eq_true (by omega)
        have hprod : 2 ^ (a + m) = 2 ^ m * k := by rw [ha2, ← Nat.pow_add, Nat.add_comm]
        have hpb : 2 ^ (a + m) ≤ 1048576 := by rw [hprod]; exact Nat.le_trans (Nat.mul_le_mul hm16 h65) (by decide)
        by_cases ham : a + m ≤ 16
        · rw [decide_eq_true (show vrow k ((2 : Int) ^ m) from ⟨a, m, m1, m4, ha2, rfl, ham⟩)]
          have h2 := pow_lt ham
          rw [cast_pow] at hR ⊢
          clear hprod
          generalize 2 ^ (a + m) = P at *
          generalize 2 ^ m = B at *
          have hPb : decide ((P : Int) ≤ 65536) = true := decide_eq_true (by omega)
          have HM := hmul
          clear hmul ha2
          go_enter Tryz.func31, Tryz.ntmps31
          go_wp2_with fail
          refine (hR _).mono ?_
          rintro e w1 ⟨rfl, g1⟩
          have g1 : Gn w w1 := g1
          go_wp2_with fail
          refine (hP _).mono ?_
          rintro e w2 ⟨rfl, g2⟩
          replace g1 := g1.trans g2
          go_wp2_with fail
          go_ret
          exact ⟨rfl, g1⟩
        · rw [decide_eq_false (show ¬ vrow k ((2 : Int) ^ m) by
            rintro ⟨a', m', _, _, h3, h4, h5⟩
            rw [cast_pow, cast_pow] at h4
            have e1 : m = m' := pow_inj2 (by exact_mod_cast h4)
            have e2 : a = a' := pow_inj2 (by rw [← ha2, h3])
            omega)]
          have h2 := pow_gt ham
          rw [cast_pow] at hR ⊢
          clear hprod
          generalize 2 ^ (a + m) = P at *
          generalize 2 ^ m = B at *
          have hPb : decide ((P : Int) ≤ 65536) = false := decide_eq_false (by omega)
          have HM := hmul
          clear hmul ha2
          go_enter Tryz.func31, Tryz.ntmps31
          go_wp2_with fail
          refine (hR _).mono ?_
          rintro e w1 ⟨rfl, g1⟩
          have g1 : Gn w w1 := g1
          go_wp2_with fail
          refine (hP _).mono ?_
          rintro e w2 ⟨rfl, g2⟩
          replace g1 := g1.trans g2
          go_wp2_with fail
          go_ret
          exact ⟨rfl, g1⟩
      · rw [decide_eq_false (show ¬ vrow k ((2 : Int) ^ m) by
            rintro ⟨a', m', _, _, h3, h4, h5⟩
            have := pow_lt (k := a') (by omega)
            omega)]
        have hb1 : decide ((k : Int) ≤ 65536) = false := decide_eq_false (by omega)
        rw [cast_pow] at hR ⊢
        clear hmul ha2
        generalize 2 ^ m = B at *
        go_enter Tryz.func31, Tryz.ntmps31
        go_wp2_with fail
        refine (hR _).mono ?_
        rintro e w1 ⟨rfl, g1⟩
        have g1 : Gn w w1 := g1
        go_wp2_with fail
        refine (hP _).mono ?_
        rintro e w2 ⟨rfl, g2⟩
        replace g1 := g1.trans g2
        go_wp2_with fail
        go_ret
        exact ⟨rfl, g1⟩
    · rw [decide_eq_false hp] at hP
      rw [decide_eq_false (show ¬ vrow k b by
        rintro ⟨a, m, _, _, h3, _, _⟩
        exact hp ⟨a, by rw [cast_pow, h3]⟩)]
      clear hp hr
      go_enter Tryz.func31, Tryz.ntmps31
      go_wp2_with fail
      refine (hR _).mono ?_
      rintro e w1 ⟨rfl, g1⟩
      have g1 : Gn w w1 := g1
      go_wp2_with fail
      refine (hP _).mono ?_
      rintro e w2 ⟨rfl, g2⟩
      replace g1 := g1.trans g2
      go_wp2_with fail
      go_ret
      exact ⟨rfl, g1⟩
  · rw [decide_eq_false hr] at hR
    rw [decide_eq_false (show ¬ vrow k b by
      rintro ⟨a, m, m1, m4, _, h4, _⟩
      exact hr ⟨m, m1, m4, h4⟩)]
    clear hr hP
    go_enter Tryz.func31, Tryz.ntmps31
    go_wp2_with fail
    refine (hR _).mono ?_
    rintro e w1 ⟨rfl, g1⟩
    go_wp2_with fail
    go_ret
    exact ⟨rfl, g1⟩
open Classical in
theorem s_encode (A : Option Addr) (n c : Nat) (l : List F) (b : Int) (w : World) (hT : Tab w) (hl : SF w A n c l) (hn : n ≤ 1000000) (hb : b ≤ 9223372036854775807) :
    Calls Tryz.prog 13 #[.slice A n c, .int .i64 b] w fun e w' => Ret4 e w w' (encOf l b) := by
  have hV := s_validRow n b hn hb
  have l1 := hl.len
  by_cases hv : vrow n b
  · rw [decide_eq_true hv] at hV
    unfold encOf
    rw [l1, if_pos hv]
    obtain ⟨r1, r2, hr⟩ : ∃ r1 r2, extOf l b = (r1, r2) := ⟨_, _, rfl⟩
    rw [hr]
    replace hr := Lib.hid hr
    replace l1 := Lib.hid l1
    clear hv
    go_enter Tryz.func13, Tryz.ntmps13
    go_wp2_with fail
    refine (hV _).mono ?_
    rintro e w1 ⟨rfl, g1⟩
    have hg1 : Gn w w1 := g1
    go_wp2_with fail
    refine (n_extend A n c l b _ (hT.up hg1) (hl.up hg1) hn hb).mono ?_
    rintro e w2 hR
    rw [hr.out] at hR
    obtain ⟨A', c', rfl, hs, g⟩ := hR.get (rfl : r1.length = _)
    go_wp2_with fail
    go_ret2
    exact ⟨⟨A', c', rfl, hs⟩, hg1.trans g⟩
  · rw [decide_eq_false hv] at hV
    rw [encOf_bad (by rw [l1]; exact hv)]
    replace l1 := Lib.hid l1
    clear hv
    go_enter Tryz.func13, Tryz.ntmps13
    go_wp2_with fail
    refine (hV _).mono ?_
    rintro e w1 ⟨rfl, g1⟩
    go_wp2_with fail
    go_ret2
    exact ⟨⟨none, 0, rfl, SF.nil _⟩, g1⟩

theorem vword_len {n : Nat} {b : Int} (h : vword n b) : n ≤ 65536 := by
  obtain ⟨a, m, _, _, rfl, _, h6⟩ := h
  exact pow_lt h6
end Go.Proofs.YtgambglgkilgkaaGreatDoor
