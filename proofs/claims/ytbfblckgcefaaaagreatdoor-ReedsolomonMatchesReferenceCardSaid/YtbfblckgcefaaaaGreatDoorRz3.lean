/- The walk of the reference's At. -/
import Derived.Test.YtbfblckgcefaaaaGreatDoorRz2
namespace Go.Proofs.YtbfblckgcefaaaaGreatDoor
open Go.RowKit Att Att.CRing
open Classical in
set_option maxHeartbeats 4000000 in
theorem y_at_bad (A : Option Addr) (n c : Nat) (b i : Int) (w : World) (hn : n ≤ 1000000) (hb : b ≤ 9223372036854775807) (h : ¬ (vrow n b ∧ 0 ≤ i ∧ i < b * (n : Int))) :
    Calls Tryz.prog 19 #[.slice A n c, .int .i64 b, .int .i64 i] w fun e w' => e = .returned (.tuple #[.agg #[.int .u64 0, .int .u64 0], .int .i64 1]) ∧ ∃ g, w' = gr w g := by
  refine calls_gr ?_
  have hR := y_rate b hb
  have hP := y_powI (n : Int) (by omega)
  have za : Zm.i (Ext.a (0 : Ext)) = 0 := rfl
  have zb : Zm.i (Ext.b (0 : Ext)) = 0 := rfl
  by_cases v1 : vrate b
  · rw [decide_eq_true v1] at hR
    by_cases v2 : isP2 (n : Int)
    · rw [decide_eq_true v2] at hP
      have hb16 := vrate_le v1
      have hb2 := vrate_ge v1
      have hvr : vrow n b ↔ b * (n : Int) ≤ 65536 := ⟨fun h => (vrow_iff.1 h).2.2, fun h => vrow_iff.2 ⟨v1, v2, h⟩⟩
      rw [hvr] at h
      obtain ⟨B, rfl⟩ : ∃ B : Nat, b = (B : Int) := ⟨b.toNat, by omega⟩
      have hPn : B * n ≤ 16000000 := Nat.le_trans (Nat.mul_le_mul (show B ≤ 16 by omega) hn) (by decide)
      obtain ⟨P, hPe⟩ : ∃ P, P = B * n := ⟨_, rfl⟩
      have hmul : (B : Int) * (n : Int) = (P : Int) := by rw [hPe, Int.natCast_mul]
      rw [hmul] at h
      rw [← hPe] at hPn
      have hw2 : IntKind.i64.wrap (P : Int) = (P : Int) := IntWalk.i64_in _ (by omega)
      clear hPe v1 v2 hvr
      by_cases h3 : (P : Int) ≤ 65536
      · have hb1 : decide ((65536 : Int) < (P : Int)) = false := decide_eq_false (by omega)
        by_cases h4 : i < 0
        · have hb3 : decide (i < 0) = true := decide_eq_true h4
          clear h
          go_enter Tryz.func19, Tryz.ntmps19
          go_wp2_with fail
          have hx := hnew w zeroExt
          have hg : Gn w (w.alloc zeroExt) := Gn.al _
          unfold zeroExt at hx hg
          generalize w.alloc (.cells #[.int .u64 0, .int .u64 0] 41) = w0 at *
          refine (hR _).mono ?_
          rintro e w1 ⟨rfl, g1⟩
          have g1 : Gn w0 w1 := g1
          replace hx := g1.block hx; replace hg := hg.trans g1
          clear g1
          have r1 := box_a hx; have r2 := box_b hx; have r3 := box_fz (i := 0) hx; have r4 := box_fz (i := 1) hx; have r5 := blk_lt hx
          go_wp2_with fail
          clear r1 r2 r3 r4 r5
          refine (hP _).mono ?_
          rintro e w2 ⟨rfl, g1⟩
          have g1 : Gn w1 w2 := g1
          replace hx := g1.block hx; replace hg := hg.trans g1
          clear g1
          have r1 := box_a hx; have r2 := box_b hx; have r3 := box_fz (i := 0) hx; have r4 := box_fz (i := 1) hx; have r5 := blk_lt hx
          go_wp2_with fail
          have hS := set2_same hx (0 : Ext)
          have hg2 := set2_below hg (Nat.le_refl _) (0 : Ext)
          have s1 := box_a hS
          have s2 := box_b hS
          unfold set2 at s1 s2 hg2
          rw [za, zb] at s1 s2 hg2
          exact bodyPost_ret (v := .tuple #[.agg #[.int .u64 0, .int .u64 0], .int .i64 1]) (by simp [results, Tryz.results19, go_sem, s1, s2]) rfl ⟨rfl, hg2.below⟩
        · have hb3 : decide (i < 0) = false := decide_eq_false h4
          have hb4 : decide ((P : Int) ≤ i) = true := decide_eq_true (by omega)
          clear h
          go_enter Tryz.func19, Tryz.ntmps19
          go_wp2_with fail
          have hx := hnew w zeroExt
          have hg : Gn w (w.alloc zeroExt) := Gn.al _
          unfold zeroExt at hx hg
          generalize w.alloc (.cells #[.int .u64 0, .int .u64 0] 41) = w0 at *
          refine (hR _).mono ?_
          rintro e w1 ⟨rfl, g1⟩
          have g1 : Gn w0 w1 := g1
          replace hx := g1.block hx; replace hg := hg.trans g1
          clear g1
          have r1 := box_a hx; have r2 := box_b hx; have r3 := box_fz (i := 0) hx; have r4 := box_fz (i := 1) hx; have r5 := blk_lt hx
          go_wp2_with fail
          clear r1 r2 r3 r4 r5
          refine (hP _).mono ?_
          rintro e w2 ⟨rfl, g1⟩
          have g1 : Gn w1 w2 := g1
          replace hx := g1.block hx; replace hg := hg.trans g1
          clear g1
          have r1 := box_a hx; have r2 := box_b hx; have r3 := box_fz (i := 0) hx; have r4 := box_fz (i := 1) hx; have r5 := blk_lt hx
          go_wp2_with fail
          have hS := set2_same hx (0 : Ext)
          have hg2 := set2_below hg (Nat.le_refl _) (0 : Ext)
          have s1 := box_a hS
          have s2 := box_b hS
          unfold set2 at s1 s2 hg2
          rw [za, zb] at s1 s2 hg2
          exact bodyPost_ret (v := .tuple #[.agg #[.int .u64 0, .int .u64 0], .int .i64 1]) (by simp [results, Tryz.results19, go_sem, s1, s2]) rfl ⟨rfl, hg2.below⟩
      · have hb1 : decide ((65536 : Int) < (P : Int)) = true := decide_eq_true (by omega)
        clear h
        go_enter Tryz.func19, Tryz.ntmps19
        go_wp2_with fail
        have hx := hnew w zeroExt
        have hg : Gn w (w.alloc zeroExt) := Gn.al _
        unfold zeroExt at hx hg
        generalize w.alloc (.cells #[.int .u64 0, .int .u64 0] 41) = w0 at *
        refine (hR _).mono ?_
        rintro e w1 ⟨rfl, g1⟩
        have g1 : Gn w0 w1 := g1
        replace hx := g1.block hx; replace hg := hg.trans g1
        clear g1
        have r1 := box_a hx; have r2 := box_b hx; have r3 := box_fz (i := 0) hx; have r4 := box_fz (i := 1) hx; have r5 := blk_lt hx
        go_wp2_with fail
        clear r1 r2 r3 r4 r5
        refine (hP _).mono ?_
        rintro e w2 ⟨rfl, g1⟩
        have g1 : Gn w1 w2 := g1
        replace hx := g1.block hx; replace hg := hg.trans g1
        clear g1
        have r1 := box_a hx; have r2 := box_b hx; have r3 := box_fz (i := 0) hx; have r4 := box_fz (i := 1) hx; have r5 := blk_lt hx
        go_wp2_with fail
        have hS := set2_same hx (0 : Ext)
        have hg2 := set2_below hg (Nat.le_refl _) (0 : Ext)
        have s1 := box_a hS
        have s2 := box_b hS
        unfold set2 at s1 s2 hg2
        rw [za, zb] at s1 s2 hg2
        exact bodyPost_ret (v := .tuple #[.agg #[.int .u64 0, .int .u64 0], .int .i64 1]) (by simp [results, Tryz.results19, go_sem, s1, s2]) rfl ⟨rfl, hg2.below⟩
    · rw [decide_eq_false v2] at hP
      clear h v1 v2
      go_enter Tryz.func19, Tryz.ntmps19
      go_wp2_with fail
      have hx := hnew w zeroExt
      have hg : Gn w (w.alloc zeroExt) := Gn.al _
      unfold zeroExt at hx hg
      generalize w.alloc (.cells #[.int .u64 0, .int .u64 0] 41) = w0 at *
      refine (hR _).mono ?_
      rintro e w1 ⟨rfl, g1⟩
      have g1 : Gn w0 w1 := g1
      replace hx := g1.block hx; replace hg := hg.trans g1
      clear g1
      have r1 := box_a hx; have r2 := box_b hx; have r3 := box_fz (i := 0) hx; have r4 := box_fz (i := 1) hx; have r5 := blk_lt hx
      go_wp2_with fail
      clear r1 r2 r3 r4 r5
      refine (hP _).mono ?_
      rintro e w2 ⟨rfl, g1⟩
      have g1 : Gn w1 w2 := g1
      replace hx := g1.block hx; replace hg := hg.trans g1
      clear g1
      have r1 := box_a hx; have r2 := box_b hx; have r3 := box_fz (i := 0) hx; have r4 := box_fz (i := 1) hx; have r5 := blk_lt hx
      go_wp2_with fail
      have hS := set2_same hx (0 : Ext)
      have hg2 := set2_below hg (Nat.le_refl _) (0 : Ext)
      have s1 := box_a hS
      have s2 := box_b hS
      unfold set2 at s1 s2 hg2
      rw [za, zb] at s1 s2 hg2
      exact bodyPost_ret (v := .tuple #[.agg #[.int .u64 0, .int .u64 0], .int .i64 1]) (by simp [results, Tryz.results19, go_sem, s1, s2]) rfl ⟨rfl, hg2.below⟩
  · rw [decide_eq_false v1] at hR
    clear h v1 hP
    go_enter Tryz.func19, Tryz.ntmps19
    go_wp2_with fail
    have hx := hnew w zeroExt
    have hg : Gn w (w.alloc zeroExt) := Gn.al _
    unfold zeroExt at hx hg
    generalize w.alloc (.cells #[.int .u64 0, .int .u64 0] 41) = w0 at *
    refine (hR _).mono ?_
    rintro e w1 ⟨rfl, g1⟩
    have g1 : Gn w0 w1 := g1
    replace hx := g1.block hx; replace hg := hg.trans g1
    clear g1
    have r1 := box_a hx; have r2 := box_b hx; have r3 := box_fz (i := 0) hx; have r4 := box_fz (i := 1) hx; have r5 := blk_lt hx
    go_wp2_with fail
    have hS := set2_same hx (0 : Ext)
    have hg2 := set2_below hg (Nat.le_refl _) (0 : Ext)
    have s1 := box_a hS
    have s2 := box_b hS
    unfold set2 at s1 s2 hg2
    rw [za, zb] at s1 s2 hg2
    exact bodyPost_ret (v := .tuple #[.agg #[.int .u64 0, .int .u64 0], .int .i64 1]) (by simp [results, Tryz.results19, go_sem, s1, s2]) rfl ⟨rfl, hg2.below⟩
open Classical in
set_option maxHeartbeats 4000000 in
theorem y_at (A : Option Addr) (n c : Nat) (l : List Ext) (a m i : Nat) (w : World) (hl : Sl w A n c l) (m1 : 1 ≤ m) (m4 : m ≤ 4) (ha : n = 2 ^ a) (ham : a + m ≤ 16) (hi : i < 2 ^ (a + m)) :
    Calls Tryz.prog 19 #[.slice A n c, .int .i64 (2 ^ m : Nat), .int .i64 i] w fun e w' => e = .returned (.tuple #[.agg #[.int .u64 (Zm.i (Ext.a (ev l (Ext.base (pw (root (a + m)) i))))), .int .u64 (Zm.i (Ext.b (ev l (Ext.base (pw (root (a + m)) i)))))], .int .i64 0]) ∧ ∃ g, w' = gr w g := by
  refine calls_gr ?_
  have hp := pow_lt ham
  have hn16 : n ≤ 1000000 := by rw [ha]; have := pow_lt (k := a) (by omega); omega
  have hB16 := pow_16 m4
  have hR := y_rate ((2 ^ m : Nat) : Int) (by omega)
  rw [decide_eq_true (show vrate ((2 ^ m : Nat) : Int) from ⟨m, m1, m4, (cast_pow m).symm⟩)] at hR
  have hP := y_powI (n : Int) (by omega)
  rw [decide_eq_true (show isP2 (n : Int) from ⟨a, by rw [ha, cast_pow]⟩)] at hP
  have hmul := two_mul_pow a m
  rw [← ha] at hmul
  have hPt := y_point (a + m) i ham (by omega)
  obtain ⟨y, hy⟩ : ∃ y, y = Ext.base (pw (root (a + m)) i) := ⟨_, rfl⟩
  rw [← hy]
  have hBs := x_fromBase (pw (root (a + m)) i)
  rw [← hy] at hBs
  clear hy
  generalize pw (root (a + m)) i = z at *
  obtain ⟨v, hv⟩ : ∃ v, v = ev l y := ⟨_, rfl⟩
  have hEv := fun w h => x_eval A n c l y w h hn16
  rw [← hv] at hEv ⊢
  clear hv ha
  generalize 2 ^ (a + m) = N at *
  generalize 2 ^ m = B at *
  have hw : IntKind.i64.wrap (N : Int) = (N : Int) := IntWalk.i64_in _ (by omega)
  have HM := hmul
  clear hmul
  have hb1 : decide ((65536 : Int) < (N : Int)) = false := decide_eq_false (by omega)
  have hb4 : decide ((N : Int) ≤ (i : Int)) = false := decide_eq_false (by omega)
  go_enter Tryz.func19, Tryz.ntmps19
  go_wp2_with fail
  have hx := hnew w zeroExt
  have hg : Gn w (w.alloc zeroExt) := Gn.al _
  unfold zeroExt at hx hg
  generalize w.alloc (.cells #[.int .u64 0, .int .u64 0] 41) = w0 at *
  replace hl := hl.up hg
  refine (hR _).mono ?_
  rintro e w1 ⟨rfl, g1⟩
  have g1 : Gn w0 w1 := g1
  replace hx := g1.block hx; replace hg := hg.trans g1
  replace hl := hl.up g1
  clear g1
  have r1 := box_a hx; have r2 := box_b hx; have r3 := box_fz (i := 0) hx; have r4 := box_fz (i := 1) hx; have r5 := blk_lt hx
  go_wp2_with fail
  clear r1 r2 r3 r4 r5
  refine (hP _).mono ?_
  rintro e w2 ⟨rfl, g1⟩
  have g1 : Gn w1 w2 := g1
  replace hx := g1.block hx; replace hg := hg.trans g1
  replace hl := hl.up g1
  clear g1
  have r1 := box_a hx; have r2 := box_b hx; have r3 := box_fz (i := 0) hx; have r4 := box_fz (i := 1) hx; have r5 := blk_lt hx
  go_wp2_with fail
  clear r1 r2 r3 r4 r5
  refine (hPt _).mono ?_
  rintro e w3 ⟨rfl, g1⟩
  have g1 : Gn w2 w3 := g1
  replace hx := g1.block hx; replace hg := hg.trans g1; replace hl := hl.up g1
  clear g1
  go_wp2_with fail
  refine (hBs _).mono ?_
  rintro e w4 ⟨rfl, g1⟩
  have g1 : Gn w3 w4 := g1
  replace hx := g1.block hx; replace hg := hg.trans g1; replace hl := hl.up g1
  clear g1
  go_wp2_with fail
  refine (hEv _ hl).mono ?_
  rintro e w5 ⟨rfl, g1⟩
  have g1 : Gn w4 w5 := g1
  replace hx := g1.block hx; replace hg := hg.trans g1
  clear g1 hl
  have r1 := box_a hx; have r2 := box_b hx; have r3 := box_fz (i := 0) hx; have r4 := box_fz (i := 1) hx; have r5 := blk_lt hx
  go_wp2_with fail
  have hS := set2_same hx v
  have hg2 := set2_below hg (Nat.le_refl _) v
  have s1 := box_a hS
  have s2 := box_b hS
  unfold set2 at s1 s2 hg2
  exact bodyPost_ret (v := .tuple #[.agg #[.int .u64 (Zm.i (Ext.a (v))), .int .u64 (Zm.i (Ext.b (v)))], .int .i64 0]) (by simp [results, Tryz.results19, go_sem, s1, s2]) rfl ⟨rfl, hg2.below⟩
end Go.Proofs.YtbfblckgcefaaaaGreatDoor
