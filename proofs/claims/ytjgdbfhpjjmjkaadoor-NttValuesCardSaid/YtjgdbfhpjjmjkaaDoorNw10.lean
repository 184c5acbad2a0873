/- ntt.Extend. -/
import Derived.Test.YtjgdbfhpjjmjkaaDoorNw9
namespace Go.Proofs.YtjgdbfhpjjmjkaaDoor
open Go.RowKit Att Att.CRing
open Classical in
theorem n_pow2I (b : Int) (h1 : b ≤ 9223372036854775807) (w : World) :
    Calls Tryd.prog 39 #[.int .i64 b] w fun e w' => e = .returned (.bool (decide (∃ m : Nat, b = (2 : Int) ^ m))) ∧ ∃ g, w' = gr w g := by
  by_cases h0 : b ≤ 0
  · have hd : decide (∃ m : Nat, b = (2 : Int) ^ m) = false := decide_eq_false (by
      rintro ⟨m, rfl⟩
      rw [cast_pow] at h0
      have := Nat.two_pow_pos m
      omega)
    rw [hd]
    exact n_pow2n b h0 w
  · obtain ⟨n, rfl⟩ : ∃ n : Nat, b = (n : Int) := ⟨b.toNat, by omega⟩
    have h := n_pow2L n (by omega) (by omega) w
    have hd : decide (∃ k, n = 2 ^ k) = decide (∃ m : Nat, (n : Int) = (2 : Int) ^ m) := by
      congr 1
      apply propext
      constructor
      · rintro ⟨k, rfl⟩; exact ⟨k, (cast_pow k).symm⟩
      · rintro ⟨k, hk⟩; exact ⟨k, by rw [cast_pow] at hk; omega⟩
    rwa [hd] at h
theorem pow_inj2 {a b : Nat} (h : 2 ^ a = 2 ^ b) : a = b := by
  have h := congrArg Nat.log2 h
  rwa [Nat.log2_two_pow, Nat.log2_two_pow] at h
def elen (n : Nat) (b : Int) : Prop := ∃ k m : Nat, n = 2 ^ k ∧ b = (2 : Int) ^ m ∧ k + m ≤ 16
open Classical in
noncomputable def extOf (l : List F) (b : Int) : List F × Int := if elen l.length b then (valP l (root (l.length * b.toNat).log2) (l.length * b.toNat), 0) else ([], 1)
theorem extOf_pow {l : List F} {k m : Nat} (hl : l.length = 2 ^ k) (h : k + m ≤ 16) : extOf l ((2 : Int) ^ m) = (valP l (root (k + m)) (2 ^ (k + m)), 0) := by
  unfold extOf
  rw [if_pos ⟨k, m, hl, rfl, h⟩, hl, cast_pow, Int.toNat_natCast, ← Nat.pow_add, Nat.log2_two_pow]
theorem extOf_bad {l : List F} {b : Int} (h : ¬ elen l.length b) : extOf l b = ([], 1) := if_neg h
theorem ev_padF {l : List F} {N : Nat} (h : l.length ≤ N) (x : F) : ev (padF l N) x = ev l x := by
  apply ev_of_co
  intro i
  unfold padF
  rw [co_tab]
  by_cases hi : i < N
  · rw [if_pos hi]
  · rw [if_neg hi, co_big l i (by omega)]
theorem valP_padF {l : List F} {N : Nat} (h : l.length ≤ N) (u : F) (n : Nat) : valP (padF l N) u n = valP l u n := by
  unfold valP
  congr 1
  funext i
  exact ev_padF h _
open Classical in
set_option maxRecDepth 100000 in
set_option maxHeartbeats 1000000 in
theorem n_extend (A : Option Addr) (n c : Nat) (l : List F) (b : Int) (w : World) (hT : Tab w) (hl : SF w A n c l) (hn : n ≤ 1000000) (hb : b ≤ 9223372036854775807) :
    Calls Tryd.prog 18 #[.slice A n c, .int .i64 b] w fun e w' => Ret4 e w w' (extOf l b) := by
  have hV := n_validLen n (by omega)
  have hPw := n_pow2I b hb
  by_cases hv : vlen n
  · rw [decide_eq_true hv] at hV
    by_cases hm : ∃ m : Nat, b = (2 : Int) ^ m
    · rw [decide_eq_true hm] at hPw
      obtain ⟨k, hk, rfl⟩ := hv
      obtain ⟨m, rfl⟩ := hm
      have hlen := hl.len
      have hp0 : 0 < 2 ^ k := Nat.pow_pos (by omega)
      have hp := pow_lt hk
      have hp1 : 0 < 2 ^ m := Nat.pow_pos (by omega)
      have hq : Int.tdiv 65536 ((2 ^ k : Nat) : Int) = ((2 ^ (16 - k) : Nat) : Int) := by
        rw [Int.tdiv_eq_ediv_of_nonneg (by omega), show (65536 : Int) = ((2 ^ 16 : Nat) : Int) from rfl, ← Int.natCast_ediv, Nat.pow_div hk (by omega)]
      have hRb : 2 ^ (16 - k) ≤ 65536 := Nat.le_trans (Nat.pow_le_pow_right (n := 2) (by omega) (show 16 - k ≤ 16 by omega)) (by decide)
      by_cases hkm : k + m ≤ 16
      · rw [extOf_pow hlen hkm]
        have hle : 2 ^ m ≤ 2 ^ (16 - k) := Nat.pow_le_pow_right (by omega) (by omega)
        have hF := fun g c rest w hT => n_tfF g c (k + m) (padF l (2 ^ (k + m))) rest w hT hkm (padF_length _ _)
        have hpm := pow_lt hkm
        have hmul : ((2 ^ m : Nat) : Int) * ((2 ^ k : Nat) : Int) = ((2 ^ (k + m) : Nat) : Int) := by
          rw [← Int.natCast_mul, ← Nat.pow_add, Nat.add_comm]
        have hnN : 2 ^ k ≤ 2 ^ (k + m) := Nat.pow_le_pow_right (by omega) (by omega)
        have HP := Lib.hid (valP_length l (root (k + m)) (2 ^ (k + m)))
        have HV := valP_padF (l := l) (N := 2 ^ (k + m)) (by omega) (root (k + m)) (2 ^ (k + m))
        rw [HV] at hF
        rw [cast_pow] at hPw ⊢
        clear HV hb hlen
        generalize valP l (root (k + m)) (2 ^ (k + m)) = M at *
        generalize 2 ^ (k + m) = N at *
        generalize 2 ^ (16 - k) = R at *
        generalize 2 ^ k = n at *
        generalize 2 ^ m = b at *
        go_enter Tryd.func18, Tryd.ntmps18
        go_wp2_with fail
        refine (hV _).mono ?_
        rintro e w1 ⟨rfl, g1⟩
        have hg1 : Gn w w1 := g1
        clear g1
        go_wp2_with fail
        refine (hPw _).mono ?_
        rintro e w2 ⟨rfl, g2⟩
        have hg2 : Gn w w2 := hg1.trans g2
        clear g2 hg1
        go_wp2_with (at_make; refine wpList_mkF (.tmp 26) (.tmp 26) N (congrArg (Value.int .i64) (by first | rfl | exact hmul)) (congrArg (Value.int .i64) (by first | rfl | exact hmul)) (by omega) ?_)
        have hb0 : BF (w2.alloc (.cells (ff (List.replicate N 0)).toArray 34)) w2.heap.size (List.replicate N 0) := hnew w2 _
        have hg3 : Gn w (w2.alloc (.cells (ff (List.replicate N 0)).toArray 34)) := hg2.trans (Gn.al _)
        have hbb := hg2.size
        generalize w2.alloc (.cells (ff (List.replicate N 0)).toArray 34) = w3 at *
        generalize w2.heap.size = g at *
        clear hg2
        obtain ⟨w4, hcp, hb4, hby⟩ := run_cpF (ty := 3) hb0 (hl.up hg3) hnN
        have hg4 := Gn.by hg3 hbb hby
        clear hby
        go_wp2_with fail
        rw [hcp]
        go_wp2_with fail
        refine (hF g N [] _ (hT.up hg4) hb4.rf (by omega) (by omega)).mono ?_
        rintro e w5 ⟨rfl, hr5, hby5⟩
        have hg5 := Gn.by hg4 hbb hby5
        clear hg4 hb4 hg3 hb0 hby5
        go_wp2_with fail
        go_ret2
        have e := HP.out
        subst e
        exact ⟨⟨_, _, rfl, hr5.sf (by omega) (by omega)⟩, hg5⟩
      · have hbig : 2 ^ (16 - k) < 2 ^ m := Nat.pow_lt_pow_right (by omega) (by omega)
        rw [extOf_bad (by
          rw [hlen]
          rintro ⟨k', m', h1, h2, h3⟩
          have e1 : k = k' := pow_inj2 h1
          rw [cast_pow, cast_pow] at h2
          have e2 : m = m' := pow_inj2 (by exact_mod_cast h2)
          omega)]
        rw [cast_pow] at hPw hb ⊢
        clear hlen hkm
        generalize 2 ^ (16 - k) = R at *
        generalize 2 ^ k = n at *
        generalize 2 ^ m = b at *
        go_enter Tryd.func18, Tryd.ntmps18
        go_wp2_with fail
        refine (hV _).mono ?_
        rintro e w1 ⟨rfl, g1⟩
        have hg1 : Gn w w1 := g1
        clear g1
        go_wp2_with fail
        refine (hPw _).mono ?_
        rintro e w2 ⟨rfl, g2⟩
        have hg2 : Gn w w2 := hg1.trans g2
        clear g2 hg1
        go_wp2_with fail
        go_ret2
        exact ⟨⟨none, 0, rfl, SF.nil _⟩, hg2⟩
    · rw [decide_eq_false hm] at hPw
      rw [extOf_bad (by rintro ⟨k', m', h1, h2, h3⟩; exact hm ⟨m', h2⟩)]
      clear hm hv
      go_enter Tryd.func18, Tryd.ntmps18
      go_wp2_with fail
      refine (hV _).mono ?_
      rintro e w1 ⟨rfl, g1⟩
      have hg1 : Gn w w1 := g1
      clear g1
      go_wp2_with fail
      refine (hPw _).mono ?_
      rintro e w2 ⟨rfl, g2⟩
      have hg2 : Gn w w2 := hg1.trans g2
      clear g2 hg1
      go_wp2_with fail
      go_ret2
      exact ⟨⟨none, 0, rfl, SF.nil _⟩, hg2⟩
  · rw [decide_eq_false hv] at hV
    rw [extOf_bad (by
      rw [hl.len]
      rintro ⟨k', m', h1, h2, h3⟩
      exact hv ⟨k', by omega, h1⟩)]
    clear hv
    go_enter Tryd.func18, Tryd.ntmps18
    go_wp2_with fail
    refine (hV _).mono ?_
    rintro e w1 ⟨rfl, g1⟩
    have hg1 : Gn w w1 := g1
    clear g1
    go_wp2_with fail
    go_ret2
    exact ⟨⟨none, 0, rfl, SF.nil _⟩, hg1⟩
end Go.Proofs.YtjgdbfhpjjmjkaaDoor
