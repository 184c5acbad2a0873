/- The walks of the reference of reedsolomon: Encode, EncodeExt, At. -/
import Derived.Test.YtbfblckgcefaaaaGreatDoorRt
namespace Go.Proofs.YtbfblckgcefaaaaGreatDoor
open Go.RowKit Att Att.CRing
/-- when a row can be encoded, as the reference asks it -/
theorem vrow_iff {n : Nat} {b : Int} : vrow n b ↔ vrate b ∧ isP2 (n : Int) ∧ b * (n : Int) ≤ 65536 := by
  constructor
  · rintro ⟨a, m, m1, m4, rfl, rfl, ham⟩
    refine ⟨⟨m, m1, m4, rfl⟩, ⟨a, (cast_pow a).symm⟩, ?_⟩
    rw [cast_pow, two_mul_pow]
    have := pow_lt ham
    omega
  · rintro ⟨⟨m, m1, m4, rfl⟩, ⟨a, ha⟩, h⟩
    rw [cast_pow] at ha
    have ha2 : n = 2 ^ a := by exact_mod_cast ha
    subst ha2
    rw [cast_pow, two_mul_pow] at h
    exact ⟨a, m, m1, m4, rfl, rfl, pow_log (by omega)⟩
open Classical in
set_option maxHeartbeats 4000000 in
theorem y_encode (A : Option Addr) (n c : Nat) (l : List F) (b : Int) (w : World) (hl : SF w A n c l) (hn : n ≤ 1000000) (hb : b ≤ 9223372036854775807) :
    Calls Tryz.prog 7 #[.slice A n c, .int .i64 b] w fun e w' => Ret4 e w w' (encOf l b) := by
  have hR := y_rate b hb
  have hP := y_powI (n : Int) (by omega)
  have l1 := hl.len
  by_cases hv : vrow n b
  · obtain ⟨v1, v2, _⟩ := vrow_iff.1 hv
    rw [decide_eq_true v1] at hR
    rw [decide_eq_true v2] at hP
    clear v1 v2
    obtain ⟨a, m, m1, m4, hna, rfl, ham⟩ := hv
    rw [encOf_pow (l1.trans hna) m1 m4 ham]
    have hp := pow_lt ham
    have hmul := two_mul_pow a m
    rw [← hna] at hmul
    have hPt := fun i hi w => y_point (a + m) i ham hi w
    rw [cast_pow] at hR ⊢
    generalize root (a + m) = u at *
    generalize 2 ^ (a + m) = N at *
    generalize 2 ^ m = B at *
    have hw2 : IntKind.i64.wrap (N : Int) = (N : Int) := IntWalk.i64_in _ (by omega)
    have HM := hmul
    replace l1 := Lib.hid l1
    clear hmul hna
    go_enter Tryz.func7, Tryz.ntmps7
    go_wp2_with fail
    refine (hR _).mono ?_
    rintro e w1 ⟨rfl, g1⟩
    have hg : Gn w w1 := g1
    clear g1
    go_wp2_with fail
    refine (hP _).mono ?_
    rintro e w2 ⟨rfl, g1⟩
    have g1 : Gn w1 w2 := g1
    replace hg := hg.trans g1
    clear g1
    go_wp2_with fail
    go_loopw [7, 8] (fun v i wr => ∃ k : Nat, k ≤ N ∧ i = .int .i64 k ∧ OF wr w2.heap.size v (tab k fun i => ev l (pw u i)) ∧ Gn w2 wr) (fun _ i _ => N - (intOf i).toNat)
    case atStart => exact ⟨0, by omega, rfl, OF.empty w2 (Nat.le_refl _), Gn.al _⟩
    case round =>
      obtain ⟨k, hk, rfl, ho, hr⟩ := hrel
      have lk : (tab k fun i => ev l (pw u i)).length = k := tab_length _ _
      by_cases h1 : k < N
      · have hPk := hPt k (by omega)
        have hst := Lib.hid (tab_succ k fun i => ev l (pw u i))
        generalize (tab k fun i => ev l (pw u i)) = T at *
        have hZ : ev l (pw u k) = ev (l.drop 0) (pw u k) := rfl
        rw [hZ] at hst
        clear hZ
        generalize pw u k = x at *
        clear hPt
        go_wp2_with fail
        refine (hPk _).mono ?_
        rintro e w3 ⟨rfl, g1⟩
        have g1 : Gn wr w3 := g1
        replace hr := hr.trans g1
        replace ho := ho.up g1
        clear g1 hPk
        go_wp2_with fail
        have hi0 : Value.int .u64 0 = .int .u64 (Zm.i ((0 : F))) := by rw [i_zero]
        go_loopw [10, 11] (fun v i wt => ∃ j : Nat, j ≤ n ∧ i = .int .i64 ((j : Int) - 1) ∧ v = .int .u64 (Zm.i (ev (l.drop j) x)) ∧ Gn w3 wt) (fun _ i _ => (intOf i + 1).toNat)
        case atStart => exact ⟨n, Nat.le_refl _, rfl, by rw [List.drop_of_length_le (by rw [l1.out]; exact Nat.le_refl _)]; rfl, Gn.refl _⟩
        case round =>
          obtain ⟨j, hj, rfl, rfl, hs⟩ := hrel
          cases j with
          | zero =>
            generalize ev (l.drop 0) x = y at *
            go_wp2_with (at_builtin; refine wpList_appF (.tmp 56) (.tmp 58) rfl ((ho.up hs).up (Gn.al _)) (by have := (hr.trans hs).size; simp; omega) rfl ((BF.one y).sf (by simp)) (by simp; omega) ?_; intro v4 w4 ho4 hg4; have hg5 := grown_gnF ((hr.trans hs).trans (Gn.al _)) ((ho.up hs).up (Gn.al _)) (Nat.le_refl _) hg4; clear hg4)
            exact ⟨⟨k + 1, by omega, by go_num, by rw [hst.out]; exact ho4, hg5⟩, by simp [intOf]; omega⟩
          | succ j =>
            obtain ⟨b1, o1, y, rfl, hy, q1, q2⟩ := (hl.up (hg.trans (hr.trans hs))).at_ (j := j) (by omega)
            have HE := Lib.hid (ev_dropF hy x)
            clear hy
            generalize ev (l.drop (j + 1)) x = v at *
            rw [show ((j + 1 : Nat) : Int) - 1 = (j : Int) from by omega]
            clear ho hg hst
            go_wp2_with fail
            refine wp_region_gr (by kernel_rfl) (lex_of_chk (by kernel_rfl) (by kernel_rfl)) ?_
            repeat (go_big_quiet_step ((first | (go_at_call 33; with_reducible apply qa (r_mulF _ _ _); rfl) | (go_at_call 32; with_reducible apply qa (r_addF _ _ _); rfl))))
            refine wpQuiet_nil ?_
            intro wr2 hg2
            go_wp2_with fail
            exact ⟨⟨j, by omega, by go_num, by rw [HE.out], hs.trans hg2⟩, by simp [intOf]⟩
      · obtain rfl : k = N := by omega
        obtain ⟨Av, cv, rfl, hs⟩ := ho.sf
        rw [lk] at hs
        clear ho
        go_wp2_with fail
        go_ret2
        refine ⟨⟨Av, cv, ?_, ?_⟩, hg.trans hr⟩
        · show _ = Ending.returned (.tuple #[.slice Av (valP l u k).length cv, .int .i64 0])
          rw [valP_length]; simp only [lk]; rfl
        · show SF _ Av (valP l u k).length cv (valP l u k)
          rw [valP_length]; exact hs
  · rw [encOf_bad (by rw [l1]; exact hv)]
    clear l1
    by_cases v1 : vrate b
    · rw [decide_eq_true v1] at hR
      by_cases v2 : isP2 (n : Int)
      · rw [decide_eq_true v2] at hP
        have v3 : ¬ b * (n : Int) ≤ 65536 := fun h => hv (vrow_iff.2 ⟨v1, v2, h⟩)
        have hb16 := vrate_le v1
        have hb2 := vrate_ge v1
        obtain ⟨B, rfl⟩ : ∃ B : Nat, b = (B : Int) := ⟨b.toNat, by omega⟩
        have hPn : B * n ≤ 16000000 := Nat.le_trans (Nat.mul_le_mul (show B ≤ 16 by omega) hn) (by decide)
        obtain ⟨P, hPe⟩ : ∃ P, P = B * n := ⟨_, rfl⟩
        have hmul : (B : Int) * (n : Int) = (P : Int) := by rw [hPe, Int.natCast_mul]
        rw [hmul] at v3
        rw [← hPe] at hPn
        have hw2 : IntKind.i64.wrap (P : Int) = (P : Int) := IntWalk.i64_in _ (by omega)
        have hb1 : decide ((65536 : Int) < (P : Int)) = true := decide_eq_true (by omega)
        clear hPe hv v1 v2
        go_enter Tryz.func7, Tryz.ntmps7
        go_wp2_with fail
        refine (hR _).mono ?_
        rintro e w1 ⟨rfl, g1⟩
        have hg : Gn w w1 := g1
        clear g1
        go_wp2_with fail
        refine (hP _).mono ?_
        rintro e w2 ⟨rfl, g1⟩
        have g1 : Gn w1 w2 := g1
        replace hg := hg.trans g1
        clear g1
        go_wp2_with fail
        go_ret2
        exact ⟨⟨none, 0, rfl, SF.nil _⟩, hg⟩
      · rw [decide_eq_false v2] at hP
        clear hv v1 v2
        go_enter Tryz.func7, Tryz.ntmps7
        go_wp2_with fail
        refine (hR _).mono ?_
        rintro e w1 ⟨rfl, g1⟩
        have hg : Gn w w1 := g1
        clear g1
        go_wp2_with fail
        refine (hP _).mono ?_
        rintro e w2 ⟨rfl, g1⟩
        have g1 : Gn w1 w2 := g1
        replace hg := hg.trans g1
        clear g1
        go_wp2_with fail
        go_ret2
        exact ⟨⟨none, 0, rfl, SF.nil _⟩, hg⟩
    · rw [decide_eq_false v1] at hR
      clear hv v1 hP
      go_enter Tryz.func7, Tryz.ntmps7
      go_wp2_with fail
      refine (hR _).mono ?_
      rintro e w1 ⟨rfl, g1⟩
      have hg : Gn w w1 := g1
      clear g1
      go_wp2_with fail
      go_ret2
      exact ⟨⟨none, 0, rfl, SF.nil _⟩, hg⟩
end Go.Proofs.YtbfblckgcefaaaaGreatDoor
