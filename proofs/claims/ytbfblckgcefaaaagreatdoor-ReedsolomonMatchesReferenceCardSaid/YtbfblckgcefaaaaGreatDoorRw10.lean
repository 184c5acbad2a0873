/- At where an argument does not serve; the fixed examples of law09.sanity, plain. -/
import Derived.Test.YtbfblckgcefaaaaGreatDoorRw9
namespace Go.Proofs.YtbfblckgcefaaaaGreatDoor
open Go.RowKit Att Att.CRing
open Classical in
set_option maxHeartbeats 2000000 in
theorem s_at_bad (A : Option Addr) (n c : Nat) (b i : Int) (w : World) (hn : n ≤ 1000000) (hb : b ≤ 9223372036854775807) (h : ¬ (vrow n b ∧ 0 ≤ i ∧ i < b * (n : Int))) :
    Calls Tryz.prog 18 #[.slice A n c, .int .i64 b, .int .i64 i] w fun e w' => e = .returned (.tuple #[.agg #[.int .u64 0, .int .u64 0], .int .i64 1]) ∧ ∃ g, w' = gr w g := by
  refine calls_gr ?_
  have hV := s_validRow n b hn hb
  have za : Zm.i (Ext.a (0 : Ext)) = 0 := rfl
  have zb : Zm.i (Ext.b (0 : Ext)) = 0 := rfl
  obtain ⟨W, hW⟩ : ∃ W, W = IntKind.i64.wrap (b * (n : Int)) := ⟨_, rfl⟩
  rcases (show (¬ vrow n b) ∨ (vrow n b ∧ i < 0) ∨ (vrow n b ∧ 0 ≤ i ∧ W ≤ i) by
    by_cases h1 : vrow n b
    · by_cases h2 : i < 0
      · exact .inr (.inl ⟨h1, h2⟩)
      · refine .inr (.inr ⟨h1, by omega, ?_⟩)
        have h3 : ¬ i < b * (n : Int) := fun e => h ⟨h1, by omega, e⟩
        obtain ⟨a, m, _, m4, rfl, rfl, ham⟩ := h1
        rw [cast_pow, two_mul_pow] at hW h3
        have := pow_lt ham
        generalize 2 ^ (a + m) = P at *
        rw [hW, IntWalk.i64_in _ (by omega)]
        omega
    · exact .inl h1) with h1 | ⟨h1, h2⟩ | ⟨h1, h2, h3⟩
  · rw [decide_eq_false h1] at hV
    clear h1
    clear h
    replace hW := Lib.hid hW.symm
    have hW2 := hW.out
    go_enter Tryz.func18, Tryz.ntmps18
    go_wp2_with fail
    clear hW2
    have hx := hnew w zeroExt
    have hg : Gn w (w.alloc zeroExt) := Gn.al _
    unfold zeroExt at hx hg
    generalize w.alloc (.cells #[.int .u64 0, .int .u64 0] 41) = w0 at *
    refine (hV _).mono ?_
    rintro e w1 ⟨rfl, g1⟩
    have g1 : Gn w0 w1 := g1
    replace hx := g1.block hx; replace hg := hg.trans g1
    clear g1
    have r1 := box_a hx; have r2 := box_b hx; have r3 := box_fz (i := 0) hx; have r4 := box_fz (i := 1) hx; have r5 := blk_lt hx
    go_wp2_with fail
    have hS := set2_same hx (0 : Ext)
    have hg2 := set2_below hg (Nat.le_refl _) (0 : Ext)
    have s1 := box_a hS
    have s2 := box_b hS
    unfold set2 at s1 s2 hg2
    rw [za, zb] at s1 s2 hg2
    exact bodyPost_ret (v := .tuple #[.agg #[.int .u64 0, .int .u64 0], .int .i64 1]) (by simp [results, Tryz.results18, go_sem, s1, s2]) rfl ⟨rfl, hg2.below⟩
  · rw [decide_eq_true h1] at hV
    have b1 : decide (i < 0) = true := decide_eq_true h2
    clear h
    replace hW := Lib.hid hW.symm
    have hW2 := hW.out
    go_enter Tryz.func18, Tryz.ntmps18
    go_wp2_with fail
    clear hW2
    have hx := hnew w zeroExt
    have hg : Gn w (w.alloc zeroExt) := Gn.al _
    unfold zeroExt at hx hg
    generalize w.alloc (.cells #[.int .u64 0, .int .u64 0] 41) = w0 at *
    refine (hV _).mono ?_
    rintro e w1 ⟨rfl, g1⟩
    have g1 : Gn w0 w1 := g1
    replace hx := g1.block hx; replace hg := hg.trans g1
    clear g1
    have r1 := box_a hx; have r2 := box_b hx; have r3 := box_fz (i := 0) hx; have r4 := box_fz (i := 1) hx; have r5 := blk_lt hx
    go_wp2_with fail
    have hS := set2_same hx (0 : Ext)
    have hg2 := set2_below hg (Nat.le_refl _) (0 : Ext)
    have s1 := box_a hS
    have s2 := box_b hS
    unfold set2 at s1 s2 hg2
    rw [za, zb] at s1 s2 hg2
    exact bodyPost_ret (v := .tuple #[.agg #[.int .u64 0, .int .u64 0], .int .i64 1]) (by simp [results, Tryz.results18, go_sem, s1, s2]) rfl ⟨rfl, hg2.below⟩
  · rw [decide_eq_true h1] at hV
    have b1 : decide (i < 0) = false := decide_eq_false (by omega)
    have b2 : decide (W ≤ i) = true := decide_eq_true h3
    clear h
    replace hW := Lib.hid hW.symm
    have hW2 := hW.out
    go_enter Tryz.func18, Tryz.ntmps18
    go_wp2_with fail
    clear hW2
    have hx := hnew w zeroExt
    have hg : Gn w (w.alloc zeroExt) := Gn.al _
    unfold zeroExt at hx hg
    generalize w.alloc (.cells #[.int .u64 0, .int .u64 0] 41) = w0 at *
    refine (hV _).mono ?_
    rintro e w1 ⟨rfl, g1⟩
    have g1 : Gn w0 w1 := g1
    replace hx := g1.block hx; replace hg := hg.trans g1
    clear g1
    have r1 := box_a hx; have r2 := box_b hx; have r3 := box_fz (i := 0) hx; have r4 := box_fz (i := 1) hx; have r5 := blk_lt hx
    go_wp2_with fail
    have hS := set2_same hx (0 : Ext)
    have hg2 := set2_below hg (Nat.le_refl _) (0 : Ext)
    have s1 := box_a hS
    have s2 := box_b hS
    unfold set2 at s1 s2 hg2
    rw [za, zb] at s1 s2 hg2
    exact bodyPost_ret (v := .tuple #[.agg #[.int .u64 0, .int .u64 0], .int .i64 1]) (by simp [results, Tryz.results18, go_sem, s1, s2]) rfl ⟨rfl, hg2.below⟩
/- ───── the fixed examples ───── -/
theorem one_ev (x y : F) : ev [x] y = x := by show 0 * y + x = x; rw [zero_mul, zero_add]
theorem val5 (u x : F) : valP [x] u 4 = [x, x, x, x] := by
  have h : valP [x] u 4 = [ev [x] (pw u 0), ev [x] (pw u 1), ev [x] (pw u 2), ev [x] (pw u 3)] := rfl
  rw [h, one_ev, one_ev, one_ev, one_ev]
theorem ex9a : encOf [fo 5] 4 = ([fo 5, fo 5, fo 5, fo 5], 0) := by
  have h := encOf_pow (l := [fo 5]) (k := 0) (m := 2) rfl (by decide) (by decide) (by decide)
  rw [show 0 + 2 = 2 from rfl] at h
  generalize root 2 = u at *
  rw [show (2 : Nat) ^ 2 = 4 from rfl, val5] at h
  exact h
theorem root2_2 : pw (root 2) 2 = -1 := by
  have h := root_pow 1 1 (by decide)
  rw [root_one] at h
  exact h
theorem ev01 (x y z : F) : ev [x, y] z = x + y * z := by
  show (0 * z + y) * z + x = x + y * z
  exact ring_of [x, y, z] ((0 * v2 + v1) * v2 + v0) (v0 + v1 * v2) rfl
theorem val01 (u : F) (hu : pw u 2 = -1) : valP [fo 0, fo 1] u 4 = [1, u, -1, -u] := by
  have e0 : (fo 0 : F) = 0 := rfl
  have e1 : (fo 1 : F) = 1 := rfl
  have p3 : pw u 3 = -u := by rw [show 3 = 2 + 1 from rfl, pw_succ, hu, neg_mul, one_mul]
  have e : ∀ i, ev [fo 0, fo 1] (pw u i) = pw u i := fun i => by rw [ev01, e0, e1, zero_add, one_mul]
  have h : valP [fo 0, fo 1] u 4 = [ev [fo 0, fo 1] (pw u 0), ev [fo 0, fo 1] (pw u 1), ev [fo 0, fo 1] (pw u 2), ev [fo 0, fo 1] (pw u 3)] := rfl
  rw [h, e, e, e, e, hu, p3, pw_zero, pw_one]
theorem ex9b : encOf [fo 0, fo 1] 2 = ([1, root 2, -1, -root 2], 0) := by
  have h := encOf_pow (l := [fo 0, fo 1]) (k := 1) (m := 1) rfl (by decide) (by decide) (by decide)
  have h2 := root2_2
  rw [show 1 + 1 = 2 from rfl] at h
  generalize root 2 = u at *
  rw [show (2 : Nat) ^ 2 = 4 from rfl, val01 u h2] at h
  exact h
theorem pow3 (k : Nat) : 3 ≠ 2 ^ k := by
  rcases k with _ | _ | k
  · decide
  · decide
  · rw [Nat.pow_succ, Nat.pow_succ]; omega
theorem ex9c (l : List F) (h : l.length = 3) (b : Int) : encOf l b = ([], 1) := encOf_bad (by
  rw [h]; rintro ⟨a, m, _, _, h1, _⟩; exact pow3 a h1)
theorem ex9d (l : List F) : encOf l 3 = ([], 1) := encOf_bad (by
  rintro ⟨a, m, _, _, _, h1, _⟩
  rw [cast_pow] at h1
  exact pow3 m (by omega))
theorem fo_ne {x y : Nat} (hx : x < 18446744069414584321) (hy : y < 18446744069414584321) (h : x ≠ y) : fo x ≠ fo y := fun e => by
  have := congrArg Zm.i e
  rw [i_fo hx, i_fo hy] at this
  omega
theorem near1 {y : Nat → F} {u : F} {row : List F} (h : Near 4 1 u y row) : ∃ x, row = [x] ∧ dis (fun _ => x) y 4 < 2 := by
  obtain ⟨h1, h2⟩ := h
  match row, h1 with
  | [x], _ =>
    refine ⟨x, rfl, ?_⟩
    have e : dis (cw [x] u) y 4 = dis (fun _ => x) y 4 := dis_congr (fun i _ => one_ev x _) (fun _ _ => rfl)
    omega
theorem ex9e {r : List F × Int × Int} (h : DecIs (2 ^ (0 + 2)) (2 ^ 0) (root (0 + 2)) (co [fo 5, fo 5, fo 7, fo 5]) r) : r = ([fo 5], 1, 0) := by
  have hx : Dif (pw (root (0 + 2))) (2 ^ (0 + 2)) := (root_prim 2 (by decide)).dif
  generalize root (0 + 2) = u at *
  have hd : dis (cw [fo 5] u) (co [fo 5, fo 5, fo 7, fo 5]) (2 ^ (0 + 2)) = 1 := by
    have e : dis (cw [fo 5] u) (co [fo 5, fo 5, fo 7, fo 5]) 4 = dis (fun _ => fo 5) (co [fo 5, fo 5, fo 7, fo 5]) 4 := dis_congr (fun i _ => one_ev _ _) (fun _ _ => rfl)
    refine Eq.trans e ?_
    have n1 : ¬ fo 5 = fo 7 := fo_ne (by decide) (by decide) (by decide)
    show 0 + (if fo 5 = fo 5 then 0 else 1) + (if fo 5 = fo 5 then 0 else 1) + (if fo 5 = fo 7 then 0 else 1) + (if fo 5 = fo 5 then 0 else 1) = 1
    rw [if_pos rfl, if_neg n1]
  have := h.near hx (by decide) (row := [fo 5]) rfl (by rw [hd]; decide)
  rw [hd] at this
  exact this
theorem ex9f {r : List F × Int × Int} (h : DecIs (2 ^ (0 + 2)) (2 ^ 0) (root (0 + 2)) (co [fo 5, fo 5, fo 7, fo 7]) r) : r = ([], 0, 4) := by
  have hx : Dif (pw (root (0 + 2))) (2 ^ (0 + 2)) := (root_prim 2 (by decide)).dif
  generalize root (0 + 2) = u at *
  refine h.unique hx (by decide) (DecIs.bad fun row hr => ?_)
  obtain ⟨x, _, h2⟩ := near1 hr
  have e : dis (fun _ => x) (co [fo 5, fo 5, fo 7, fo 7]) 4 = 0 + (if x = fo 5 then 0 else 1) + (if x = fo 5 then 0 else 1) + (if x = fo 7 then 0 else 1) + (if x = fo 7 then 0 else 1) := rfl
  rw [e] at h2
  have n1 : fo 5 ≠ fo 7 := fo_ne (by decide) (by decide) (by decide)
  by_cases h5 : x = fo 5
  · rw [if_pos h5, if_neg (fun e => n1 (h5.symm.trans e))] at h2; omega
  · by_cases h7 : x = fo 7
    · rw [if_neg h5, if_pos h7] at h2; omega
    · rw [if_neg h5, if_neg h7] at h2; omega
theorem ex9g (u : F) : isCode (2 ^ (0 + 2)) (2 ^ 0) u (co [fo 5, fo 5, fo 5, fo 5]) := ⟨[fo 5], rfl, fun i hi => by
  refine (one_ev _ _).trans ?_
  rcases (show i = 0 ∨ i = 1 ∨ i = 2 ∨ i = 3 by have : i < 4 := hi; omega) with rfl | rfl | rfl | rfl <;> rfl⟩
theorem ex9h (u : F) : ¬ isCode (2 ^ (0 + 2)) (2 ^ 0) u (co [fo 5, fo 5, fo 5, fo 6]) := by
  rintro ⟨row, h1, h2⟩
  match row, h1 with
  | [x], _ =>
    have a := h2 0 (by decide)
    have b := h2 3 (by decide)
    have a2 : x = fo 5 := (one_ev x _).symm.trans a
    have b2 : x = fo 6 := (one_ev x _).symm.trans b
    exact fo_ne (by decide) (by decide) (by decide) (a2.symm.trans b2)
theorem ex9i : ¬ vword 1 4 := by
  rintro ⟨a, m, m1, _, h, _, _⟩
  have : 2 ^ 1 ≤ 2 ^ (a + m) := Nat.pow_le_pow_right (by omega) (by omega)
  omega
theorem ex9j (x : Ext) : ev [0, x] (Ext.base (pw (root (1 + 1)) 2)) = -x := by
  have h2 := root2_2
  rw [show 1 + 1 = 2 from rfl]
  generalize root 2 = u at *
  rw [h2, Ext.base_neg, Ext.base_one]
  show (0 * (-1) + x) * (-1) + 0 = -x
  exact ring_of [x] ((0 * (-1) + v0) * (-1) + 0) (-v0) rfl
theorem ex9k (n : Nat) (h : n = 2) : ¬ (vrow n 2 ∧ (0 : Int) ≤ 4 ∧ (4 : Int) < 2 * (n : Int)) := by
  rintro ⟨_, _, h1⟩; omega
theorem ex9l : disL [fo 1, fo 2, fo 3] [fo 1, fo 4] = 2 := by
  have n1 : ¬ fo 2 = fo 4 := fo_ne (by decide) (by decide) (by decide)
  show (0 + (if fo 1 = fo 1 then 0 else 1) + (if fo 2 = fo 4 then 0 else 1)) + 1 = 2
  rw [if_pos rfl, if_neg n1]
end Go.Proofs.YtbfblckgcefaaaaGreatDoor
