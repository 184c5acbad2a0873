/- The walks of the helpers of the reference of reedsolomon and of its laws: Distance, Same, Made, log, Point, Corrupt, blowup, shift. -/
import Derived.Test.YtbfblckgcefaaaaGreatDoorRw7
import Derived.Test.YtbfblckgcefaaaaGreatDoorOpE
namespace Go.Proofs.YtbfblckgcefaaaaGreatDoor
open Go.RowKit Att Att.CRing
abbrev fo (x : Nat) : F := Zm.of x
theorem i_fo {x : Nat} (h : x < 18446744069414584321) : Zm.i (fo x) = (x : Int) := by
  have e := Zm.n_of (m := P) x
  show ((fo x).n : Int) = (x : Int)
  rw [e, Nat.mod_eq_of_lt (by rw [P_eq]; exact h)]
theorem litB {w : World} (l : List Nat) (h : (l.all fun x => decide (x < 18446744069414584321)) = true) : BF (w.alloc (.cells (l.map fun x : Nat => Value.int .u64 (x : Int)).toArray 39)) w.heap.size (l.map fo) := by
  have e : ff (l.map fo) = l.map fun x : Nat => Value.int .u64 (x : Int) := by
    unfold ff
    rw [List.map_map]
    refine List.map_congr_left fun x hx => ?_
    have := List.all_eq_true.1 h x hx
    simp only [decide_eq_true_eq] at this
    show Value.int .u64 (Zm.i (fo x)) = _
    rw [i_fo this]
  have h2 := hnew w (.cells (l.map fun x : Nat => Value.int .u64 (x : Int)).toArray 39)
  unfold BF
  rw [e]; exact h2
theorem litF {w : World} (l : List Nat) (h : (l.all fun x => decide (x < 18446744069414584321)) = true) (hl : l.length ≤ 9223372036854775807) : SF (w.alloc (.cells (l.map fun x : Nat => Value.int .u64 (x : Int)).toArray 39)) (some ⟨w.heap.size, 0, none⟩) l.length l.length (l.map fo) := by
  have := (litB (w := w) l h).sf (by rw [List.length_map]; exact hl)
  rwa [List.length_map] at this
theorem r_rootN (k : Nat) (hk : k ≤ 32) (w : World) : Calls Tryz.prog 25 #[.int .i64 k] w fun e w' => e = .returned (.tuple #[.int .u64 (Zm.i (root k)), .int .i64 0]) ∧ w = w' := by
  have h := r_root (k : Int) (by omega) (by omega) w
  rwa [Int.toNat_natCast] at h
theorem r_reduceF (x : F) (w : World) : Calls Tryz.prog 34 #[.int .u64 (Zm.i (x))] w fun e w' => e = .returned (.int .u64 (Zm.i (x))) ∧ w = w' := by
  have h := r_reduce (Zm.i x) w
  rwa [int_i] at h
theorem r_powF (x : F) (n : Nat) (hn : n < 18446744073709551616) (w : World) : Calls Tryz.prog 57 #[.int .u64 (Zm.i (x)), .int .u64 n] w fun e w' => e = .returned (.int .u64 (Zm.i (pw x n))) ∧ w = w' := by
  have h := r_pow (Zm.i x) (n : Int) (by omega) (by omega) w
  rwa [int_i, Int.toNat_natCast] at h
set_option maxHeartbeats 2000000 in
theorem y_distance (A B : Option Addr) (n c m d : Nat) (l k : List F) (w : World) (hl : SF w A n c l) (hk : SF w B m d k) (hn : n ≤ 1000000) (hm : m ≤ 1000000) :
    Calls Tryz.prog 24 #[.slice A n c, .slice B m d] w fun e w' => e = .returned (.int .i64 (disL l k)) ∧ ∃ g, w' = gr w g := by
  obtain ⟨N, hN⟩ : ∃ N, N = min n m := ⟨_, rfl⟩
  obtain ⟨D, hD⟩ : ∃ D, D = max n m - min n m := ⟨_, rfl⟩
  have he : disL l k = dis (co l) (co k) N + D := by unfold disL; rw [hl.len, hk.len, ← hD, ← hN]
  rw [he]
  clear he
  have hNn : N ≤ n := by omega
  have hNm : N ≤ m := by omega
  have hDb : D ≤ 1000000 := by omega
  have hdl : ∀ i, dis (co l) (co k) i ≤ i := dis_le _ _
  have hq : (n < m ∧ N = n ∧ D + n ≤ m ∧ m ≤ D + n) ∨ (n = m ∧ N = n ∧ D ≤ 0 ∧ 0 ≤ D) ∨ (m < n ∧ N = m ∧ D + m ≤ n ∧ n ≤ D + m) := by omega
  clear hN hD hNn hNm
  rcases hq with ⟨h, rfl, hD1, hD2⟩ | ⟨rfl, rfl, hD1, hD2⟩ | ⟨h, rfl, hD1, hD2⟩
  all_goals
    go_enter Tryz.func24, Tryz.ntmps24
    go_wp2_with fail
    go_loopw [5, 6] (fun v u wr => ∃ i : Nat, i ≤ N ∧ u = .int .i64 i ∧ v = .int .i64 ((dis (co l) (co k) i + D : Nat)) ∧ Gn w wr) (fun _ u _ => N - (intOf u).toNat)
    case atStart => exact ⟨0, by omega, rfl, congrArg (Value.int .i64) (by simp only [dis]; omega), Gn.refl _⟩
    case round =>
      obtain ⟨i, hi, rfl, rfl, hg⟩ := hrel
      have hdi := hdl i
      by_cases h1 : i < N
      · have hl2 := hl.up hg; have hk2 := hk.up hg
        have h3 : i < N := h1
        obtain ⟨b1, o1, x, E1, hx, p1, q1⟩ := hl2.at_ (show i < _ by omega)
        obtain ⟨b2, o2, y, E2, hy, p2, q2⟩ := hk2.at_ (show i < _ by omega)
        subst E1 E2
        by_cases hxy : x = y
        · subst hxy
          have hst := Lib.hid (dis_eq (f := co l) (g := co k) ((coF_get hx).trans (coF_get hy).symm))
          generalize dis (co l) (co k) i = q at *
          clear hx hy hl2 hk2 hl hk
          go_wp2_with fail
          try simp only [List.append_eq, List.cons_append, List.nil_append]
          refine wp_region_gr (by kernel_rfl) (lex_of_chk (by kernel_rfl) (by kernel_rfl)) ?_
          repeat (go_big_quiet_step (fail))
          refine wpQuiet_nil ?_
          intro wq gd
          replace hg := hg.trans gd
          clear gd
          go_wp2_with fail
          exact ⟨⟨i + 1, by omega, by go_num, congrArg (Value.int .i64) (by have := hst.out; omega), hg⟩, by simp [intOf]; omega⟩
        · have hst := Lib.hid (dis_ne (f := co l) (g := co k) (i := i) (by rw [coF_get hx, coF_get hy]; exact hxy))
          have hne : ¬ (Zm.i x = Zm.i y) := fun e => hxy (i_inj e)
          have b1' : (Zm.i x == Zm.i y) = false := by simp [hne]
          have b2' : (Zm.i x != Zm.i y) = true := by simp [hne]
          generalize dis (co l) (co k) i = q at *
          clear hx hy hl2 hk2 hl hk hxy
          go_wp2_with fail
          try simp only [List.append_eq, List.cons_append, List.nil_append]
          refine wp_region_gr (by kernel_rfl) (lex_of_chk (by kernel_rfl) (by kernel_rfl)) ?_
          repeat (go_big_quiet_step (fail))
          refine wpQuiet_nil ?_
          intro wq gd
          replace hg := hg.trans gd
          clear gd
          go_wp2_with fail
          exact ⟨⟨i + 1, by omega, by go_num, congrArg (Value.int .i64) (by have := hst.out; omega), hg⟩, by simp [intOf]; omega⟩
      · obtain rfl : i = N := by omega
        go_wp2_with fail
        go_ret
        exact ⟨rfl, hg⟩
theorem disL_zero {l k : List F} (h : l.length = k.length) : disL l k = 0 ↔ l = k := by
  unfold disL
  rw [h, Nat.min_self, Nat.max_self, Nat.sub_self, Nat.add_zero, dis_zero]
  constructor
  · intro e
    exact list_ext_co h fun i hi => e i (by omega)
  · rintro rfl i _; rfl
theorem disL_comm {l k : List F} : disL l k = disL k l := by
  unfold disL
  rw [Nat.min_comm, Nat.max_comm, dis_comm]
open Classical in
theorem y_same (A B : Option Addr) (n c m d : Nat) (l k : List F) (w : World) (hl : SF w A n c l) (hk : SF w B m d k) (hn : n ≤ 1000000) (hm : m ≤ 1000000) :
    Calls Tryz.prog 13 #[.slice A n c, .slice B m d] w fun e w' => e = .returned (.bool (decide (l = k))) ∧ ∃ g, w' = gr w g := by
  by_cases h : n = m
  · subst h
    have hD := y_distance A B n c n d l k w hl hk hn hm
    have hz := disL_zero (l := l) (k := k) (by rw [hl.len, hk.len])
    have e : decide (l = k) = decide (((disL l k : Nat) : Int) = 0) := by
      congr 1
      exact propext (by rw [← hz]; omega)
    rw [e]
    have e2 : (((disL l k : Nat) : Int) == 0) = decide (((disL l k : Nat) : Int) = 0) := by rw [Bool.eq_iff_iff]; simp
    clear e hz
    generalize disL l k = D at *
    rw [← e2]
    clear e2
    go_enter Tryz.func13, Tryz.ntmps13
    go_wp2_with fail
    refine hD.mono ?_
    rintro e w1 ⟨rfl, g1⟩
    go_wp2_with fail
    go_ret
    exact ⟨rfl, g1⟩
  · rw [decide_eq_false (fun e => h (by rw [← hl.len, ← hk.len, e]))]
    have b1 : ((n : Int) == (m : Int)) = false := by rw [beq_eq_false_iff_ne]; omega
    clear h
    go_enter Tryz.func13, Tryz.ntmps13
    go_wp2_with fail
    go_ret
    exact ⟨rfl, Gn.refl _⟩
theorem y_same_true {A B : Option Addr} {n c m d : Nat} {l k : List F} {w : World} (hl : SF w A n c l) (hk : SF w B m d k) (hn : n ≤ 1000000) (hm : m ≤ 1000000) (e : l = k) :
    Calls Tryz.prog 13 #[.slice A n c, .slice B m d] w fun e w' => e = .returned (.bool true) ∧ Gn w w' := by
  classical
  subst e
  refine (y_same A B n c m d l l w hl hk hn hm).mono ?_
  rintro e w' ⟨rfl, g⟩
  exact ⟨by rw [decide_eq_true rfl], g⟩
set_option maxHeartbeats 1000000 in
theorem y_made (A : Option Addr) (n c : Nat) (l : List Int) (s : Nat) (w : World) (hl : SW w A n c l) (hs : s ≤ 10) :
    Calls Tryz.prog 8 #[.slice A n c, .int .i64 s] w (fun e w' => ∃ v, e = .returned v ∧ OF w' w.heap.size v (padF (redL l) (2 ^ s)) ∧ Gn w w') := by
  have n1 := hl.le; have n2 := hl.small
  have l1 := Lib.hid hl.len
  have hw := wrap_pow (k := s) (by omega)
  have hp : 2 ^ s ≤ 1024 := Nat.le_trans (Nat.pow_le_pow_right (n := 2) (by omega) (show s ≤ 10 by omega)) (by decide)
  have hp0 : 0 < 2 ^ s := Nat.pow_pos (by omega)
  have hN2 := cast_pow s
  rw [hN2] at hw
  generalize 2 ^ s = N at *
  go_enter Tryz.func8, Tryz.ntmps8
  go_wp2_with fail
  go_loopw [5, 6] (fun v i wr => ∃ k : Nat, k ≤ N ∧ i = .int .i64 k ∧ OF wr w.heap.size v (tab k (co (redL l))) ∧ Gn w wr) (fun _ i _ => N - (intOf i).toNat)
  case atStart => exact ⟨0, by omega, rfl, OF.empty w (Nat.le_refl _), Gn.al _⟩
  case round =>
    obtain ⟨k, hk, rfl, ho, hg⟩ := hrel
    have lk : (tab k (co (redL l))).length = k := tab_length _ _
    by_cases h1 : k < N
    · have hst := tab_succ k (co (redL l))
      by_cases h2 : k < n
      · obtain ⟨b, o, z, rfl, hz, q1, q2, hz64⟩ := (hl.up hg).at_ h2
        have hco : co (redL l) k = int z := by
          unfold redL co
          simp [hz]
        rw [hco] at hst
        clear hz hco
        replace hst := Lib.hid hst
        generalize tab k (co (redL l)) = L at *
        have HR := r_reduce z
        generalize (int z : F) = x at *
        go_wp2_with fail
        refine (HR _).mono ?_
        rintro e w2 ⟨rfl, rfl⟩
        go_wp2_with (at_builtin; refine wpList_appF (.tmp 24) (.tmp 26) rfl (ho.up (Gn.al _)) (by have := hg.size; simp; omega) rfl ((BF.one x).sf (by simp)) (by simp; omega) ?_; intro v4 w4 ho4 hg4; have hg5 := grown_gnF (hg.trans (Gn.al _)) (ho.up (Gn.al _)) (Nat.le_refl _) hg4; clear hg4)
        exact ⟨⟨k + 1, by omega, by go_num, by rw [hst.out]; exact ho4, hg5⟩, by simp [intOf]; omega⟩
      · have hco : co (redL l) k = 0 := co_big _ _ (by rw [redL_length, l1.out]; omega)
        rw [hco] at hst
        replace hst := Lib.hid hst
        generalize tab k (co (redL l)) = L at *
        have hB : ∀ W : World, SF (W.alloc (.cells #[.int .u64 0] 39)) (some ⟨W.heap.size, 0, none⟩) 1 1 [0] := fun W => by
          have h := (BF.one (w := W) 0).sf (by simp)
          rwa [i_zero] at h
        clear hco
        go_wp2_with (at_builtin; refine wpList_appF (.tmp 24) (.tmp 26) rfl (ho.up (Gn.al _)) (by have := hg.size; simp; omega) rfl (hB _) (by simp; omega) ?_; intro v4 w4 ho4 hg4; have hg5 := grown_gnF (hg.trans (Gn.al _)) (ho.up (Gn.al _)) (Nat.le_refl _) hg4; clear hg4)
        exact ⟨⟨k + 1, by omega, by go_num, by rw [hst.out]; exact ho4, hg5⟩, by simp [intOf]; omega⟩
    · obtain rfl : k = N := by omega
      go_wp2_with fail
      go_ret
      exact ⟨_, rfl, ho, hg⟩
theorem y_log (s : Nat) (hs : s ≤ 16) (w : World) :
    Calls Tryz.prog 58 #[.int .i64 (2 ^ s : Nat)] w fun e w' => e = .returned (.int .i64 s) ∧ ∃ g, w' = gr w g := by
  have hp := pow_lt hs
  obtain ⟨N, hN⟩ : ∃ N, N = 2 ^ s := ⟨_, rfl⟩
  rw [← hN] at hp ⊢
  replace hN := Lib.hid hN
  go_enter Tryz.func58, Tryz.ntmps58
  go_wp2_with fail
  go_loopw [3] (fun v wr => ∃ j : Nat, j ≤ s ∧ v = .int .i64 j ∧ Gn w wr) (fun v _ => s - (intOf v).toNat)
  case atStart => exact ⟨0, by omega, rfl, Gn.refl w⟩
  case round =>
    obtain ⟨j, hj, rfl, hg⟩ := hrel
    have hw := wrap_pow (k := j) (by omega)
    have hc := cast_pow j
    rw [hc] at hw
    by_cases h1 : j < s
    · have h2 : 2 ^ j < N := by rw [hN.out]; exact Nat.pow_lt_pow_right (by omega) h1
      generalize 2 ^ j = J at *
      go_wp2_with fail
      exact ⟨⟨j + 1, by omega, by go_num, hg⟩, by simp [intOf]; omega⟩
    · obtain rfl : j = s := by omega
      have h2 : 2 ^ j = N := by rw [hN.out]
      generalize 2 ^ j = J at *
      subst h2
      go_wp2_with fail
      go_ret
      exact ⟨rfl, hg⟩
theorem y_point (s i : Nat) (hs : s ≤ 16) (hi : i ≤ 1000000) (w : World) :
    Calls Tryz.prog 31 #[.int .i64 (2 ^ s : Nat), .int .i64 i] w fun e w' => e = .returned (.int .u64 (Zm.i (pw (root s) i))) ∧ ∃ g, w' = gr w g := by
  have hL := y_log s hs
  have hR := r_rootN s (by omega)
  have hP := r_powF (root s) i (by omega)
  generalize pw (root s) i = z at *
  generalize root s = u at *
  generalize 2 ^ s = N at *
  go_enter Tryz.func31, Tryz.ntmps31
  go_wp2_with fail
  refine (hL _).mono ?_
  rintro e w1 ⟨rfl, g1⟩
  go_wp2_with fail
  refine (hR _).mono ?_
  rintro e w2 ⟨rfl, rfl⟩
  go_wp2_with fail
  refine (hP _).mono ?_
  rintro e w3 ⟨rfl, rfl⟩
  go_wp2_with fail
  go_ret
  exact ⟨rfl, g1⟩
theorem y_blowup (k : Int) (h0 : 0 ≤ k) (_h1 : k ≤ 255) :
    ∃ m : Nat, 1 ≤ m ∧ m ≤ 3 ∧ (m : Int) = k % 3 + 1 ∧ ∀ w, Calls Tryz.prog 6 #[.int .u8 k] w fun e w' => e = .returned (.int .i64 (2 ^ m : Nat)) ∧ w = w' := by
  have e1 : Int.tmod k 3 = k % 3 := Int.tmod_eq_emod_of_nonneg h0
  obtain ⟨j, hj⟩ : ∃ j : Nat, (j : Int) = k % 3 := ⟨(k % 3).toNat, by omega⟩
  refine ⟨j + 1, by omega, by omega, by omega, fun w => ?_⟩
  rw [← hj] at e1
  have hj2 : j ≤ 2 := by omega
  have hjw : IntKind.u8.wrap (j : Int) = (j : Int) := IntWalk.u8_in _ (by omega)
  have hm := Lib.hid hj
  clear hj
  rcases (show j = 0 ∨ j = 1 ∨ j = 2 by omega) with rfl | rfl | rfl
  all_goals
    go_enter Tryz.func6, Tryz.ntmps6
    go_wp2_with fail
    go_ret
    exact ⟨rfl, rfl⟩
theorem y_shift (s : Nat) (h1 : 1 ≤ s) (hs : s ≤ 16) (w : World) :
    Calls Tryz.prog 10 #[.int .i64 (2 ^ s : Nat)] w fun e w' => e = .returned (.int .i64 s) ∧ ∃ g, w' = gr w g := by
  have hp := pow_lt hs
  obtain ⟨N, hN⟩ : ∃ N, N = 2 ^ s := ⟨_, rfl⟩
  rw [← hN] at hp ⊢
  replace hN := Lib.hid hN
  go_enter Tryz.func10, Tryz.ntmps10
  go_wp2_with fail
  go_loopw [3] (fun v wr => ∃ j : Nat, 1 ≤ j ∧ j ≤ s ∧ v = .int .i64 j ∧ Gn w wr) (fun v _ => s - (intOf v).toNat)
  case atStart => exact ⟨1, by omega, by omega, rfl, Gn.refl w⟩
  case round =>
    obtain ⟨j, hj1, hj, rfl, hg⟩ := hrel
    have hw := wrap_pow (k := j) (by omega)
    have hc := cast_pow j
    rw [hc] at hw
    by_cases h1 : j < s
    · have h2 : 2 ^ j < N := by rw [hN.out]; exact Nat.pow_lt_pow_right (by omega) h1
      generalize 2 ^ j = J at *
      go_wp2_with fail
      exact ⟨⟨j + 1, by omega, by omega, by go_num, hg⟩, by simp [intOf]; omega⟩
    · obtain rfl : j = s := by omega
      have h2 : 2 ^ j = N := by rw [hN.out]
      generalize 2 ^ j = J at *
      subst h2
      go_wp2_with fail
      go_ret
      exact ⟨rfl, hg⟩
end Go.Proofs.YtbfblckgcefaaaaGreatDoor
