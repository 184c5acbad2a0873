/- The walks of package ntt: bits and powers of two. -/
import Derived.Test.YtjgdbfhpjjmjkaaDoorSu
import Derived.Test.YtjgdbfhpjjmjkaaDoorRv
namespace Go.Proofs.YtjgdbfhpjjmjkaaDoor
open Go.RowKit Att Att.CRing
theorem sw_lt (e m x : Nat) (hm : m < 18446744073709551616) : sw (2 ^ e) m x < 18446744073709551616 :=
  Nat.or_lt_two_pow (n := 64) (Nat.and_lt_two_pow _ (by omega)) (Nat.mod_lt _ (by omega))
theorem swI (e m x : Nat) (hm : m < 18446744073709551616) (hx : x < 18446744073709551616) :
    bits .or .u64 (bits .and .u64 ((x : Int) / ((2 ^ e : Nat) : Int)) (m : Int)) (IntKind.u64.wrap (bits .and .u64 (x : Int) (m : Int) * ((2 ^ e : Nat) : Int))) = ((sw (2 ^ e) m x : Nat) : Int) := by
  have hd : x / 2 ^ e < 18446744073709551616 := Nat.lt_of_le_of_lt (Nat.div_le_self _ _) hx
  have ha : x / 2 ^ e &&& m < 18446744073709551616 := Nat.and_lt_two_pow (n := 64) _ (by omega)
  rw [← Int.natCast_ediv, bits_and_u64_nat _ _ hd hm, bits_and_u64_nat _ _ hx hm, ← Int.natCast_mul, wrapM, bits_or_u64_nat _ _ ha (Nat.mod_lt _ (by omega))]
  rfl
theorem sw32I (x : Nat) (hx : x < 18446744073709551616) :
    bits .or .u64 ((x : Int) / 4294967296) (IntKind.u64.wrap ((x : Int) * 4294967296)) = ((sw32 x : Nat) : Int) := by
  have hd : x / 4294967296 < 18446744073709551616 := Nat.lt_of_le_of_lt (Nat.div_le_self _ _) hx
  rw [show (4294967296 : Int) = ((4294967296 : Nat) : Int) from rfl, ← Int.natCast_ediv, ← Int.natCast_mul, wrapM, bits_or_u64_nat _ _ hd (Nat.mod_lt _ (by omega))]
  rfl
theorem n_revBytes (x : Nat) (hx : x < 18446744073709551616) (w : World) :
    Calls Tryd.prog 58 #[.int .u64 x] w fun e w' => e = .returned (.int .u64 ((sw32 (sw 65536 281470681808895 (sw 256 71777214294589695 x)) : Nat) : Int)) ∧ ∃ g, w' = gr w g := by
  have h8 : bits .or .u64 (bits .and .u64 ((x : Int) / 256) 71777214294589695) (IntKind.u64.wrap (bits .and .u64 (x : Int) 71777214294589695 * 256)) = _ := swI 8 71777214294589695 x (by omega) hx
  have l8 := sw_lt 8 71777214294589695 x (by omega)
  have h16 : bits .or .u64 (bits .and .u64 (((sw (2 ^ 8) 71777214294589695 x : Nat) : Int) / 65536) 281470681808895) (IntKind.u64.wrap (bits .and .u64 ((sw (2 ^ 8) 71777214294589695 x : Nat) : Int) 281470681808895 * 65536)) = _ := swI 16 281470681808895 _ (by omega) l8
  have l16 := sw_lt 16 281470681808895 (sw (2 ^ 8) 71777214294589695 x) (by omega)
  have h32 := sw32I _ l16
  have H8 := Lib.hid h8; have H16 := Lib.hid h16; have H32 := Lib.hid h32
  clear h8 h16 h32 l8 l16
  go_enter Tryd.func58, Tryd.ntmps58
  go_wp2_with fail
  go_ret
  refine ⟨?_, Gn.refl w⟩
  rw [H8.out, H16.out, H32.out]
  exact rfl
theorem n_rev64 (x : Nat) (hx : x < 18446744073709551616) (w : World) :
    Calls Tryd.prog 52 #[.int .u64 x] w fun e w' => e = .returned (.int .u64 ((revN x : Nat) : Int)) ∧ ∃ g, w' = gr w g := by
  have h1 : bits .or .u64 (bits .and .u64 ((x : Int) / 2) 6148914691236517205) (IntKind.u64.wrap (bits .and .u64 (x : Int) 6148914691236517205 * 2)) = _ := swI 1 6148914691236517205 x (by omega) hx
  have l1 := sw_lt 1 6148914691236517205 x (by omega)
  have h2 : bits .or .u64 (bits .and .u64 (((sw (2 ^ 1) 6148914691236517205 x : Nat) : Int) / 4) 3689348814741910323) (IntKind.u64.wrap (bits .and .u64 ((sw (2 ^ 1) 6148914691236517205 x : Nat) : Int) 3689348814741910323 * 4)) = _ := swI 2 3689348814741910323 _ (by omega) l1
  have l2 := sw_lt 2 3689348814741910323 (sw (2 ^ 1) 6148914691236517205 x) (by omega)
  have h4 : bits .or .u64 (bits .and .u64 (((sw (2 ^ 2) 3689348814741910323 (sw (2 ^ 1) 6148914691236517205 x) : Nat) : Int) / 16) 1085102592571150095) (IntKind.u64.wrap (bits .and .u64 ((sw (2 ^ 2) 3689348814741910323 (sw (2 ^ 1) 6148914691236517205 x) : Nat) : Int) 1085102592571150095 * 16)) = _ := swI 4 1085102592571150095 _ (by omega) l2
  have l4 := Lib.hid (sw_lt 4 1085102592571150095 (sw (2 ^ 2) 3689348814741910323 (sw (2 ^ 1) 6148914691236517205 x)) (by omega))
  have H1 := Lib.hid h1; have H2 := Lib.hid h2; have H4 := Lib.hid h4
  clear h1 h2 h4 l1 l2
  go_enter Tryd.func52, Tryd.ntmps52
  go_wp2_with fail
  rw [H1.out, H2.out, H4.out]
  refine (n_revBytes _ l4.out _).mono ?_
  rintro e w' ⟨rfl, hg⟩
  go_wp2_with fail
  go_ret
  exact ⟨rfl, hg⟩

/- ───── trailing zeros, by the table ───── -/
def dbTab : List Int := [0, 1, 56, 2, 57, 49, 28, 3, 61, 58, 42, 50, 38, 29, 17, 4, 62, 47, 59, 36, 45, 43, 51, 22, 53, 39, 33, 30, 24, 18, 12, 5, 63, 55, 48, 27, 60, 41, 37, 16, 46, 35, 44, 21, 52, 32, 23, 11, 54, 26, 40, 15, 34, 20, 31, 10, 25, 14, 19, 9, 13, 8, 7, 6]
/-- the table lies where the program's text lays it -/
structure Tab (w : World) : Prop where
  lt : 1 < w.heap.size
  cells : ∀ (i : Nat) (z : Int), dbTab[i]? = some z → w.cell? ⟨1, i, none⟩ = some (.int .u8 z)
theorem Tab.up {a b : World} (h : Tab a) (g : Gn a b) : Tab b := ⟨Nat.lt_of_lt_of_le h.lt g.size, fun i z hz => (g.below.cell (p := ⟨_, i, none⟩) h.lt).trans (h.cells i z hz)⟩
def dbIdx (k : Nat) : Nat := (IntKind.u64.wrap (bits .and .u64 ((2 : Int) ^ k) (IntKind.u64.wrap (-(2 : Int) ^ k)) * 285870213051353865) / 288230376151711744).toNat
theorem db_chk : chk (fun k => dbTab[dbIdx k]? == some (k : Int)) 4 0 = true := by kernel_rfl
theorem db_16 : dbTab[dbIdx 16]? = some 16 := by kernel_rfl
theorem db_at {k : Nat} (hk : k ≤ 16) : dbTab[dbIdx k]? = some (k : Int) := by
  by_cases h : k = 16
  · subst h; exact db_16
  · have := chk_spec _ 4 0 db_chk k (Nat.zero_le _) (by show k < 0 + 16; omega)
    simpa using this
theorem Tab.cell {w : World} (h : Tab w) {k : Nat} (hk : k ≤ 16) : w.cell? ⟨1, dbIdx k, none⟩ = some (.int .u8 (k : Int)) := h.cells _ _ (db_at hk)
theorem n_tz64 (k : Nat) (hk : k ≤ 16) (w : World) (hT : Tab w) :
    Calls Tryd.prog 61 #[.int .u64 ((2 : Int) ^ k)] w fun e w' => e = .returned (.int .i64 k) ∧ ∃ g, w' = gr w g := by
  have hc := hT.cell hk
  have hc2 : w.cell? ⟨1, (IntKind.u64.wrap (bits .and .u64 ((2 : Int) ^ k) (IntKind.u64.wrap (-(2 : Int) ^ k)) * 285870213051353865) / 288230376151711744).toNat, none⟩ = some (.int .u8 (k : Int)) := hc
  have hb0 : 0 ≤ IntKind.u64.wrap (bits .and .u64 ((2 : Int) ^ k) (IntKind.u64.wrap (-(2 : Int) ^ k)) * 285870213051353865) / 288230376151711744 := by
    rw [IntKind.wrap_u64 (bits .and .u64 ((2 : Int) ^ k) (IntKind.u64.wrap (-(2 : Int) ^ k)) * 285870213051353865)]; omega
  have hb1 : IntKind.u64.wrap (bits .and .u64 ((2 : Int) ^ k) (IntKind.u64.wrap (-(2 : Int) ^ k)) * 285870213051353865) / 288230376151711744 < 64 := by
    rw [IntKind.wrap_u64 (bits .and .u64 ((2 : Int) ^ k) (IntKind.u64.wrap (-(2 : Int) ^ k)) * 285870213051353865)]; omega
  have hlt : 1 < w.heap.size := hT.lt
  have hne : ((2 : Int) ^ k == 0) = false := by
    rw [beq_eq_false_iff_ne]
    exact Int.ne_of_gt (Int.pow_pos (by omega))
  clear hc hT
  go_enter Tryd.func61, Tryd.ntmps61
  go_wp2_with fail
  go_ret
  exact ⟨rfl, Gn.refl w⟩
theorem n_tz (k : Nat) (hk : k ≤ 16) (w : World) (hT : Tab w) :
    Calls Tryd.prog 57 #[.int .u64 ((2 : Int) ^ k)] w fun e w' => e = .returned (.int .i64 k) ∧ ∃ g, w' = gr w g := by
  go_enter Tryd.func57, Tryd.ntmps57
  go_wp2_with fail
  refine (n_tz64 k hk _ hT).mono ?_
  rintro e w' ⟨rfl, hg⟩
  go_wp2_with fail
  go_ret
  exact ⟨rfl, hg⟩
theorem pow_lt {k : Nat} (hk : k ≤ 16) : 2 ^ k ≤ 65536 := Nat.pow_le_pow_right (n := 2) (by omega) hk
theorem n_log2 (k : Nat) (hk : k ≤ 16) (w : World) (hT : Tab w) :
    Calls Tryd.prog 51 #[.int .i64 ((2 ^ k : Nat) : Int)] w fun e w' => e = .returned (.int .i64 k) ∧ ∃ g, w' = gr w g := by
  have hw : IntKind.u64.wrap ((2 : Int) ^ k) = (2 : Int) ^ k := by
    have h1 := pow_lt hk
    rw [show (2 : Int) ^ k = ((2 ^ k : Nat) : Int) from by rw [Int.natCast_pow]; rfl, wrapN _ (by omega)]
  replace hw := Lib.hid hw
  go_enter Tryd.func51, Tryd.ntmps51
  go_wp2_with fail
  rw [hw.out]
  refine (n_tz k hk _ hT).mono ?_
  rintro e w' ⟨rfl, hg⟩
  go_wp2_with fail
  go_ret
  exact ⟨rfl, hg⟩
theorem n_clone (A : Option Addr) (n c : Nat) (l : List F) (w : World) (hl : SF w A n c l) (hn : n ≤ 1000000000) :
    Calls Tryd.prog 33 #[.slice A n c] w (fun e w' => ∃ v, e = .returned v ∧ OF w' w.heap.size v l ∧ Gn w w') := by
  have he := fun (w : World) => Lib.run_eql_slice_nil (P := Tryd.prog) w 22 34 A n c 0 0 Tryd.underlying22
  cases A with
  | none =>
    have hl0 : l = [] := by
      rcases Nat.eq_zero_or_pos n with h | h
      · exact List.eq_nil_of_length_eq_zero (hl.len.trans h)
      · obtain ⟨b, o, e, _⟩ := hl.cells h; cases e
    subst hl0
    go_enter Tryd.func33, Tryd.ntmps33
    go_wp2_with fail
    go_ret
    exact ⟨_, rfl, OF.nil w _, Gn.refl w⟩
  | some ad =>
    go_enter Tryd.func33, Tryd.ntmps33
    go_wp2_with (at_builtin; refine wpList_appF (.tmp 5) (.tmp 6) rfl (OF.empty w (Nat.le_refl _)) (by simp) rfl (hl.up (Gn.al _)) (by simp; omega) ?_; intro v1 w1 ho hg)
    go_ret
    exact ⟨_, rfl, ho, grown_gnF (Gn.al _) (OF.empty w (Nat.le_refl _)) (Nat.le_refl _) hg⟩
/- ───── powers of two ───── -/
theorem bits_and_i64_nat (a b : Nat) (ha : a < 4611686018427387904) (hb : b < 4611686018427387904) : bits .and .i64 (a : Int) (b : Int) = ((a &&& b : Nat) : Int) := by
  have hx : a &&& b < 2 ^ 62 := Nat.and_lt_two_pow _ (by omega)
  have h1 : (BitVec.ofInt 64 (a : Int)).toNat = a := by
    rw [BitVec.ofInt_natCast, BitVec.toNat_ofNat]; exact Nat.mod_eq_of_lt (by omega)
  have h2 : (BitVec.ofInt 64 (b : Int)).toNat = b := by
    rw [BitVec.ofInt_natCast, BitVec.toNat_ofNat]; exact Nat.mod_eq_of_lt (by omega)
  show IntKind.i64.wrap ((BitVec.ofInt 64 (a : Int) &&& BitVec.ofInt 64 (b : Int)).toNat : Int) = _
  rw [BitVec.toNat_and, h1, h2]
  exact IntWalk.i64_in _ (by omega)
theorem and_pred (n : Nat) (h0 : 0 < n) : n &&& (n - 1) = 0 ↔ ∃ k, n = 2 ^ k := by
  induction n using Nat.strongRecOn with
  | _ n ih =>
    have hd : (n &&& (n - 1)) / 2 = n / 2 &&& (n - 1) / 2 := Nat.and_div_two
    have hm : (n &&& (n - 1)) % 2 = 0 := by
      rw [show 2 = 2 ^ 1 from rfl, Nat.and_mod_two_pow]
      rcases Nat.mod_two_eq_zero_or_one n with h | h
      · rw [show n % 2 ^ 1 = 0 from h, Nat.zero_and]
      · rw [show (n - 1) % 2 ^ 1 = 0 from by show (n - 1) % 2 = 0; omega, Nat.and_zero]
    rcases Nat.mod_two_eq_zero_or_one n with h | h
    · have ih' := ih (n / 2) (by omega) (by omega)
      rw [show (n - 1) / 2 = n / 2 - 1 from by omega] at hd
      constructor
      · intro e
        rw [e] at hd
        obtain ⟨k, hk⟩ := ih'.1 (by omega)
        exact ⟨k + 1, by rw [Nat.pow_succ]; omega⟩
      · rintro ⟨k, hk⟩
        cases k with
        | zero => omega
        | succ k =>
          have := ih'.2 ⟨k, by rw [Nat.pow_succ] at hk; omega⟩
          omega
    · rw [show (n - 1) / 2 = n / 2 from by omega, Nat.and_self] at hd
      constructor
      · intro e
        rw [e] at hd
        exact ⟨0, by omega⟩
      · rintro ⟨k, hk⟩
        cases k with
        | zero => have : n = 1 := hk; subst this; rfl
        | succ k => rw [Nat.pow_succ] at hk; omega
open Classical in
theorem n_pow2 (n : Nat) (h0 : 0 < n) (hn : n < 4611686018427387904) (w : World) :
    Calls Tryd.prog 39 #[.int .i64 n] w fun e w' => e = .returned (.bool (decide (∃ k, n = 2 ^ k))) ∧ ∃ g, w' = gr w g := by
  have e : (bits .and .i64 (n : Int) ((n : Int) - 1) == 0) = decide (∃ k, n = 2 ^ k) := by
    rw [show (n : Int) - 1 = ((n - 1 : Nat) : Int) from by omega, bits_and_i64_nat n (n - 1) hn (by omega)]
    rw [Bool.eq_iff_iff, beq_iff_eq, decide_eq_true_eq, ← and_pred n h0]
    omega
  replace e := Lib.hid e
  go_enter Tryd.func39, Tryd.ntmps39
  go_wp2_with fail
  go_ret
  exact ⟨by rw [← e.out]; rfl, Gn.refl w⟩
theorem n_pow2n (n : Int) (h0 : n ≤ 0) (w : World) :
    Calls Tryd.prog 39 #[.int .i64 n] w fun e w' => e = .returned (.bool false) ∧ ∃ g, w' = gr w g := by
  have hb : ¬ 0 < n := by omega
  go_enter Tryd.func39, Tryd.ntmps39
  go_wp2_with fail
  go_ret
  exact ⟨rfl, Gn.refl w⟩
theorem isPow_lt {n : Nat} (h0 : 0 < n) (hn : n ≤ 65536) (h : ∃ k, n = 2 ^ k) : ∃ k, k ≤ 16 ∧ n = 2 ^ k := by
  obtain ⟨k, rfl⟩ := h
  refine ⟨k, ?_, rfl⟩
  rcases Nat.lt_or_ge 16 k with h' | h'
  · have : 2 ^ 17 ≤ 2 ^ k := Nat.pow_le_pow_right (n := 2) (by omega) h'
    omega
  · exact h'
/-- a length that can be transformed -/
def vlen (n : Nat) : Prop := ∃ k, k ≤ 16 ∧ n = 2 ^ k
open Classical in
theorem n_validLen (n : Nat) (hn : n < 4611686018427387904) (w : World) :
    Calls Tryd.prog 32 #[.int .i64 n] w fun e w' => e = .returned (.bool (decide (vlen n))) ∧ ∃ g, w' = gr w g := by
  rcases Nat.eq_zero_or_pos n with h0 | h0
  · subst h0
    have hv : decide (vlen 0) = false := decide_eq_false (by rintro ⟨k, _, h⟩; have := Nat.two_pow_pos k; omega)
    rw [hv]
    go_enter Tryd.func32, Tryd.ntmps32
    go_wp2_with fail
    refine (n_pow2n 0 (by omega) _).mono ?_
    rintro e w' ⟨rfl, hg⟩
    go_wp2_with fail
    go_ret
    exact ⟨rfl, hg⟩
  · by_cases hp : ∃ k, n = 2 ^ k
    · have hc := n_pow2 n h0 hn
      rw [decide_eq_true hp] at hc
      have hv : decide (vlen n) = decide (n ≤ 65536) := by
        rw [Bool.eq_iff_iff, decide_eq_true_eq, decide_eq_true_eq]
        constructor
        · rintro ⟨k, h1, rfl⟩; exact pow_lt h1
        · intro h; exact isPow_lt h0 h hp
      rw [hv]
      replace hp := Lib.hid hp
      by_cases h1 : n ≤ 65536
      · have hd : decide (n ≤ 65536) = true := decide_eq_true h1
        rw [hd]
        clear hd hv
        go_enter Tryd.func32, Tryd.ntmps32
        go_wp2_with fail
        refine (hc _).mono ?_
        rintro e w' ⟨rfl, hg⟩
        go_wp2_with fail
        go_ret
        exact ⟨by first | rfl | (simp; omega), hg⟩
      · have hd : decide (n ≤ 65536) = false := decide_eq_false h1
        rw [hd]
        clear hd hv
        go_enter Tryd.func32, Tryd.ntmps32
        go_wp2_with fail
        refine (hc _).mono ?_
        rintro e w' ⟨rfl, hg⟩
        go_wp2_with fail
        go_ret
        exact ⟨by first | rfl | (simp; omega), hg⟩
    · have hc := n_pow2 n h0 hn
      rw [decide_eq_false hp] at hc
      have hv : decide (vlen n) = false := decide_eq_false (fun ⟨k, _, h⟩ => hp ⟨k, h⟩)
      rw [hv]
      clear hv
      replace hp := Lib.hid hp
      go_enter Tryd.func32, Tryd.ntmps32
      go_wp2_with fail
      refine (hc _).mono ?_
      rintro e w' ⟨rfl, hg⟩
      go_wp2_with fail
      go_ret
      exact ⟨rfl, hg⟩
end Go.Proofs.YtjgdbfhpjjmjkaaDoor
