/- Bit reversal by masks. No program in sight. -/
import Derived.Test.YtgambglgkilgkaaGreatDoorGa
import Derived.Test.YtgambglgkilgkaaGreatDoorGf
import Derived.Test.YtgambglgkilgkaaGreatDoorGw
import Derived.BigRegion
import Derived.BigFrameIn
import Derived.RegionIn
import Derived.BigRegionIn
import Derived.RangeFuncCalls
import Derived.Shelf.RegionOpen
namespace Go.Proofs.YtgambglgkilgkaaGreatDoor
open Att
def sw (s m x : Nat) : Nat := Nat.lor (Nat.land (x / s) m) ((Nat.land x m * s) % 18446744073709551616)
def sw32 (y : Nat) : Nat := Nat.lor (y / 4294967296) ((y * 4294967296) % 18446744073709551616)
def revN (x : Nat) : Nat := sw32 (sw 65536 281470681808895 (sw 256 71777214294589695 (sw 16 1085102592571150095 (sw 4 3689348814741910323 (sw 2 6148914691236517205 x)))))
def chk (f : Nat → Bool) : Nat → Nat → Bool
  | 0, b => f b
  | n + 1, b => chk f n b && chk f n (b + 2 ^ n)
theorem chk_spec (f : Nat → Bool) : ∀ n b, chk f n b = true → ∀ x, b ≤ x → x < b + 2 ^ n → f x = true
  | 0, b, h, x, h1, h2 => by
    obtain rfl : x = b := by simp at h2; omega
    exact h
  | n + 1, b, h, x, h1, h2 => by
    simp only [chk, Bool.and_eq_true] at h
    rw [Nat.pow_succ] at h2
    rcases Nat.lt_or_ge x (b + 2 ^ n) with h' | h'
    · exact chk_spec f n b h.1 x h1 h'
    · exact chk_spec f n (b + 2 ^ n) h.2 x h' (by omega)
theorem revN_one {k : Nat} (h : k < 16) : revN (2 ^ k) = 2 ^ (63 - k) :=
  Nat.eq_of_beq_eq_true (chk_spec (fun k => Nat.beq (revN (2 ^ k)) (2 ^ (63 - k))) 4 0 (by kernel_rfl) k (Nat.zero_le _) (by simpa using h))
theorem or4 (p q r s : Nat) : (p ||| q) ||| (r ||| s) = (p ||| r) ||| (q ||| s) := by ac_rfl
theorem sw_or (e m x y : Nat) : sw (2 ^ e) m (x ||| y) = sw (2 ^ e) m x ||| sw (2 ^ e) m y := by
  unfold sw
  show ((x ||| y) / 2 ^ e &&& m) ||| ((((x ||| y) &&& m) * 2 ^ e) % 2 ^ 64) = ((x / 2 ^ e &&& m) ||| (((x &&& m) * 2 ^ e) % 2 ^ 64)) ||| ((y / 2 ^ e &&& m) ||| (((y &&& m) * 2 ^ e) % 2 ^ 64))
  rw [← Nat.shiftRight_eq_div_pow, ← Nat.shiftRight_eq_div_pow, ← Nat.shiftRight_eq_div_pow, Nat.shiftRight_or_distrib, Nat.and_or_distrib_right, Nat.and_or_distrib_right,
    ← Nat.shiftLeft_eq, ← Nat.shiftLeft_eq, ← Nat.shiftLeft_eq, Nat.shiftLeft_or_distrib, Nat.or_mod_two_pow]
  exact or4 _ _ _ _
theorem sw32_or (a b : Nat) : sw32 (a ||| b) = sw32 a ||| sw32 b := by
  show ((a ||| b) / 2 ^ 32) ||| (((a ||| b) * 2 ^ 32) % 2 ^ 64) = (a / 2 ^ 32 ||| (a * 2 ^ 32) % 2 ^ 64) ||| (b / 2 ^ 32 ||| (b * 2 ^ 32) % 2 ^ 64)
  rw [← Nat.shiftRight_eq_div_pow, ← Nat.shiftRight_eq_div_pow, ← Nat.shiftRight_eq_div_pow, Nat.shiftRight_or_distrib, ← Nat.shiftLeft_eq, ← Nat.shiftLeft_eq, ← Nat.shiftLeft_eq, Nat.shiftLeft_or_distrib, Nat.or_mod_two_pow]
  exact or4 _ _ _ _
theorem revN_or (x y : Nat) : revN (x ||| y) = revN x ||| revN y := by
  have h1 : ∀ x y, sw 2 6148914691236517205 (x ||| y) = _ := sw_or 1 6148914691236517205
  have h2 : ∀ x y, sw 4 3689348814741910323 (x ||| y) = _ := sw_or 2 3689348814741910323
  have h4 : ∀ x y, sw 16 1085102592571150095 (x ||| y) = _ := sw_or 4 1085102592571150095
  have h8 : ∀ x y, sw 256 71777214294589695 (x ||| y) = _ := sw_or 8 71777214294589695
  have h16 : ∀ x y, sw 65536 281470681808895 (x ||| y) = _ := sw_or 16 281470681808895
  have e1 : (2 : Nat) ^ 1 = 2 := rfl
  have e2 : (2 : Nat) ^ 2 = 4 := rfl
  have e4 : (2 : Nat) ^ 4 = 16 := rfl
  have e8 : (2 : Nat) ^ 8 = 256 := rfl
  have e16 : (2 : Nat) ^ 16 = 65536 := rfl
  unfold revN
  rw [h1, e1, h2, e2, h4, e4, h8, e8, h16, e16, sw32_or]
theorem revN_rev : ∀ (k x : Nat), k ≤ 16 → x < 2 ^ k → revN x = rev k x * 2 ^ (64 - k)
  | 0, x, _, h => by
    obtain rfl : x = 0 := by simp at h; omega
    rfl
  | k + 1, x, hk, h => by
    have e64 : 64 - k = (63 - k) + 1 := by omega
    have e63 : 64 - (k + 1) = 63 - k := by omega
    rw [e63]
    rcases Nat.lt_or_ge x (2 ^ k) with h' | h'
    · rw [revN_rev k x (by omega) h', (rev_top k x h').2, e64, Nat.pow_succ, Nat.mul_comm 2, Nat.mul_assoc, Nat.mul_comm 2]
    · obtain ⟨y, rfl⟩ : ∃ y, x = 2 ^ k + y := ⟨x - 2 ^ k, by omega⟩
      have hy : y < 2 ^ k := by rw [Nat.pow_succ] at h; omega
      have e1 : 2 ^ k + y = 2 ^ k ||| y := by have := Nat.two_pow_add_eq_or_of_lt hy 1; rwa [Nat.mul_one] at this
      rw [(rev_top k y hy).1, e1, revN_or, revN_one (by omega), revN_rev k y (by omega) hy]
      have hb : 2 ^ (63 - k) < 2 ^ (64 - k) := Nat.pow_lt_pow_right (by omega) (by omega)
      have e2 := Nat.two_pow_add_eq_or_of_lt hb (rev k y)
      rw [Nat.or_comm, Nat.mul_comm (rev k y), ← e2, e64, Nat.pow_succ, Nat.add_mul, Nat.one_mul]
      congr 1
      rw [Nat.mul_comm 2, Nat.mul_assoc, Nat.mul_comm, Nat.mul_comm 2]
theorem rev_shift {k i : Nat} (hk : k ≤ 16) (hi : i < 2 ^ k) : revN i / 2 ^ (64 - k) = rev k i := by
  rw [revN_rev k i hk hi]
  exact Nat.mul_div_cancel _ (Nat.two_pow_pos _)
end Go.Proofs.YtgambglgkilgkaaGreatDoor

/- The walks of package ntt: bits and powers of two. -/
namespace Go.Proofs.YtgambglgkilgkaaGreatDoor
open Go.RowKit Att Att.CRing
theorem sw_lt (e m x : Nat) (hm : m < 18446744073709551616) : sw (2 ^ e) m x < 18446744073709551616 :=
  Nat.or_lt_two_pow (n := 64) (Nat.and_lt_two_pow _ (by omega)) (Nat.mod_lt _ (by omega))
theorem swI (e m x : Nat) (hm : m < 18446744073709551616) (hx : x < 18446744073709551616) :
    bits .or .u64 (bits .and .u64 ((x : Int) / ((2 ^ e : Nat) : Int)) (m : Int)) (IntKind.u64.wrap (bits .and .u64 (x : Int) (m : Int) * ((2 ^ e : Nat) : Int))) = ((sw (2 ^ e) m x : Nat) : Int) := by
  have hd : x / 2 ^ e < 18446744073709551616 := Nat.lt_of_le_of_lt (Nat.div_le_self _ _) hx
  have ha : x / 2 ^ e &&& m < 18446744073709551616 := Nat.and_lt_two_pow (n := 64) _ (by omega)
  rw [← Int.natCast_ediv, bits_and_u64_nat _ _ hd hm, bits_and_u64_nat _ _ hx hm, ← Int.natCast_mul, wrapM, bits_or_u64_nat _ _ ha (Nat.mod_lt _ (by omega))]
  rfl
theorem sw32I (x : Nat) (hx : x < 18446744073709551616) :
    bits .or .u64 ((x : Int) / 4294967296) (IntKind.u64.wrap ((x : Int) * 4294967296)) = ((sw32 x : Nat) : Int) := by
  have hd : x / 4294967296 < 18446744073709551616 := Nat.lt_of_le_of_lt (Nat.div_le_self _ _) hx
  rw [show (4294967296 : Int) = ((4294967296 : Nat) : Int) from rfl, ← Int.natCast_ediv, ← Int.natCast_mul, wrapM, bits_or_u64_nat _ _ hd (Nat.mod_lt _ (by omega))]
  rfl
theorem n_revBytes (x : Nat) (hx : x < 18446744073709551616) (w : World) :
    Calls Tryz.prog 119 #[.int .u64 x] w fun e w' => e = .returned (.int .u64 ((sw32 (sw 65536 281470681808895 (sw 256 71777214294589695 x)) : Nat) : Int)) ∧ ∃ g, w' = gr w g := by
  have h8 : bits .or .u64 (bits .and .u64 ((x : Int) / 256) 71777214294589695) (IntKind.u64.wrap (bits .and .u64 (x : Int) 71777214294589695 * 256)) = _ := swI 8 71777214294589695 x (by omega) hx
  have l8 := sw_lt 8 71777214294589695 x (by omega)
  have h16 : bits .or .u64 (bits .and .u64 (((sw (2 ^ 8) 71777214294589695 x : Nat) : Int) / 65536) 281470681808895) (IntKind.u64.wrap (bits .and .u64 ((sw (2 ^ 8) 71777214294589695 x : Nat) : Int) 281470681808895 * 65536)) = _ := swI 16 281470681808895 _ (by omega) l8
  have l16 := sw_lt 16 281470681808895 (sw (2 ^ 8) 71777214294589695 x) (by omega)
  have h32 := sw32I _ l16
  have H8 := Lib.hid h8; have H16 := Lib.hid h16; have H32 := Lib.hid h32
  clear h8 h16 h32 l8 l16
  go_enter Tryz.func119, Tryz.ntmps119
  go_wp2_with fail
  go_ret
  refine ⟨?_, Gn.refl w⟩
  rw [H8.out, H16.out, H32.out]
  exact rfl
theorem n_rev64 (x : Nat) (hx : x < 18446744073709551616) (w : World) :
    Calls Tryz.prog 104 #[.int .u64 x] w fun e w' => e = .returned (.int .u64 ((revN x : Nat) : Int)) ∧ ∃ g, w' = gr w g := by
  have h1 : bits .or .u64 (bits .and .u64 ((x : Int) / 2) 6148914691236517205) (IntKind.u64.wrap (bits .and .u64 (x : Int) 6148914691236517205 * 2)) = _ := swI 1 6148914691236517205 x (by omega) hx
  have l1 := sw_lt 1 6148914691236517205 x (by omega)
  have h2 : bits .or .u64 (bits .and .u64 (((sw (2 ^ 1) 6148914691236517205 x : Nat) : Int) / 4) 3689348814741910323) (IntKind.u64.wrap (bits .and .u64 ((sw (2 ^ 1) 6148914691236517205 x : Nat) : Int) 3689348814741910323 * 4)) = _ := swI 2 3689348814741910323 _ (by omega) l1
  have l2 := sw_lt 2 3689348814741910323 (sw (2 ^ 1) 6148914691236517205 x) (by omega)
  have h4 : bits .or .u64 (bits .and .u64 (((sw (2 ^ 2) 3689348814741910323 (sw (2 ^ 1) 6148914691236517205 x) : Nat) : Int) / 16) 1085102592571150095) (IntKind.u64.wrap (bits .and .u64 ((sw (2 ^ 2) 3689348814741910323 (sw (2 ^ 1) 6148914691236517205 x) : Nat) : Int) 1085102592571150095 * 16)) = _ := swI 4 1085102592571150095 _ (by omega) l2
  have l4 := Lib.hid (sw_lt 4 1085102592571150095 (sw (2 ^ 2) 3689348814741910323 (sw (2 ^ 1) 6148914691236517205 x)) (by omega))
  have H1 := Lib.hid h1; have H2 := Lib.hid h2; have H4 := Lib.hid h4
  clear h1 h2 h4 l1 l2
  go_enter Tryz.func104, Tryz.ntmps104
  go_wp2_with fail
  rw [H1.out, H2.out, H4.out]
  refine (n_revBytes _ l4.out _).mono ?_
  rintro e w' ⟨rfl, hg⟩
  go_wp2_with fail
  go_ret
  exact ⟨rfl, hg⟩

/- ───── trailing zeros, by the table ───── -/
def dbTab : List Int := [0, 1, 56, 2, 57, 49, 28, 3, 61, 58, 42, 50, 38, 29, 17, 4, 62, 47, 59, 36, 45, 43, 51, 22, 53, 39, 33, 30, 24, 18, 12, 5, 63, 55, 48, 27, 60, 41, 37, 16, 46, 35, 44, 21, 52, 32, 23, 11, 54, 26, 40, 15, 34, 20, 31, 10, 25, 14, 19, 9, 13, 8, 7, 6]
/-- the table lies where the program's text lays it -/
structure Tab (w : World) : Prop where
  lt : 5 < w.heap.size
  cells : ∀ (i : Nat) (z : Int), dbTab[i]? = some z → w.cell? ⟨5, i, none⟩ = some (.int .u8 z)
theorem Tab.up {a b : World} (h : Tab a) (g : Gn a b) : Tab b := ⟨Nat.lt_of_lt_of_le h.lt g.size, fun i z hz => (g.below.cell (p := ⟨_, i, none⟩) h.lt).trans (h.cells i z hz)⟩
def dbIdx (k : Nat) : Nat := (IntKind.u64.wrap (bits .and .u64 ((2 : Int) ^ k) (IntKind.u64.wrap (-(2 : Int) ^ k)) * 285870213051353865) / 288230376151711744).toNat
theorem db_chk : chk (fun k => dbTab[dbIdx k]? == some (k : Int)) 4 0 = true := by kernel_rfl
theorem db_16 : dbTab[dbIdx 16]? = some 16 := by kernel_rfl
theorem db_at {k : Nat} (hk : k ≤ 16) : dbTab[dbIdx k]? = some (k : Int) := by
  by_cases h : k = 16
  · subst h; exact db_16
  · have := chk_spec _ 4 0 db_chk k (Nat.zero_le _) (by show k < 0 + 16; omega)
    simpa using this
theorem Tab.cell {w : World} (h : Tab w) {k : Nat} (hk : k ≤ 16) : w.cell? ⟨5, dbIdx k, none⟩ = some (.int .u8 (k : Int)) := h.cells _ _ (db_at hk)
theorem n_tz64 (k : Nat) (hk : k ≤ 16) (w : World) (hT : Tab w) :
    Calls Tryz.prog 126 #[.int .u64 ((2 : Int) ^ k)] w fun e w' => e = .returned (.int .i64 k) ∧ ∃ g, w' = gr w g := by
  have hc := hT.cell hk
  have hc2 : w.cell? ⟨5, (IntKind.u64.wrap (bits .and .u64 ((2 : Int) ^ k) (IntKind.u64.wrap (-(2 : Int) ^ k)) * 285870213051353865) / 288230376151711744).toNat, none⟩ = some (.int .u8 (k : Int)) := hc
  have hb0 : 0 ≤ IntKind.u64.wrap (bits .and .u64 ((2 : Int) ^ k) (IntKind.u64.wrap (-(2 : Int) ^ k)) * 285870213051353865) / 288230376151711744 := by
    rw [IntKind.wrap_u64 (bits .and .u64 ((2 : Int) ^ k) (IntKind.u64.wrap (-(2 : Int) ^ k)) * 285870213051353865)]; omega
  have hb1 : IntKind.u64.wrap (bits .and .u64 ((2 : Int) ^ k) (IntKind.u64.wrap (-(2 : Int) ^ k)) * 285870213051353865) / 288230376151711744 < 64 := by
    rw [IntKind.wrap_u64 (bits .and .u64 ((2 : Int) ^ k) (IntKind.u64.wrap (-(2 : Int) ^ k)) * 285870213051353865)]; omega
  have hlt : 5 < w.heap.size := hT.lt
  have hne : ((2 : Int) ^ k == 0) = false := by
    rw [beq_eq_false_iff_ne]
    exact Int.ne_of_gt (Int.pow_pos (by omega))
  clear hc hT
  go_enter Tryz.func126, Tryz.ntmps126
  go_wp2_with fail
  go_ret
  exact ⟨rfl, Gn.refl w⟩
theorem n_tz (k : Nat) (hk : k ≤ 16) (w : World) (hT : Tab w) :
    Calls Tryz.prog 118 #[.int .u64 ((2 : Int) ^ k)] w fun e w' => e = .returned (.int .i64 k) ∧ ∃ g, w' = gr w g := by
  go_enter Tryz.func118, Tryz.ntmps118
  go_wp2_with fail
  refine (n_tz64 k hk _ hT).mono ?_
  rintro e w' ⟨rfl, hg⟩
  go_wp2_with fail
  go_ret
  exact ⟨rfl, hg⟩
theorem pow_lt {k : Nat} (hk : k ≤ 16) : 2 ^ k ≤ 65536 := Nat.pow_le_pow_right (n := 2) (by omega) hk
theorem n_log2 (k : Nat) (hk : k ≤ 16) (w : World) (hT : Tab w) :
    Calls Tryz.prog 103 #[.int .i64 ((2 ^ k : Nat) : Int)] w fun e w' => e = .returned (.int .i64 k) ∧ ∃ g, w' = gr w g := by
  have hw : IntKind.u64.wrap ((2 : Int) ^ k) = (2 : Int) ^ k := by
    have h1 := pow_lt hk
    rw [show (2 : Int) ^ k = ((2 ^ k : Nat) : Int) from by rw [Int.natCast_pow]; rfl, wrapN _ (by omega)]
  replace hw := Lib.hid hw
  go_enter Tryz.func103, Tryz.ntmps103
  go_wp2_with fail
  rw [hw.out]
  refine (n_tz k hk _ hT).mono ?_
  rintro e w' ⟨rfl, hg⟩
  go_wp2_with fail
  go_ret
  exact ⟨rfl, hg⟩
/- ───── powers of two ───── -/
theorem bits_and_i64_nat (a b : Nat) (ha : a < 4611686018427387904) (hb : b < 4611686018427387904) : bits .and .i64 (a : Int) (b : Int) = ((a &&& b : Nat) : Int) := by
  have hx : a &&& b < 2 ^ 62 := Nat.and_lt_two_pow _ (by omega)
  have h1 : (BitVec.ofInt 64 (a : Int)).toNat = a := by
    rw [BitVec.ofInt_natCast, BitVec.toNat_ofNat]; exact Nat.mod_eq_of_lt (by omega)
  have h2 : (BitVec.ofInt 64 (b : Int)).toNat = b := by
    rw [BitVec.ofInt_natCast, BitVec.toNat_ofNat]; exact Nat.mod_eq_of_lt (by omega)
  show IntKind.i64.wrap ((BitVec.ofInt 64 (a : Int) &&& BitVec.ofInt 64 (b : Int)).toNat : Int) = _
  rw [BitVec.toNat_and, h1, h2]
  exact IntWalk.i64_in _ (by omega)
theorem and_pred (n : Nat) (h0 : 0 < n) : n &&& (n - 1) = 0 ↔ ∃ k, n = 2 ^ k := by
  induction n using Nat.strongRecOn with
  | _ n ih =>
    have hd : (n &&& (n - 1)) / 2 = n / 2 &&& (n - 1) / 2 := Nat.and_div_two
    have hm : (n &&& (n - 1)) % 2 = 0 := by
      rw [show 2 = 2 ^ 1 from rfl, Nat.and_mod_two_pow]
      rcases Nat.mod_two_eq_zero_or_one n with h | h
      · rw [show n % 2 ^ 1 = 0 from h, Nat.zero_and]
      · rw [show (n - 1) % 2 ^ 1 = 0 from by show (n - 1) % 2 = 0; omega, Nat.and_zero]
    rcases Nat.mod_two_eq_zero_or_one n with h | h
    · have ih' := ih (n / 2) (by omega) (by omega)
      rw [show (n - 1) / 2 = n / 2 - 1 from by omega] at hd
      constructor
      · intro e
        rw [e] at hd
        obtain ⟨k, hk⟩ := ih'.1 (by omega)
        exact ⟨k + 1, by rw [Nat.pow_succ]; omega⟩
      · rintro ⟨k, hk⟩
        cases k with
        | zero => omega
        | succ k =>
          have := ih'.2 ⟨k, by rw [Nat.pow_succ] at hk; omega⟩
          omega
    · rw [show (n - 1) / 2 = n / 2 from by omega, Nat.and_self] at hd
      constructor
      · intro e
        rw [e] at hd
        exact ⟨0, by omega⟩
      · rintro ⟨k, hk⟩
        cases k with
        | zero => have : n = 1 := hk; subst this; rfl
        | succ k => rw [Nat.pow_succ] at hk; omega
open Classical in
theorem n_pow2 (n : Nat) (h0 : 0 < n) (hn : n < 4611686018427387904) (w : World) :
    Calls Tryz.prog 69 #[.int .i64 n] w fun e w' => e = .returned (.bool (decide (∃ k, n = 2 ^ k))) ∧ ∃ g, w' = gr w g := by
  have e : (bits .and .i64 (n : Int) ((n : Int) - 1) == 0) = decide (∃ k, n = 2 ^ k) := by
    rw [show (n : Int) - 1 = ((n - 1 : Nat) : Int) from by omega, bits_and_i64_nat n (n - 1) hn (by omega)]
    rw [Bool.eq_iff_iff, beq_iff_eq, decide_eq_true_eq, ← and_pred n h0]
    omega
  replace e := Lib.hid e
  go_enter Tryz.func69, Tryz.ntmps69
  go_wp2_with fail
  go_ret
  exact ⟨by rw [← e.out]; rfl, Gn.refl w⟩
theorem n_pow2n (n : Int) (h0 : n ≤ 0) (w : World) :
    Calls Tryz.prog 69 #[.int .i64 n] w fun e w' => e = .returned (.bool false) ∧ ∃ g, w' = gr w g := by
  have hb : ¬ 0 < n := by omega
  go_enter Tryz.func69, Tryz.ntmps69
  go_wp2_with fail
  go_ret
  exact ⟨rfl, Gn.refl w⟩
theorem isPow_lt {n : Nat} (h0 : 0 < n) (hn : n ≤ 65536) (h : ∃ k, n = 2 ^ k) : ∃ k, k ≤ 16 ∧ n = 2 ^ k := by
  obtain ⟨k, rfl⟩ := h
  refine ⟨k, ?_, rfl⟩
  rcases Nat.lt_or_ge 16 k with h' | h'
  · have : 2 ^ 17 ≤ 2 ^ k := Nat.pow_le_pow_right (n := 2) (by omega) h'
    omega
  · exact h'
/-- a length that can be transformed -/
def vlen (n : Nat) : Prop := ∃ k, k ≤ 16 ∧ n = 2 ^ k
open Classical in
theorem n_validLen (n : Nat) (hn : n < 4611686018427387904) (w : World) :
    Calls Tryz.prog 68 #[.int .i64 n] w fun e w' => e = .returned (.bool (decide (vlen n))) ∧ ∃ g, w' = gr w g := by
  rcases Nat.eq_zero_or_pos n with h0 | h0
  · subst h0
    have hv : decide (vlen 0) = false := decide_eq_false (by rintro ⟨k, _, h⟩; have := Nat.two_pow_pos k; omega)
    rw [hv]
    go_enter Tryz.func68, Tryz.ntmps68
    go_wp2_with fail
    refine (n_pow2n 0 (by omega) _).mono ?_
    rintro e w' ⟨rfl, hg⟩
    go_wp2_with fail
    go_ret
    exact ⟨rfl, hg⟩
  · by_cases hp : ∃ k, n = 2 ^ k
    · have hc := n_pow2 n h0 hn
      rw [decide_eq_true hp] at hc
      have hv : decide (vlen n) = decide (n ≤ 65536) := by
        rw [Bool.eq_iff_iff, decide_eq_true_eq, decide_eq_true_eq]
        constructor
        · rintro ⟨k, h1, rfl⟩; exact pow_lt h1
        · intro h; exact isPow_lt h0 h hp
      rw [hv]
      replace hp := Lib.hid hp
      by_cases h1 : n ≤ 65536
      · have hd : decide (n ≤ 65536) = true := decide_eq_true h1
        rw [hd]
        clear hd hv
        go_enter Tryz.func68, Tryz.ntmps68
        go_wp2_with fail
        refine (hc _).mono ?_
        rintro e w' ⟨rfl, hg⟩
        go_wp2_with fail
        go_ret
        exact ⟨by first | rfl | (simp; omega), hg⟩
      · have hd : decide (n ≤ 65536) = false := decide_eq_false h1
        rw [hd]
        clear hd hv
        go_enter Tryz.func68, Tryz.ntmps68
        go_wp2_with fail
        refine (hc _).mono ?_
        rintro e w' ⟨rfl, hg⟩
        go_wp2_with fail
        go_ret
        exact ⟨by first | rfl | (simp; omega), hg⟩
    · have hc := n_pow2 n h0 hn
      rw [decide_eq_false hp] at hc
      have hv : decide (vlen n) = false := decide_eq_false (fun ⟨k, _, h⟩ => hp ⟨k, h⟩)
      rw [hv]
      clear hv
      replace hp := Lib.hid hp
      go_enter Tryz.func68, Tryz.ntmps68
      go_wp2_with fail
      refine (hc _).mono ?_
      rintro e w' ⟨rfl, hg⟩
      go_wp2_with fail
      go_ret
      exact ⟨rfl, hg⟩
end Go.Proofs.YtgambglgkilgkaaGreatDoor

/- The walk of permute. -/
namespace Go.Proofs.YtgambglgkilgkaaGreatDoor
open Go.RowKit Att Att.CRing
/-- what stands at place x when the places below i have had their turn -/
def pmF (l : List F) (k i x : Nat) : F := if min x (rev k x) < i then co l (rev k x) else co l x
def pm (l : List F) (k i : Nat) : List F := tab (2 ^ k) (pmF l k i)
theorem pm_len (l : List F) (k i : Nat) : (pm l k i).length = 2 ^ k := tab_length _ _
theorem pm_get (l : List F) {k i x : Nat} (h : x < 2 ^ k) : (pm l k i)[x]? = some (pmF l k i x) := by
  unfold pm tab; rw [List.getElem?_map, List.getElem?_range h]; rfl
theorem pm_zero {l : List F} {k : Nat} (h : l.length = 2 ^ k) : pm l k 0 = l := by
  unfold pm
  rw [← h]
  refine Eq.trans ?_ (tab_eq l)
  unfold tab
  exact List.map_congr_left fun x _ => if_neg (by omega)
theorem pm_end (l : List F) (k : Nat) : pm l k (2 ^ k) = tab (2 ^ k) fun x => co l (rev k x) := by
  unfold pm tab
  exact List.map_congr_left fun x hx => if_pos (by have := List.mem_range.1 hx; omega)
theorem pm_stay {l : List F} {k i : Nat} (hi : i < 2 ^ k) (h : ¬ i < rev k i) : pm l k (i + 1) = pm l k i := by
  unfold pm tab
  refine List.map_congr_left fun x hx => ?_
  have hx := List.mem_range.1 hx
  unfold pmF
  by_cases h1 : min x (rev k x) < i
  · rw [if_pos (by omega), if_pos h1]
  · by_cases h2 : min x (rev k x) < i + 1
    · rw [if_pos h2, if_neg h1]
      rcases Nat.lt_or_ge (rev k x) x with h3 | h3
      · have e : rev k x = i := by omega
        have e2 := rev_rev k x hx
        rw [e] at e2
        omega
      · have e : x = i := by omega
        subst e
        have e3 : rev k x = x := by omega
        rw [e3]
    · rw [if_neg h2, if_neg h1]
theorem pm_swap {l : List F} {k i : Nat} (hi : i < 2 ^ k) (h : i < rev k i) : ((pm l k i).set i (co l (rev k i))).set (rev k i) (co l i) = pm l k (i + 1) := by
  have hj := rev_lt k i
  have hr := rev_rev k i hi
  apply List.ext_getElem?
  intro x
  by_cases hx : x < 2 ^ k
  · rw [pm_get l hx]
    by_cases hxj : x = rev k i
    · subst hxj
      rw [List.getElem?_set_self (by rw [List.length_set, pm_len]; exact hj)]
      unfold pmF
      rw [hr, if_pos (by omega)]
    · rw [List.getElem?_set_ne (Ne.symm hxj)]
      by_cases hxi : x = i
      · subst hxi
        rw [List.getElem?_set_self (by rw [pm_len]; exact hx)]
        unfold pmF
        rw [if_pos (by omega)]
      · rw [List.getElem?_set_ne (Ne.symm hxi), pm_get l hx]
        unfold pmF
        by_cases h1 : min x (rev k x) < i
        · rw [if_pos h1, if_pos (by omega)]
        · rw [if_neg h1, if_neg]
          intro h2
          rcases Nat.lt_or_ge (rev k x) x with h3 | h3
          · have e : rev k x = i := by omega
            have e2 := rev_rev k x hx
            rw [e] at e2
            exact hxj e2.symm
          · exact hxi (by omega)
  · rw [List.getElem?_eq_none (by rw [List.length_set, List.length_set, pm_len]; omega), List.getElem?_eq_none (by rw [pm_len]; omega)]
theorem pm_at {l : List F} {k i : Nat} (hi : i < 2 ^ k) (h : i < rev k i) : (pm l k i)[i]? = some (co l i) ∧ (pm l k i)[rev k i]? = some (co l (rev k i)) := by
  have hj := rev_lt k i
  have hr := rev_rev k i hi
  rw [pm_get l hi, pm_get l hj]
  unfold pmF
  rw [hr, if_neg (by omega), if_neg (by omega)]
  exact ⟨rfl, rfl⟩
theorem gn_by {a b : World} (h : Gn a b) (row : Option Nat) : a.grownBy b row := ⟨h.below.os, h.below.tape, h.below.output, h.below.size, fun k hk _ => h.below.block k hk⟩
theorem setF_by (w : World) (g i : Nat) (x : F) : w.grownBy (setF w g i x) (some g) := ⟨rfl, rfl, rfl, by simp [setF], fun k _ hne => setF_other (fun e => hne (by rw [e])) x⟩
set_option maxHeartbeats 1000000 in
theorem n_permute (g c k : Nat) (l : List F) (rest : List Value) (w : World) (hT : Tab w) (hk : k ≤ 16) (hl : l.length = 2 ^ k) (hR : RF w g l rest) (hc : 2 ^ k ≤ c) :
    Calls Tryz.prog 92 #[.slice (some ⟨g, 0, none⟩) (2 ^ k : Nat) c] w fun e w' => e = .returned (.tuple #[]) ∧ RF w' g (tab (2 ^ k) fun x => co l (rev k x)) rest ∧ w.grownBy w' (some g) := by
  have hp := pow_lt hk
  obtain ⟨n, hn⟩ : ∃ n, n = 2 ^ k := ⟨_, rfl⟩
  have hL := n_log2 k hk w hT
  rw [← hn] at hL hp hc ⊢
  replace hn := Lib.hid hn
  go_enter Tryz.func92, Tryz.ntmps92
  go_wp2_with fail
  refine hL.mono ?_
  rintro e w1 ⟨rfl, g1⟩
  go_wp2_with fail
  have hR1 : RF w1 g (pm l k 0) rest := by rw [pm_zero hl]; exact RF.up hR g1
  go_loopw [10] (fun v wr => ∃ i : Nat, i ≤ n ∧ v = .int .i64 i ∧ RF wr g (pm l k i) rest ∧ w.grownBy wr (some g)) (fun v _ => n - (intOf v).toNat)
  case atStart => exact ⟨0, by omega, rfl, hR1, by obtain ⟨gg, rfl⟩ := g1; have b := gr_below w gg; exact ⟨b.os, b.tape, b.output, b.size, fun k hk _ => b.block k hk⟩⟩
  case round =>
    clear hR1
    obtain ⟨i, hi, rfl, hr, hgb⟩ := hrel
    by_cases h1 : i < n
    · obtain ⟨j, hj⟩ : ∃ j, j = rev k i := ⟨_, rfl⟩
      have hi2 : i < 2 ^ k := by rw [← hn.out]; exact h1
      have hjn : j < n := by rw [hj, hn.out]; exact rev_lt k i
      have hwr : wrap64 (((revN i : Nat) : Int) / 2 ^ (64 - k)) = (j : Int) := by
        rw [show ((2 : Int) ^ (64 - k)) = ((2 ^ (64 - k) : Nat) : Int) from by rw [Int.natCast_pow]; rfl, ← Int.natCast_ediv, rev_shift hk hi2, ← hj]
        exact IntWalk.wrap64_in _ (by omega)
      by_cases hij : i < j
      · have hk0 : 0 < k := by
          rcases Nat.eq_zero_or_pos k with h | h
          · subst h; have e := rev_lt 0 i; rw [hj] at hij; simp at hi2 e; omega
          · exact h
        rw [hj] at hij
        obtain ⟨a1, a2⟩ := pm_at (l := l) hi2 hij
        have hsw := Lib.hid (pm_swap (l := l) hi2 hij)
        rw [← hj] at hij a2 hsw
        replace hj := Lib.hid hj
        have hil := Lib.hid (show i < (pm l k i).length by rw [pm_len]; exact hi2)
        have hjl := Lib.hid (show j < ((pm l k i).set i (co l j)).length by rw [List.length_set, pm_len, ← hn.out]; exact hjn)
        go_wp2_with fail
        refine (n_rev64 i (by omega) _).mono ?_
        rintro e w2 ⟨rfl, g2⟩
        have hr2 := RF.up hr g2
        have hg2 := hgb.trans (gn_by g2 (some g))
        have c1 := hr2.cell a1
        have c2 := hr2.cell a2
        have c3 := blk_lt hr2
        clear a1 a2 hr hgb g2 hi2
        go_wp2_with fail
        have f1 := box_fz (i := i) hr2
        have f2 := box_fz (i := j) hr2
        have H5 := Lib.hid (RF.set (RF.set hr2 hil.out (co l j)) hjl.out (co l i))
        rw [hsw.out] at H5
        have G5 := Lib.hid ((hg2.trans (setF_by w2 g i (co l j))).trans (setF_by (setF w2 g i (co l j)) g j (co l i)))
        clear hr2 hg2
        go_region
        have hr6 : RF ((w2.setCell ⟨g, i, none⟩ (.int .u64 (Zm.i (co l j)))).setCell ⟨g, j, none⟩ (.int .u64 (Zm.i (co l i)))).drew g (pm l k (i + 1)) rest := H5.out
        have hg6 : w.grownBy ((w2.setCell ⟨g, i, none⟩ (.int .u64 (Zm.i (co l j)))).setCell ⟨g, j, none⟩ (.int .u64 (Zm.i (co l i)))).drew (some g) := ⟨G5.out.os, G5.out.tape, G5.out.output, G5.out.size, G5.out.block⟩
        generalize ((w2.setCell ⟨g, i, none⟩ (.int .u64 (Zm.i (co l j)))).setCell ⟨g, j, none⟩ (.int .u64 (Zm.i (co l i)))).drew = w5 at *
        clear c1 c2 c3 f1 f2 H5 G5
        go_wp2_with fail
        exact ⟨⟨i + 1, by omega, by go_num, hr6, hg6⟩, by simp [intOf]; omega⟩
      · have hst := Lib.hid (pm_stay (l := l) hi2 (by rw [← hj]; exact hij))
        clear hj
        by_cases hk0 : 0 < k
        · go_wp2_with fail
          refine (n_rev64 i (by omega) _).mono ?_
          rintro e w2 ⟨rfl, g2⟩
          have hr2 := RF.up hr g2
          have hg2 := hgb.trans (gn_by g2 (some g))
          go_wp2_with fail
          exact ⟨⟨i + 1, by omega, by go_num, by rw [hst.out]; exact hr2, hg2⟩, by simp [intOf]; omega⟩
        · go_wp2_with fail
          refine (n_rev64 i (by omega) _).mono ?_
          rintro e w2 ⟨rfl, g2⟩
          have hr2 := RF.up hr g2
          have hg2 := hgb.trans (gn_by g2 (some g))
          go_wp2_with fail
          exact ⟨⟨i + 1, by omega, by go_num, by rw [hst.out]; exact hr2, hg2⟩, by simp [intOf]; omega⟩
    · obtain rfl : i = n := by omega
      have he := Lib.hid (pm_end l k)
      go_wp2_with fail
      go_end0
      refine ⟨rfl, ?_, hgb⟩
      have e := he.out
      rw [← hn.out] at e
      rw [← e]
      exact hr
end Go.Proofs.YtgambglgkilgkaaGreatDoor

/- The iterator of the stages. -/
namespace Go.Proofs.YtgambglgkilgkaaGreatDoor
open Go.RowKit Att Att.CRing
/-- what the iterator asks of memory: the boxes of the length and of the direction -/
structure StH (B C : Nat) (n : Int) (inv : Bool) (W : World) : Prop where
  b : B < W.heap.size
  c : C < W.heap.size
  cb : W.cell? ⟨B, 0, none⟩ = some (.int .i64 n)
  cc : W.cell? ⟨C, 0, none⟩ = some (.bool inv)
def StKp (B C : Nat) (W W' : World) : Prop := W.heap.size ≤ W'.heap.size ∧ W'.cell? ⟨B, 0, none⟩ = W.cell? ⟨B, 0, none⟩ ∧ W'.cell? ⟨C, 0, none⟩ = W.cell? ⟨C, 0, none⟩
theorem StH.gn {B C : Nat} {n : Int} {inv : Bool} {W W' : World} (h : StH B C n inv W) (g : Gn W W') : StH B C n inv W' :=
  ⟨Nat.lt_of_lt_of_le h.b g.size, Nat.lt_of_lt_of_le h.c g.size, (g.below.cell (p := ⟨B, 0, none⟩) h.b).trans h.cb, (g.below.cell (p := ⟨C, 0, none⟩) h.c).trans h.cc⟩
attribute [local go_sem] Oper.semAt_some
theorem root_pos (k : Nat) (hk : k ≤ 32) : 0 < Zm.i (root k) := by
  have h := i_nn (root k)
  rcases Int.lt_or_eq_of_le h with h' | h'
  · exact h'
  · exact absurd (i_inj (b := 0) h'.symm) (root_prim k hk).ne_zero
theorem f_invR (rt : Nat → F) (hrt : ∀ k, rt k = Fld.inv (root k)) (k : Nat) (hk : k ≤ 32) (w : World) :
    Calls Tryz.prog 107 #[.int .u64 (Zm.i (root k))] w fun e w' => e = .returned (.tuple #[.int .u64 (Zm.i (rt k)), .int .i64 0]) ∧ ∃ n, w' = w.drewN n := by
  have h := f_inv (Zm.i (root k)) (root_pos k hk) w
  rw [int_i] at h
  rw [hrt k]
  exact h
set_option maxHeartbeats 1000000 in
theorem stages_iterF (rt : Nat → F) (hrt : ∀ k, rt k = root k) (B C K : Nat) (hK : K ≤ 16) :
    IterOk Tryz.prog 105 #[.pointer (some ⟨B, 0, none⟩), .pointer (some ⟨C, 0, none⟩)] (fun k => #[.int .i64 ((2 : Int) ^ (k + 1)), .int .u64 (Zm.i (rt (k + 1)))]) K (StH B C ((2 : Int) ^ K) false) Gn (StKp B C) := by
  intro m r J hS hY W hH hJ
  refine callsIn_of_wp Tryz.func105 rfl trivial ?_ rfl
  simp only [Tryz.ntmps105, List.size_toArray, List.length_cons, List.length_nil, Nat.reduceAdd, Nat.reduceSub, Array.replicate_succ, Array.replicate_zero, List.push_toArray, List.append_toArray, List.nil_append, List.cons_append]
  gi_wp2
  gi_loopw [4] (fun v wr => ∃ k : Nat, k ≤ K ∧ v = .int .i64 ((k : Int) + 1) ∧ J k wr ∧ StH B C ((2 : Int) ^ K) false wr) (fun v _ => K + 1 - (intOf v).toNat)
  case atStart => exact ⟨0, Nat.zero_le _, rfl, hJ, hH⟩
  case round =>
    obtain ⟨k, hk, rfl, hJk, hHk⟩ := hrel
    obtain ⟨h1, h2, h3, h4⟩ := id hHk
    have hp := pow_lt (k := k) (by omega)
    have hcast : ∀ n : Nat, ((2 : Int) ^ n) = ((2 ^ n : Nat) : Int) := fun n => by rw [Int.natCast_pow]; rfl
    have hw : IntKind.i64.wrap ((2 : Int) ^ (k + 1)) = (2 : Int) ^ (k + 1) := by
      rw [hcast]; exact IntWalk.i64_in _ (by rw [Nat.pow_succ]; omega)
    have hd : decide ((2 : Int) ^ (k + 1) ≤ (2 : Int) ^ K) = decide (k < K) := by
      rw [Bool.eq_iff_iff, decide_eq_true_eq, decide_eq_true_eq, hcast, hcast, Int.ofNat_le]
      constructor
      · intro h; exact Nat.lt_of_succ_le ((Nat.pow_le_pow_iff_right (by omega)).1 h)
      · intro h; exact Nat.pow_le_pow_right (by omega) h
    have hgd : Gn wr wr.drew := Gn.of ⟨rfl, rfl, rfl, Nat.le_refl _, fun _ _ => rfl⟩
    have hJ1 := hS k wr wr.drew hJk hgd
    have hH1 := hHk.gn hgd
    have hmx : Tryz.prog.follows .mixedOrders = true := by kernel_rfl
    clear hcast
    have HW := Lib.hid hw; have HD := Lib.hid hd
    clear hw hd
    gi_wp2
    gi_region_with_o fail
    have hw := HW.out
    rw [hw, HD.out]
    generalize wr.drew = w1 at *
    clear h1 h2 h3 h4 hJk hHk hgd hmx HD HW
    obtain ⟨h1, h2, h3, h4⟩ := id hH1
    by_cases hlt : k < K
    · have hdt : decide (k < K) = true := decide_eq_true hlt
      rw [hdt]
      clear hdt
      obtain ⟨fn, tt, asg, bdy, hy, hr⟩ := hY k w1 hlt hJ1
      have hrt1 := hrt (k + 1)
      clear hY
      have hR := f_root ((k : Int) + 1) (by omega) (by omega) w1
      rw [show ((k : Int) + 1).toNat = k + 1 from by omega, ← hrt1] at hR
      clear hrt1
      generalize rt (k + 1) = z at *
      gi_wp2_with fail
      refine ⟨trivial, (callsIn_wide.2 hR).mono ?_⟩
      clear hR
      rintro e w' ⟨rfl, rfl⟩
      gi_wp2_with fail
      refine hr.mono ?_
      rintro e W' ⟨rfl, hJ', hsz, hcb, hcc⟩
      have hH2 : StH B C ((2 : Int) ^ K) false W' := ⟨Nat.lt_of_lt_of_le h1 hsz, Nat.lt_of_lt_of_le h2 hsz, hcb.trans h3, hcc.trans h4⟩
      clear hr hy hcb hcc h1 h2 h3 h4 hw
      gi_wp2
      exact ⟨⟨k + 1, by omega, by go_num, hJ', hH2⟩, by simp [intOf]; omega⟩
    · obtain rfl : k = K := by omega
      have hdt : decide (k < k) = false := decide_eq_false (Nat.lt_irrefl k)
      rw [hdt]
      clear hdt
      gi_wp2
      first | go_end0 | go_ret
      exact ⟨⟨_, rfl⟩, hJ1⟩
set_option maxHeartbeats 1000000 in
theorem stages_iterT (rt : Nat → F) (hrt : ∀ k, rt k = Fld.inv (root k)) (B C K : Nat) (hK : K ≤ 16) :
    IterOk Tryz.prog 105 #[.pointer (some ⟨B, 0, none⟩), .pointer (some ⟨C, 0, none⟩)] (fun k => #[.int .i64 ((2 : Int) ^ (k + 1)), .int .u64 (Zm.i (rt (k + 1)))]) K (StH B C ((2 : Int) ^ K) true) Gn (StKp B C) := by
  intro m r J hS hY W hH hJ
  refine callsIn_of_wp Tryz.func105 rfl trivial ?_ rfl
  simp only [Tryz.ntmps105, List.size_toArray, List.length_cons, List.length_nil, Nat.reduceAdd, Nat.reduceSub, Array.replicate_succ, Array.replicate_zero, List.push_toArray, List.append_toArray, List.nil_append, List.cons_append]
  gi_wp2
  gi_loopw [4] (fun v wr => ∃ k : Nat, k ≤ K ∧ v = .int .i64 ((k : Int) + 1) ∧ J k wr ∧ StH B C ((2 : Int) ^ K) true wr) (fun v _ => K + 1 - (intOf v).toNat)
  case atStart => exact ⟨0, Nat.zero_le _, rfl, hJ, hH⟩
  case round =>
    obtain ⟨k, hk, rfl, hJk, hHk⟩ := hrel
    obtain ⟨h1, h2, h3, h4⟩ := id hHk
    have hp := pow_lt (k := k) (by omega)
    have hcast : ∀ n : Nat, ((2 : Int) ^ n) = ((2 ^ n : Nat) : Int) := fun n => by rw [Int.natCast_pow]; rfl
    have hw : IntKind.i64.wrap ((2 : Int) ^ (k + 1)) = (2 : Int) ^ (k + 1) := by
      rw [hcast]; exact IntWalk.i64_in _ (by rw [Nat.pow_succ]; omega)
    have hd : decide ((2 : Int) ^ (k + 1) ≤ (2 : Int) ^ K) = decide (k < K) := by
      rw [Bool.eq_iff_iff, decide_eq_true_eq, decide_eq_true_eq, hcast, hcast, Int.ofNat_le]
      constructor
      · intro h; exact Nat.lt_of_succ_le ((Nat.pow_le_pow_iff_right (by omega)).1 h)
      · intro h; exact Nat.pow_le_pow_right (by omega) h
    have hgd : Gn wr wr.drew := Gn.of ⟨rfl, rfl, rfl, Nat.le_refl _, fun _ _ => rfl⟩
    have hJ1 := hS k wr wr.drew hJk hgd
    have hH1 := hHk.gn hgd
    have hmx : Tryz.prog.follows .mixedOrders = true := by kernel_rfl
    clear hcast
    have HW := Lib.hid hw; have HD := Lib.hid hd
    clear hw hd
    gi_wp2
    gi_region_with_o fail
    have hw := HW.out
    rw [hw, HD.out]
    generalize wr.drew = w1 at *
    clear h1 h2 h3 h4 hJk hHk hgd hmx HD HW
    obtain ⟨h1, h2, h3, h4⟩ := id hH1
    by_cases hlt : k < K
    · have hdt : decide (k < K) = true := decide_eq_true hlt
      rw [hdt]
      clear hdt
      have hR := f_root ((k : Int) + 1) (by omega) (by omega) w1
      rw [show ((k : Int) + 1).toNat = k + 1 from by omega] at hR
      have hI := f_invR rt hrt (k + 1) (by omega)
      clear hrt
      generalize root (k + 1) = z0 at *
      gi_wp2_with fail
      refine ⟨trivial, (callsIn_wide.2 hR).mono ?_⟩
      clear hR
      rintro e w' ⟨rfl, rfl⟩
      gi_wp2_with fail
      refine ⟨trivial, (callsIn_wide.2 (hI _)).mono ?_⟩
      clear hI
      rintro e w' ⟨rfl, q, rfl⟩
      have hg2 : Gn w1 (w1.drewN q) := Gn.of ⟨rfl, rfl, rfl, Nat.le_refl _, fun _ _ => rfl⟩
      have hJ2 := hS k w1 _ hJ1 hg2
      have hH2 := hH1.gn hg2
      generalize w1.drewN q = w2 at *
      clear hg2 hJ1 hH1 h1 h2 h3 h4
      obtain ⟨h1, h2, h3, h4⟩ := id hH2
      obtain ⟨fn, tt, asg, bdy, hy, hr⟩ := hY k w2 hlt hJ2
      clear hY
      generalize rt (k + 1) = z at *
      gi_wp2_with fail
      refine hr.mono ?_
      rintro e W' ⟨rfl, hJ', hsz, hcb, hcc⟩
      have hH3 : StH B C ((2 : Int) ^ K) true W' := ⟨Nat.lt_of_lt_of_le h1 hsz, Nat.lt_of_lt_of_le h2 hsz, hcb.trans h3, hcc.trans h4⟩
      clear hr hy hcb hcc h1 h2 h3 h4 hw
      gi_wp2
      exact ⟨⟨k + 1, by omega, by go_num, hJ', hH3⟩, by simp [intOf]; omega⟩
    · obtain rfl : k = K := by omega
      have hdt : decide (k < k) = false := decide_eq_false (Nat.lt_irrefl k)
      rw [hdt]
      clear hdt
      gi_wp2
      first | go_end0 | go_ret
      exact ⟨⟨_, rfl⟩, hJ1⟩
end Go.Proofs.YtgambglgkilgkaaGreatDoor

/- The walks of the reference of ntt: Eval, values; the call of stages. -/
namespace Go.Proofs.YtgambglgkilgkaaGreatDoor
open Go.RowKit Att Att.CRing
theorem n_stages (n : Int) (inv : Bool) (w : World) :
    Calls Tryz.prog 93 #[.int .i64 n, .bool inv] w fun e w' => e = .returned (.func (.func 105) #[] #[.pointer (some ⟨w.heap.size, 0, none⟩), .pointer (some ⟨w.heap.size + 1, 0, none⟩)]) ∧ w' = (w.alloc (.cells #[.int .i64 n] 3)).alloc (.cells #[.bool inv] 4) := by
  go_enter Tryz.func93, Tryz.ntmps93
  go_wp2_with fail
  go_ret
  exact ⟨rfl, rfl⟩
theorem f_mulF (x y : F) (w : World) : Calls Tryz.prog 94 #[.int .u64 (Zm.i (x)), .int .u64 (Zm.i (y))] w fun e w' => e = .returned (.int .u64 (Zm.i (x * y))) ∧ w = w' := by
  have h := f_mul (Zm.i x) (Zm.i y) w
  rwa [int_i, int_i] at h
theorem f_addF (x y : F) (w : World) : Calls Tryz.prog 95 #[.int .u64 (Zm.i (x)), .int .u64 (Zm.i (y))] w fun e w' => e = .returned (.int .u64 (Zm.i (x + y))) ∧ w = w' := by
  have h := f_add (Zm.i x) (Zm.i y) w
  rwa [int_i, int_i] at h
theorem f_subF (x y : F) (w : World) : Calls Tryz.prog 35 #[.int .u64 (Zm.i (x)), .int .u64 (Zm.i (y))] w fun e w' => e = .returned (.int .u64 (Zm.i (x - y))) ∧ w = w' := by
  have h := f_sub (Zm.i x) (Zm.i y) w
  rwa [int_i, int_i] at h
theorem ev_dropF {l : List F} {j : Nat} {y : F} (h : l[j]? = some y) (x : F) : ev (l.drop j) x = ev (l.drop (j + 1)) x * x + y := by
  have hj : j < l.length := (List.getElem?_eq_some_iff.1 h).1
  have hy : l[j] = y := Option.some.inj ((List.getElem?_eq_getElem hj).symm.trans h)
  rw [List.drop_eq_getElem_cons hj, hy]
  rfl
/-- the values at the powers of u -/
def valP (l : List F) (u : F) (n : Nat) : List F := tab n fun i => ev l (pw u i)
end Go.Proofs.YtgambglgkilgkaaGreatDoor

/- The walks of the reference of ntt: Log, Made. -/
namespace Go.Proofs.YtgambglgkilgkaaGreatDoor
open Go.RowKit Att Att.CRing
/-- what Log answers -/
def LogIs (n r : Int) : Prop := (∃ k : Nat, k ≤ 16 ∧ n = (2 : Int) ^ k ∧ r = (k : Int)) ∨ (r = -1 ∧ ∀ k : Nat, k ≤ 16 → n ≠ (2 : Int) ^ k)
theorem cast_pow (n : Nat) : ((2 : Int) ^ n) = ((2 ^ n : Nat) : Int) := by rw [Int.natCast_pow]; rfl
theorem wrap_pow {k : Nat} (hk : k ≤ 20) : IntKind.i64.wrap ((2 : Int) ^ k) = (2 : Int) ^ k := by
  have : 2 ^ k ≤ 1048576 := Nat.le_trans (Nat.pow_le_pow_right (n := 2) (by omega) hk) (by decide)
  rw [cast_pow]
  generalize 2 ^ k = m at this ⊢
  exact IntWalk.i64_in _ (by omega)
/-- the elements that arbitrary numbers stand for -/
def redL (l : List Int) : List F := l.map int
theorem redL_length (l : List Int) : (redL l).length = l.length := by simp [redL]
end Go.Proofs.YtgambglgkilgkaaGreatDoor

/- The walks of the reference of ntt: Made of a power of two; Same. -/
namespace Go.Proofs.YtgambglgkilgkaaGreatDoor
open Go.RowKit Att Att.CRing
/-- a row of n elements, of which the first i are written -/
def mdF (l : List F) (n i : Nat) : List F := tab n fun x => if x < i then co l x else 0
theorem mdF_len (l : List F) (n i : Nat) : (mdF l n i).length = n := tab_length _ _
theorem mdF_zero (l : List F) (n : Nat) : mdF l n 0 = List.replicate n 0 := by
  unfold mdF tab
  apply List.ext_getElem?
  intro x
  by_cases hx : x < n
  · rw [List.getElem?_map, List.getElem?_range hx, List.getElem?_replicate, if_pos hx]
    simp
  · rw [List.getElem?_eq_none (by simp; omega), List.getElem?_eq_none (by simp; omega)]
theorem mdF_set (l : List F) {n i : Nat} (hi : i < n) : (mdF l n i).set i (co l i) = mdF l n (i + 1) := by
  apply List.ext_getElem?
  intro x
  by_cases hxi : x = i
  · subst hxi
    rw [List.getElem?_set_self (by rw [mdF_len]; exact hi)]
    unfold mdF tab
    rw [List.getElem?_map, List.getElem?_range hi]
    simp
  · rw [List.getElem?_set_ne (Ne.symm hxi)]
    unfold mdF tab
    by_cases hx : x < n
    · rw [List.getElem?_map, List.getElem?_map, List.getElem?_range hx]
      simp only [Option.map_some]
      congr 1
      by_cases h : x < i
      · rw [if_pos h, if_pos (by omega)]
      · rw [if_neg h, if_neg (by omega)]
    · rw [List.getElem?_eq_none (by simp; omega), List.getElem?_eq_none (by simp; omega)]
/-- the elements, and zeros behind them -/
def padF (l : List F) (n : Nat) : List F := tab n (co l)
theorem mdF_end (l : List F) {n i : Nat} (h : n ≤ i ∨ l.length ≤ i) : mdF l n i = padF l n := by
  unfold mdF padF tab
  refine List.map_congr_left fun x hx => ?_
  have hx := List.mem_range.1 hx
  by_cases h1 : x < i
  · rw [if_pos h1]
  · rw [if_neg h1, co_big l x (by omega)]
end Go.Proofs.YtgambglgkilgkaaGreatDoor
