/- bits.Len (off the shelf); copy; ntt.Extend. -/
import Derived.Test.YtjgdbfhpjjmjkaaDoorNw8
import Derived.Laws.CopyOwn
import Derived.Ground.NamesProg
import Derived.Shelf.Small.Bits
namespace Go.Proofs
open Go.Shelf
def Tryd.lays125_ren : Go.Shelf.Ren := ⟨fun | 125 => 40 | 128 => 49 | 129 => 50 | n => n, fun | 46 => 56 | 3 => 3 | 51 => 63 | 53 => 34 | 4 => 4 | 5 => 5 | 9 => 9 | n => n, fun | n => n⟩
theorem Tryd.lays125 : Go.Proofs.Lays.n125 Tryd.prog Tryd.lays125_ren := {
  mixed := by kernel_rfl
  f125 := Tryd.func40.trans (congrArg some (by kernel_rfl))
  f128 := Tryd.func49.trans (congrArg some (by kernel_rfl))
  f129 := Tryd.func50.trans (congrArg some (by kernel_rfl))
  t3 := Tryd.underlying3
  a3 := Tryd.isAgg3
  z3 := Tryd.sizeOf3
  v3 := Tryd.zeroValue3
  t4 := Tryd.underlying4
  a4 := Tryd.isAgg4
  z4 := Tryd.sizeOf4
  v4 := Tryd.zeroValue4
  t5 := Tryd.underlying5
  a5 := Tryd.isAgg5
  z5 := Tryd.sizeOf5
  v5 := Tryd.zeroValue5
  t9 := Tryd.underlying9
  a9 := Tryd.isAgg9
  z9 := Tryd.sizeOf9
  v9 := Tryd.zeroValue9
  t46 := Tryd.underlying56
  a46 := Tryd.isAgg56
  z46 := Tryd.sizeOf56
  v46 := Tryd.zeroValue56
  t51 := Tryd.underlying63
  a51 := Tryd.isAgg63
  z51 := Tryd.sizeOf63
  v51 := Tryd.zeroValue63
  t53 := Tryd.underlying34
  a53 := Tryd.isAgg34
  z53 := Tryd.sizeOf34
  v53 := Tryd.zeroValue34 }
end Go.Proofs
namespace Go.Proofs.YtjgdbfhpjjmjkaaDoor
open Go.RowKit Go.Shelf Att Att.CRing
theorem bitLen_bnd : ∀ (k x : Nat), k ≤ 60 → x < 2 ^ k → Lib.bitLen x ≤ k ∧ x < 2 ^ Lib.bitLen x
  | 0, x, _, h => by
    obtain rfl : x = 0 := by simp at h; omega
    have e : Lib.bitLen 0 = 0 := by decide +kernel
    rw [e]; simp
  | k + 1, x, hk, h => by
    by_cases h0 : x = 0
    · subst h0
      have e : Lib.bitLen 0 = 0 := by decide +kernel
      rw [e]; simp
    · rw [Nat.pow_succ] at h
      obtain ⟨h1, h2⟩ := bitLen_bnd k (x / 2) (by omega) (by omega)
      have hb : 2 ^ k ≤ 2 ^ 60 := Nat.pow_le_pow_right (by omega) (by omega)
      rw [Lib.bitLen_half x h0 (by omega)]
      refine ⟨by omega, ?_⟩
      rw [Nat.pow_add, Nat.pow_one]
      omega
theorem n_len (x : Nat) (hx : x < 65536) (w : World) :
    Calls Tryd.prog 40 #[.int .u64 x] w fun e w' => (∃ m : Nat, e = .returned (.int .i64 m) ∧ m ≤ 16 ∧ x < 2 ^ m) ∧ w = w' := by
  have h := Any.bits_Len Tryd.lays125 (x : Int) w (by omega) (by omega)
  have e : Tryd.lays125_ren.f 125 = 40 := by kernel_rfl
  rw [e] at h
  refine h.mono ?_
  rintro e' w' ⟨rfl, rfl⟩
  rw [Int.toNat_natCast]
  obtain ⟨h1, h2⟩ := bitLen_bnd 16 x (by omega) hx
  exact ⟨⟨_, rfl, h1, h2⟩, rfl⟩

/- ───── copy into a row of zeros ───── -/
theorem padF_length (l : List F) (n : Nat) : (padF l n).length = n := tab_length _ _
theorem padF_cells (l : List F) {n N : Nat} (hn : l.length = n) (h : n ≤ N) : (ff (List.replicate N 0)).take 0 ++ (ff l ++ (ff (List.replicate N 0)).drop (0 + (ff l).length)) = ff (padF l N) := by
  rw [List.take_zero, List.nil_append, Nat.zero_add, ff_length, hn]
  have e : padF l N = l ++ List.replicate (N - n) 0 := by
    apply list_ext_co
    · rw [padF_length]; simp; omega
    · intro i hi
      rw [padF_length] at hi
      unfold padF
      rw [co_tab, if_pos hi, co_append]
      by_cases h1 : i < l.length
      · rw [if_pos h1]
      · rw [if_neg h1, co_big l i (by omega)]
        unfold co
        rw [List.getD_eq_getElem?_getD, List.getElem?_replicate]
        split <;> rfl
  rw [e, ff_append]
  congr 1
  unfold ff
  rw [← List.map_drop, List.drop_replicate]
theorem run_cpF {w : World} {ty : TypeId} {g N n c : Nat} {A : Option Addr} {l : List F} (hb : BF w g (List.replicate N 0)) (hl : SF w A n c l) (hN : n ≤ N) :
    ∃ w', (Builtin.copy_ #[22, 22] ty #[.slice (some ⟨g, 0, none⟩) N N, .slice A n c]).run Tryd.prog w = .ok (goInt n) w' ∧ BF w' g (padF l N) ∧ w.grownBy w' (some g) := by
  have hsz : (Tryd.prog.info? 34).map (·.size) = some 1 := by
    have h := u64Info
    cases hh : Tryd.prog.info? 34 with
    | none => rw [hh] at h; cases h
    | some i =>
      rw [hh] at h
      simp only [Option.map_some, Option.some.injEq, Prod.mk.injEq] at h ⊢
      exact h.2.1
  rcases Nat.eq_zero_or_pos n with h0 | h0
  · subst h0
    have hl0 : l = [] := List.eq_nil_of_length_eq_zero hl.len
    subst hl0
    have e : padF ([] : List F) N = List.replicate N 0 := by
      unfold padF tab
      apply List.ext_getElem?
      intro i
      by_cases hi : i < N
      · rw [List.getElem?_map, List.getElem?_range hi, List.getElem?_replicate, if_pos hi]
        simp [co_nil]
      · rw [List.getElem?_eq_none (by simp; omega), List.getElem?_eq_none (by simp; omega)]
    exact ⟨w, run_copy_none (P := Tryd.prog) w 22 22 ty 34 _ _ N N 0 c Tryd.underlying22 hsz (by simp), by rw [e]; exact hb, World.grownBy.refl w _⟩
  · obtain ⟨b, o, rfl, hbl, hc⟩ := hl.cells h0
    have h := run_copy_row (P := Tryd.prog) w 22 22 ty 34 g 0 N N ⟨b, o, none⟩ n c _ _ (ff l) Tryd.underlying22 hsz hb (by rw [ff_length, hl.len]; exact (Nat.min_eq_left hN).symm) (by
      intro j v hv
      have hj : j < l.length := by rw [← ff_length]; exact (List.getElem?_eq_some_iff.1 hv).1
      have hx : l[j]? = some l[j] := List.getElem?_eq_getElem hj
      rw [ff_get hx] at hv
      cases hv
      have hadd : (⟨b, o, none⟩ : Addr).add j = ⟨b, o + j, none⟩ := by unfold Addr.add; split <;> simp_all
      rw [hadd]
      exact hc _ _ hx) (by simp [ff_length, hl.len]; omega) (ff_one l)
    have e := padF_cells l hl.len hN
    have e2 : ((ff (List.replicate N 0)).toArray.toList.take 0 ++ ff l ++ (ff (List.replicate N 0)).toArray.toList.drop (0 + (ff l).length)).toArray = (ff (padF l N)).toArray := by
      rw [← e, List.append_assoc]
    rw [e2, ff_length, hl.len] at h
    exact ⟨_, h, setRow_heap w g _ _ _ _ hb, ⟨rfl, rfl, rfl, by simp [World.setRow], fun k hk hne => setRow_other w g k _ (fun h => hne (by rw [h]))⟩⟩
/- ───── powers of two ───── -/
theorem bits_and_i64_63 (a b : Nat) (ha : a < 9223372036854775808) (hb : b < 9223372036854775808) : bits .and .i64 (a : Int) (b : Int) = ((a &&& b : Nat) : Int) := by
  have hx : a &&& b < 2 ^ 63 := Nat.and_lt_two_pow _ (by omega)
  have h1 : (BitVec.ofInt 64 (a : Int)).toNat = a := by
    rw [BitVec.ofInt_natCast, BitVec.toNat_ofNat]; exact Nat.mod_eq_of_lt (by omega)
  have h2 : (BitVec.ofInt 64 (b : Int)).toNat = b := by
    rw [BitVec.ofInt_natCast, BitVec.toNat_ofNat]; exact Nat.mod_eq_of_lt (by omega)
  show IntKind.i64.wrap ((BitVec.ofInt 64 (a : Int) &&& BitVec.ofInt 64 (b : Int)).toNat : Int) = _
  rw [BitVec.toNat_and, h1, h2]
  exact IntWalk.i64_in _ (by omega)
open Classical in
theorem n_pow2L (n : Nat) (h0 : 0 < n) (hn : n < 9223372036854775808) (w : World) :
    Calls Tryd.prog 39 #[.int .i64 n] w fun e w' => e = .returned (.bool (decide (∃ k, n = 2 ^ k))) ∧ ∃ g, w' = gr w g := by
  have e : (bits .and .i64 (n : Int) ((n : Int) - 1) == 0) = decide (∃ k, n = 2 ^ k) := by
    rw [show (n : Int) - 1 = ((n - 1 : Nat) : Int) from by omega, bits_and_i64_63 n (n - 1) hn (by omega)]
    rw [Bool.eq_iff_iff, beq_iff_eq, decide_eq_true_eq, ← and_pred n h0]
    omega
  replace e := Lib.hid e
  go_enter Tryd.func39, Tryd.ntmps39
  go_wp2_with fail
  go_ret
  exact ⟨by rw [← e.out]; rfl, Gn.refl w⟩
end Go.Proofs.YtjgdbfhpjjmjkaaDoor
