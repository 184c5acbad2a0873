/- The walks of the reference of ntt: Log, Made. -/
import Derived.Test.YtjgdbfhpjjmjkaaDoorNw4
namespace Go.Proofs.YtjgdbfhpjjmjkaaDoor
open Go.RowKit Att Att.CRing
/-- what Log answers -/
def LogIs (n r : Int) : Prop := (∃ k : Nat, k ≤ 16 ∧ n = (2 : Int) ^ k ∧ r = (k : Int)) ∨ (r = -1 ∧ ∀ k : Nat, k ≤ 16 → n ≠ (2 : Int) ^ k)
theorem cast_pow (n : Nat) : ((2 : Int) ^ n) = ((2 ^ n : Nat) : Int) := by rw [Int.natCast_pow]; rfl
theorem wrap_pow {k : Nat} (hk : k ≤ 20) : IntKind.i64.wrap ((2 : Int) ^ k) = (2 : Int) ^ k := by
  have : 2 ^ k ≤ 1048576 := Nat.le_trans (Nat.pow_le_pow_right (n := 2) (by omega) hk) (by decide)
  rw [cast_pow]
  generalize 2 ^ k = m at this ⊢
  exact IntWalk.i64_in _ (by omega)
set_option maxHeartbeats 1000000 in
theorem x_log (n : Int) (w : World) :
    Calls Tryd.prog 28 #[.int .i64 n] w fun e w' => (∃ r, e = .returned (.int .i64 r) ∧ LogIs n r) ∧ ∃ g, w' = gr w g := by
  go_enter Tryd.func28, Tryd.ntmps28
  go_wp2_with fail
  go_loopw [3] (fun v wr => ∃ j : Nat, j ≤ 17 ∧ v = .int .i64 j ∧ Hid (∀ i : Nat, i < j → n ≠ (2 : Int) ^ i) ∧ Gn w wr) (fun v _ => 17 - (intOf v).toNat)
  case atStart => exact ⟨0, by omega, rfl, Lib.hid (fun i hi => by omega), Gn.refl w⟩
  case round =>
    obtain ⟨j, hj, rfl, hno, hg⟩ := hrel
    by_cases h1 : j ≤ 16
    · have hw := wrap_pow (k := j) (by omega)
      by_cases he : n = (2 : Int) ^ j
      · have hr : Hid (LogIs n j) := Lib.hid (.inl ⟨j, h1, he, rfl⟩)
        have hb : (n == (2 : Int) ^ j) = true := by rw [he]; exact beq_self_eq_true _
        clear he
        go_wp2_with fail
        go_ret
        exact ⟨⟨_, rfl, hr.out⟩, hg⟩
      · have hb : (n == (2 : Int) ^ j) = false := by rw [beq_eq_false_iff_ne]; exact he
        have hno2 : Hid (∀ i : Nat, i < j + 1 → n ≠ (2 : Int) ^ i) := Lib.hid (fun i hi => by
          rcases Nat.lt_or_ge i j with h | h
          · exact hno.out i h
          · obtain rfl : i = j := by omega
            exact he)
        clear he
        go_wp2_with fail
        exact ⟨⟨j + 1, by omega, by go_num, hno2, hg⟩, by simp [intOf]; omega⟩
    · have hr : Hid (LogIs n (-1)) := Lib.hid (.inr ⟨rfl, fun k hk => hno.out k (by omega)⟩)
      go_wp2_with fail
      go_ret
      exact ⟨⟨_, rfl, hr.out⟩, hg⟩
/-- the elements that arbitrary numbers stand for -/
def redL (l : List Int) : List F := l.map int
theorem redL_length (l : List Int) : (redL l).length = l.length := by simp [redL]
set_option maxHeartbeats 1000000 in
theorem r_made1 (A : Option Addr) (n c : Nat) (l : List Int) (w : World) (hl : SW w A n c l) (hn : n ≤ 1000000) :
    Calls Tryd.prog 13 #[.slice A n c] w (fun e w' => ∃ v, e = .returned v ∧ OF w' w.heap.size v (redL l) ∧ Gn w w') := by
  have n1 := hl.le; have n2 := hl.small
  have l1 := Lib.hid hl.len
  go_enter Tryd.func13, Tryd.ntmps13
  go_wp2_with fail
  go_loopw [3, 4] (fun v i wr => ∃ k : Nat, k ≤ n ∧ i = .int .i64 k ∧ OF wr w.heap.size v (redL (l.take k)) ∧ Gn w wr) (fun _ i _ => n - (intOf i).toNat)
  case atStart => exact ⟨0, by omega, rfl, OF.empty w (Nat.le_refl _), Gn.al _⟩
  case round =>
    obtain ⟨k, hk, rfl, ho, hg⟩ := hrel
    have lk : (redL (l.take k)).length ≤ k := by rw [redL_length, List.length_take]; omega
    by_cases h1 : k < n
    · obtain ⟨b, o, z, rfl, hz, q1, q2, hz64⟩ := (hl.up hg).at_ h1
      have hst := Lib.hid (show redL (l.take (k + 1)) = redL (l.take k) ++ [int z] by
        unfold redL
        rw [List.take_add_one, hz]; simp)
      clear hz
      generalize redL (l.take k) = L at *
      have HR := r_reduce z
      generalize (int z : F) = x at *
      go_wp2_with fail
      refine (HR _).mono ?_
      rintro e w2 ⟨rfl, rfl⟩
      go_wp2_with (at_builtin; refine wpList_appF (.tmp 12) (.tmp 18) rfl (ho.up (Gn.al _)) (by have := hg.size; simp; omega) rfl ((BF.one x).sf (by simp)) (by simp; omega) ?_; intro v4 w4 ho4 hg4; have hg5 := grown_gnF (hg.trans (Gn.al _)) (ho.up (Gn.al _)) (Nat.le_refl _) hg4; clear hg4)
      exact ⟨⟨k + 1, by omega, by go_num, by rw [hst.out]; exact ho4, hg5⟩, by simp [intOf]; omega⟩
    · obtain rfl : k = n := by omega
      have he := Lib.hid (show l.take k = l from List.take_of_length_le (by rw [l1.out]; omega))
      rw [he.out] at ho
      go_wp2_with fail
      go_ret
      exact ⟨_, rfl, ho, hg⟩
end Go.Proofs.YtjgdbfhpjjmjkaaDoor
