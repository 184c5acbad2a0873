/- elements of the laws; the less of two numbers in a flow. -/
import Derived.Test.YtbfblckgcefaaaaGreatDoorRz6
namespace Go.Proofs.YtbfblckgcefaaaaGreatDoor
open Go.RowKit Att Att.CRing
theorem is_minT {ops : Array Oper} {W : World} {a : Act} {d : Nat} {x y : Operand} {k n m : Int} {ats : Array TypeId} {ty : TypeId} {pos : String} {aft : Array Edge} (hx : a.eval x = .int .i64 n) (hy : a.eval y = .int .i64 k) (hm : (if k < n then k else n) = m) :
    IsStep Tryz.prog ops W ⟨some d, .call { callee := .builtin .min, args := #[x, y], argTypes := ats }, ty, pos, aft, none⟩ a (a.put (some d) (.int .i64 m)) := by
  intro g K hK
  simp only [wpList, Region.wanted, if_true]
  left
  unfold Oper.wp execOp
  simp only [resolve, invoke, builtin, Sem.run_bind, Sem.run_pure, Result.andThen_ok, List.map_toArray, List.map_cons, List.map_nil, hx, hy, run_min_int2, hm]
  exact hK _ (Up.refl _)
set_option maxHeartbeats 1000000 in
theorem o_elements (A : Option Addr) (n c most : Nat) (l : List Int) (w : World) (hl : SW w A n c l) (hm : most ≤ 100) :
    Calls Tryz.prog 14 #[.slice A n c, .int .i64 most] w (fun e w' => ∃ v, e = .returned v ∧ OF w' w.heap.size v (redL (l.take (min n most))) ∧ Gn w w') := by
  have n1 := hl.le; have n2 := hl.small
  have l1 := Lib.hid hl.len
  obtain ⟨N, hN⟩ : ∃ N, N = min n most := ⟨_, rfl⟩
  rw [← hN]
  have hq : (n ≤ most ∧ N = n) ∨ (most < n ∧ N = most) := by omega
  clear hN
  rcases hq with ⟨h, rfl⟩ | ⟨h, rfl⟩
  all_goals
    go_enter Tryz.func14, Tryz.ntmps14
    go_wp2_with fail
    go_loopw [5, 6] (fun v i wr => ∃ k : Nat, k ≤ N ∧ i = .int .i64 k ∧ OF wr w.heap.size v (redL (l.take k)) ∧ Gn w wr) (fun _ i _ => N - (intOf i).toNat)
    case atStart => exact ⟨0, by omega, rfl, OF.empty w (Nat.le_refl _), Gn.al _⟩
    case round =>
      obtain ⟨k, hk, rfl, ho, hg⟩ := hrel
      have lk : (redL (l.take k)).length ≤ k := by rw [redL_length, List.length_take]; omega
      by_cases h1 : k < N
      · obtain ⟨b, o, z, rfl, hz, q1, q2, hz64⟩ := (hl.up hg).at_ (show k < _ by omega)
        have hst := Lib.hid (show redL (l.take (k + 1)) = redL (l.take k) ++ [int z] by
          unfold redL
          rw [List.take_add_one, hz]; simp)
        clear hz
        generalize redL (l.take k) = L at *
        have HR := r_reduce z
        generalize (int z : F) = x at *
        go_wp2_with fail
        refine (HR _).mono ?_
        rintro e w2 ⟨rfl, rfl⟩
        go_wp2_with (at_builtin; refine wpList_appF (.tmp 19) (.tmp 25) rfl (ho.up (Gn.al _)) (by have := hg.size; simp; omega) rfl ((BF.one x).sf (by simp)) (by simp; omega) ?_; intro v4 w4 ho4 hg4; have hg5 := grown_gnF (hg.trans (Gn.al _)) (ho.up (Gn.al _)) (Nat.le_refl _) hg4; clear hg4)
        exact ⟨⟨k + 1, by omega, by go_num, by rw [hst.out]; exact ho4, hg5⟩, by simp [intOf]; omega⟩
      · obtain rfl : k = N := by omega
        go_wp2_with fail
        go_ret
        exact ⟨_, rfl, ho, hg⟩
theorem x_same_true {A B : Option Addr} {n c m d : Nat} {l k : List Ext} {w : World} (hl : Sl w A n c l) (hk : Sl w B m d k) (e : l = k) :
    Calls Tryz.prog 22 #[.slice A n c, .slice B m d] w fun e w' => e = .returned (.bool true) ∧ Gn w w' := by
  subst e
  refine (p_same A B n c m d l l w hl hk).mono ?_
  rintro e w' ⟨rfl, g⟩
  exact ⟨by rw [decide_eq_true rfl], g⟩
theorem DecIs.len {n k : Nat} {u : F} {y : Nat → F} {r : List F × Int × Int} (h : DecIs n k u y r) : r.1.length ≤ k := by
  rcases h with ⟨row, hn, rfl⟩ | ⟨_, rfl⟩
  · exact Nat.le_of_eq hn.1
  · exact Nat.zero_le _
theorem min_pow (m s : Nat) : (if (2 : Int) ^ s < (2 : Int) ^ m then (2 : Int) ^ s else (2 : Int) ^ m) = ((2 ^ (min m s) : Nat) : Int) := by
  rw [cast_pow, cast_pow]
  rcases Nat.lt_or_ge s m with h | h
  · have : 2 ^ s < 2 ^ m := Nat.pow_lt_pow_right (by omega) h
    rw [if_pos (by omega), Nat.min_eq_right (by omega)]
  · have : 2 ^ m ≤ 2 ^ s := Nat.pow_le_pow_right (by omega) h
    rw [if_neg (by omega), Nat.min_eq_left h]
end Go.Proofs.YtbfblckgcefaaaaGreatDoor
