/- The type checker on one fixed query: multiplier, power. -/
import Derived.Test.YtgambglgkilgkaaGreatDoorTk1
import Derived.Test.YtgambglgkilgkaaGreatDoorTp7
namespace Go.Proofs.YtgambglgkilgkaaGreatDoor
open Go.RowKit Go.ChangeMaps
theorem t_mul (x y z : Nat) (hx : x < 18446744073709551616) (hy : y < 18446744073709551616) (hz : x * y = z) (h : z < 4611686018427387904) (w : World) :
    Calls Tryz.prog 108 #[.int .u64 x, .int .u64 y] w fun e w' => e = .returned (.tuple #[.int .u64 0, .int .u64 z]) ∧ w = w' := by
  refine (f_mul64N x y hx hy w).mono ?_
  rintro e w' ⟨rfl, rfl⟩
  rw [hz, Nat.div_eq_of_lt (by omega), Nat.mod_eq_of_lt (by omega)]
  exact ⟨rfl, rfl⟩
theorem t_multiplier3 (w : World) : Calls Tryz.prog 101 #[.int .i64 3] w fun e w' => ∃ p o, e = .returned (.func (.func 117) #[] #[.pointer (some ⟨p, 0, none⟩), .pointer (some ⟨o, 0, none⟩)]) ∧ w'.heap[p]? = some (.cells #[.int .u64 3] 28) ∧ w'.heap[o]? = some (.cells #[.bool true] 4) ∧ w.heap.size ≤ p ∧ w.heap.size ≤ o ∧ p ≠ o ∧ Gn w w' := by
  go_enter Tryz.func101, Tryz.ntmps101
  go_wp2_with fail
  go_ret
  have ho := hnew (w.alloc (.cells #[.int .u64 3] 28)) (.cells #[.bool true] 4)
  rw [al_size] at ho
  exact ⟨_, _, rfl, Gn.block (Gn.al _) (hnew w _), ho, Nat.le_refl _, Nat.le_succ _, (Nat.succ_ne_self _).symm, (Gn.al _).trans (Gn.al _)⟩
set_option maxRecDepth 100000 in
set_option maxHeartbeats 4000000 in
theorem t_mul1 (x y z : Nat) (hx : x < 4611686018427387904) (hy : y < 4611686018427387904) (hz : x * y = z) (hl : z < 4611686018427387904) (p o : Nat) (w : World) (hp : w.heap[p]? = some (.cells #[.int .u64 x] 28)) (ho : w.heap[o]? = some (.cells #[.bool true] 4)) (hne : p ≠ o) :
    Calls Tryz.prog 117 #[.int .i64 y, .pointer (some ⟨p, 0, none⟩), .pointer (some ⟨o, 0, none⟩)] w fun e w' => e = .returned (.tuple #[.int .i64 z, .bool true]) ∧ w'.heap[p]? = some (.cells #[.int .u64 z] 28) ∧ w'.heap[o]? = some (.cells #[.bool true] 4) ∧ (∀ W, Gn W w → W.heap.size ≤ p → W.heap.size ≤ o → Gn W w') := by
  have p0 := obj_cell hp 0 rfl; have o0 := obj_cell ho 0 rfl; have lp := blk_lt hp; have lo := blk_lt ho
  have fp : w.frozen? ⟨p, 0, none⟩ = false := box_fz hp; have fo : w.frozen? ⟨o, 0, none⟩ = false := box_fz ho
  have wy : IntKind.u64.wrap (y : Int) = (y : Int) := IntWalk.u64_in _ (by omega)
  have wz : IntKind.i64.wrap (z : Int) = (z : Int) := IntWalk.i64_in _ (by omega)
  have hzl : decide ((z : Int) < 4611686018427387904) = true := by simp; omega
  go_enter Tryz.func117, Tryz.ntmps117
  go_wp2_with fail
  refine (t_mul x y z (by omega) (by omega) hz hl _).mono ?_
  rintro e w1 ⟨rfl, rfl⟩
  go_wp2_with fail
  have hp2 : ((w.setCell ⟨o, 0, none⟩ (.bool true)).setCell ⟨p, 0, none⟩ (.int .u64 z)).heap[p]? = some (.cells #[.int .u64 z] 28) := psetg ((Below.heap_setCell w ⟨o, 0, none⟩ (.bool true) p hne).trans hp) 0 (.int .u64 z)
  have ho2 : ((w.setCell ⟨o, 0, none⟩ (.bool true)).setCell ⟨p, 0, none⟩ (.int .u64 z)).heap[o]? = some (.cells #[.bool true] 4) := (Below.heap_setCell (w.setCell ⟨o, 0, none⟩ (.bool true)) ⟨p, 0, none⟩ (.int .u64 z) o (Ne.symm hne)).trans (psetg ho 0 (.bool true))
  have hG : ∀ W, Gn W w → W.heap.size ≤ p → W.heap.size ≤ o → Gn W ((w.setCell ⟨o, 0, none⟩ (.bool true)).setCell ⟨p, 0, none⟩ (.int .u64 z)) := fun W g h1 h2 => (g.set h2 _ _).set h1 _ _
  clear p0 o0 lp lo fp fo hp ho
  generalize (w.setCell ⟨o, 0, none⟩ (.bool true)).setCell ⟨p, 0, none⟩ (.int .u64 z) = w2 at *
  have p0 := obj_cell hp2 0 rfl; have o0 := obj_cell ho2 0 rfl; have lp := blk_lt hp2; have lo := blk_lt ho2
  go_region
  all_goals
    go_wp2_with fail
    go_ret2
    exact ⟨rfl, hp2, ho2, fun W g a b => (hG W g a b).trans (Gn.drew _)⟩
set_option maxRecDepth 100000 in
set_option maxHeartbeats 4000000 in
theorem t_power (w : World) : Calls Tryz.prog 84 #[.int .i64 3, .int .i64 255, .int .i64 2] w fun e w' => e = .returned (.tuple #[.int .i64 195075, .bool true]) ∧ Gn w w' := by
  go_enter Tryz.func84, Tryz.ntmps84
  go_wp2_with fail
  refine (t_multiplier3 _).mono ?_
  rintro e w1 ⟨p, o, rfl, hp, ho, h1, h2, hne, g⟩
  go_wp2_with fail
  refine (t_mul1 3 1 3 (by decide) (by decide) rfl (by decide) p o _ hp ho hne).mono ?_
  rintro e w2 ⟨rfl, hp, ho, hG⟩
  replace g := hG w g h1 h2
  clear hG
  go_wp2_with fail
  refine wp_loop_rounds 3 ?_
  rw [rounds_succ]
  go_wp2_with fail
  refine (t_mul1 3 255 765 (by decide) (by decide) rfl (by decide) p o _ hp ho hne).mono ?_
  rintro e w3 ⟨rfl, hp, ho, hG⟩
  replace g := hG w g h1 h2
  clear hG
  go_wp2_with fail
  rw [rounds_succ]
  go_wp2_with fail
  refine (t_mul1 765 255 195075 (by decide) (by decide) rfl (by decide) p o _ hp ho hne).mono ?_
  rintro e w4 ⟨rfl, hp, ho, hG⟩
  replace g := hG w g h1 h2
  clear hG
  go_wp2_with fail
  rw [rounds_succ]
  go_wp2_with fail
  go_ret2
  exact ⟨rfl, g⟩
end Go.Proofs.YtgambglgkilgkaaGreatDoor
