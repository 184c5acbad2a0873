/- The query parser on one fixed text: columns, columnMax, column. -/
import Derived.Test.YtgambglgkilgkaaGreatDoorTp3
import Derived.Test.YtgambglgkilgkaaGreatDoorTp4
namespace Go.Proofs.YtgambglgkilgkaaGreatDoor
open Go.RowKit Go.ChangeMaps
theorem q_columns (w : World) : Calls Tryz.prog 75 #[] w fun e w' => e = .returned (.slice (some ⟨w.heap.size, 0, none⟩) 4 4) ∧ w'.heap[w.heap.size]? = some (.cells #[.string ⟨#[119, 104, 111]⟩, .string ⟨#[119, 104, 101, 110]⟩, .string ⟨#[107, 105, 110, 100]⟩, .string ⟨#[118, 97, 108, 117, 101]⟩] 9) ∧ Gn w w' := by
  go_enter Tryz.func75, Tryz.ntmps75
  go_wp2_with fail
  go_ret
  exact ⟨rfl, hnew w _, Gn.al _⟩
theorem q_columnMax2 (w : World) : Calls Tryz.prog 81 #[.int .i64 2] w fun e w' => e = .returned (.int .i64 15) ∧ w = w' := by
  go_enter Tryz.func81, Tryz.ntmps81
  go_wp2_with fail
  go_ret
  exact ⟨rfl, rfl⟩
set_option maxRecDepth 100000 in
set_option maxHeartbeats 4000000 in
theorem q_column6 (b : Nat) (w : World) (h : PB w b 6) :
    Calls Tryz.prog 38 #[.pointer (some ⟨b, 0, none⟩)] w fun e w' => e = .returned (.int .i64 3) ∧ PB w' b 12 ∧ Kb b w w' := by
  have hne : b ≠ w.heap.size := Nat.ne_of_lt h.lt
  go_enter Tryz.func38, Tryz.ntmps38
  go_wp2_with fail
  refine (q_columns _).mono ?_
  rintro e w1 ⟨rfl, hc, g⟩
  have hk : Kb b w w1 := Kb.of g
  replace h := h.up g
  clear g
  generalize w.heap.size = bc at *
  go_wp2_with fail
  refine wp_loop_rounds 4 ?_
  rw [rounds_succ]
  have ci := obj_cell hc 0 rfl; have lz := blk_lt hc
  go_wp2_with fail
  clear ci lz
  refine (q_acc_no b 6 7 _ _ _ h (by decide +kernel) (q_peek6 b)).mono ?_
  rintro e w2 ⟨rfl, h, kk⟩
  replace hk := hk.trans kk; replace hc := Kb.block kk hc (Ne.symm hne); clear kk
  go_wp2_with fail
  rw [rounds_succ]
  have ci := obj_cell hc 1 rfl; have lz := blk_lt hc
  go_wp2_with fail
  clear ci lz
  refine (q_acc_no b 7 7 _ _ _ h (by decide +kernel) (q_peek7 b)).mono ?_
  rintro e w3 ⟨rfl, h, kk⟩
  replace hk := hk.trans kk; replace hc := Kb.block kk hc (Ne.symm hne); clear kk
  go_wp2_with fail
  rw [rounds_succ]
  have ci := obj_cell hc 2 rfl; have lz := blk_lt hc
  go_wp2_with fail
  clear ci lz
  refine (q_acc_no b 7 7 _ _ _ h (by decide +kernel) (q_peek7 b)).mono ?_
  rintro e w4 ⟨rfl, h, kk⟩
  replace hk := hk.trans kk; replace hc := Kb.block kk hc (Ne.symm hne); clear kk
  go_wp2_with fail
  rw [rounds_succ]
  have ci := obj_cell hc 3 rfl; have lz := blk_lt hc
  go_wp2_with fail
  clear ci lz
  refine (q_acc_yes b 7 7 1 _ _ h (by decide) (q_peek7 b)).mono ?_
  rintro e w5 ⟨rfl, h, kk⟩
  replace hk := hk.trans kk; replace hc := Kb.block kk hc (Ne.symm hne); clear kk
  go_wp2_with fail
  go_ret
  exact ⟨rfl, h, hk⟩
set_option maxRecDepth 100000 in
set_option maxHeartbeats 4000000 in
theorem q_column20 (b : Nat) (w : World) (h : PB w b 20) :
    Calls Tryz.prog 38 #[.pointer (some ⟨b, 0, none⟩)] w fun e w' => e = .returned (.int .i64 2) ∧ PB w' b 25 ∧ Kb b w w' := by
  have hne : b ≠ w.heap.size := Nat.ne_of_lt h.lt
  go_enter Tryz.func38, Tryz.ntmps38
  go_wp2_with fail
  refine (q_columns _).mono ?_
  rintro e w1 ⟨rfl, hc, g⟩
  have hk : Kb b w w1 := Kb.of g
  replace h := h.up g
  clear g
  generalize w.heap.size = bc at *
  go_wp2_with fail
  refine wp_loop_rounds 3 ?_
  rw [rounds_succ]
  have ci := obj_cell hc 0 rfl; have lz := blk_lt hc
  go_wp2_with fail
  clear ci lz
  refine (q_acc_no b 20 21 _ _ _ h (by decide +kernel) (q_peek20 b)).mono ?_
  rintro e w2 ⟨rfl, h, kk⟩
  replace hk := hk.trans kk; replace hc := Kb.block kk hc (Ne.symm hne); clear kk
  go_wp2_with fail
  rw [rounds_succ]
  have ci := obj_cell hc 1 rfl; have lz := blk_lt hc
  go_wp2_with fail
  clear ci lz
  refine (q_acc_no b 21 21 _ _ _ h (by decide +kernel) (q_peek21 b)).mono ?_
  rintro e w3 ⟨rfl, h, kk⟩
  replace hk := hk.trans kk; replace hc := Kb.block kk hc (Ne.symm hne); clear kk
  go_wp2_with fail
  rw [rounds_succ]
  have ci := obj_cell hc 2 rfl; have lz := blk_lt hc
  go_wp2_with fail
  clear ci lz
  refine (q_acc_yes b 21 21 1 _ _ h (by decide) (q_peek21 b)).mono ?_
  rintro e w4 ⟨rfl, h, kk⟩
  replace hk := hk.trans kk; replace hc := Kb.block kk hc (Ne.symm hne); clear kk
  go_wp2_with fail
  go_ret
  exact ⟨rfl, h, hk⟩
end Go.Proofs.YtgambglgkilgkaaGreatDoor
