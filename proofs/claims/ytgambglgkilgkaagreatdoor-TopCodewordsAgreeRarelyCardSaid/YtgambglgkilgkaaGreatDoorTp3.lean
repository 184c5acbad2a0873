/- The query parser on one fixed text: accept. -/
import Derived.Test.YtgambglgkilgkaaGreatDoorTp2
import Derived.BigRegion
import Derived.Deep.RegionWith
namespace Go.Proofs.YtgambglgkilgkaaGreatDoor
open Go.RowKit Go.ChangeMaps
theorem Kb.drew (b : Nat) (w : World) : Kb b w w.drew := ⟨rfl, rfl, rfl, Nat.le_refl _, fun _ _ _ => rfl⟩
set_option maxRecDepth 100000 in
set_option maxHeartbeats 4000000 in
theorem q_acc_yes (b p q k : Nat) (T : ByteArray) (w : World) (h : PB w b p) (hq : q + T.size ≤ 29) (hp : ∀ w, PB w b p → Calls Tryz.prog 20 #[.pointer (some ⟨b, 0, none⟩)] w fun e w' => e = .returned (.agg #[.int .i64 k, .string T]) ∧ PB w' b q ∧ Kb b w w') :
    Calls Tryz.prog 37 #[.pointer (some ⟨b, 0, none⟩), .agg #[.int .i64 k, .string T]] w fun e w' => e = .returned (.bool true) ∧ PB w' b (q + T.size) ∧ Kb b w w' := by
  have hne : b ≠ w.heap.size := Nat.ne_of_lt h.lt
  obtain ⟨N, hN⟩ : ∃ N, N = q + T.size := ⟨_, rfl⟩
  have hN2 : (q : Int) + (T.size : Int) = (N : Int) := by omega
  rw [← hN] at hq ⊢
  have hN3 : IntKind.i64.wrap (N : Int) = (N : Int) := IntWalk.i64_in _ (by omega)
  clear hN
  go_enter Tryz.func37, Tryz.ntmps37
  go_wp2_with fail
  have g0 := Gn.al (w := w) (.cells #[.int .i64 k, .string T] 63)
  have hr := hnew w (.cells #[.int .i64 k, .string T] 63)
  have hk : Kb b w _ := Kb.of g0
  replace h := h.up g0
  clear g0
  generalize w.alloc (.cells #[.int .i64 k, .string T] 63) = w0 at *
  generalize ebr : w.heap.size = br at *
  replace ebr := Lib.hid ebr
  have c0 := h.s; have c1 := h.p; have c3 := h.e; have lt := h.lt
  have r0 := obj_cell hr 0 rfl; have r1 := obj_cell hr 1 rfl; have rz := blk_lt hr
  go_wp2_with fail
  go_region_with (go_at_call 20; refine (hp _ (by exact h)).mono ?_; rintro e w1 ⟨rfl, h1, k1⟩; have hr1 := Kb.block k1 hr (Ne.symm hne); have s0 := obj_cell hr1 0 rfl; have s1 := obj_cell hr1 1 rfl)
  all_goals
    replace hk := hk.trans ((Kb.drew b w0).trans k1)
    clear hr h s0 s1 k1 c0 c1 c3 lt r0 r1 rz
    have c1 := h1.p; have lt := h1.lt; have f1 := h1.fz 1
    have r0 := obj_cell hr1 0 rfl; have r1 := obj_cell hr1 1 rfl; have rz := blk_lt hr1
    go_wp2_with fail
    go_region
    all_goals
      go_wp2_with fail
      go_ret
      exact ⟨rfl, h1.set N, (hk.trans (Kb.set w1 1 (.int .i64 N))).trans (Kb.drew _ _)⟩
set_option maxRecDepth 100000 in
set_option maxHeartbeats 4000000 in
theorem q_acc_no (b p q : Nat) (T T' : ByteArray) (w : World) (h : PB w b p) (hT : T.toList ≠ T'.toList) (hp : ∀ w, PB w b p → Calls Tryz.prog 20 #[.pointer (some ⟨b, 0, none⟩)] w fun e w' => e = .returned (.agg #[.int .i64 1, .string T]) ∧ PB w' b q ∧ Kb b w w') :
    Calls Tryz.prog 37 #[.pointer (some ⟨b, 0, none⟩), .agg #[.int .i64 1, .string T']] w fun e w' => e = .returned (.bool false) ∧ PB w' b q ∧ Kb b w w' := by
  have hne : b ≠ w.heap.size := Nat.ne_of_lt h.lt
  go_enter Tryz.func37, Tryz.ntmps37
  go_wp2_with fail
  have g0 := Gn.al (w := w) (.cells #[.int .i64 1, .string T'] 63)
  have hr := hnew w (.cells #[.int .i64 1, .string T'] 63)
  have hk : Kb b w _ := Kb.of g0
  replace h := h.up g0
  clear g0
  generalize w.alloc (.cells #[.int .i64 1, .string T'] 63) = w0 at *
  generalize ebr : w.heap.size = br at *
  replace ebr := Lib.hid ebr
  have c0 := h.s; have c1 := h.p; have c3 := h.e; have lt := h.lt
  have r0 := obj_cell hr 0 rfl; have r1 := obj_cell hr 1 rfl; have rz := blk_lt hr
  go_wp2_with fail
  go_region_with (go_at_call 20; refine (hp _ (by exact h)).mono ?_; rintro e w1 ⟨rfl, h1, k1⟩; have hr1 := Kb.block k1 hr (Ne.symm hne); have s0 := obj_cell hr1 0 rfl; have s1 := obj_cell hr1 1 rfl)
  all_goals
    replace hk := hk.trans ((Kb.drew b w0).trans k1)
    clear hr h s0 s1 k1 c0 c1 c3 lt r0 r1 rz
    go_wp2_with fail
    go_ret
    exact ⟨rfl, h1, hk⟩
set_option maxRecDepth 100000 in
set_option maxHeartbeats 4000000 in
theorem q_acc_end (b p q : Nat) (T T' : ByteArray) (w : World) (h : PB w b p) (hp : ∀ w, PB w b p → Calls Tryz.prog 20 #[.pointer (some ⟨b, 0, none⟩)] w fun e w' => e = .returned (.agg #[.int .i64 0, .string T]) ∧ PB w' b q ∧ Kb b w w') :
    Calls Tryz.prog 37 #[.pointer (some ⟨b, 0, none⟩), .agg #[.int .i64 1, .string T']] w fun e w' => e = .returned (.bool false) ∧ PB w' b q ∧ Kb b w w' := by
  have hne : b ≠ w.heap.size := Nat.ne_of_lt h.lt
  go_enter Tryz.func37, Tryz.ntmps37
  go_wp2_with fail
  have g0 := Gn.al (w := w) (.cells #[.int .i64 1, .string T'] 63)
  have hr := hnew w (.cells #[.int .i64 1, .string T'] 63)
  have hk : Kb b w _ := Kb.of g0
  replace h := h.up g0
  clear g0
  generalize w.alloc (.cells #[.int .i64 1, .string T'] 63) = w0 at *
  generalize ebr : w.heap.size = br at *
  replace ebr := Lib.hid ebr
  have c0 := h.s; have c1 := h.p; have c3 := h.e; have lt := h.lt
  have r0 := obj_cell hr 0 rfl; have r1 := obj_cell hr 1 rfl; have rz := blk_lt hr
  go_wp2_with fail
  go_region_with (go_at_call 20; refine (hp _ (by exact h)).mono ?_; rintro e w1 ⟨rfl, h1, k1⟩; have hr1 := Kb.block k1 hr (Ne.symm hne); have s0 := obj_cell hr1 0 rfl; have s1 := obj_cell hr1 1 rfl)
  all_goals
    replace hk := hk.trans ((Kb.drew b w0).trans k1)
    clear hr h s0 s1 k1 c0 c1 c3 lt r0 r1 rz
    go_wp2_with fail
    go_ret
    exact ⟨rfl, h1, hk⟩
end Go.Proofs.YtgambglgkilgkaaGreatDoor
