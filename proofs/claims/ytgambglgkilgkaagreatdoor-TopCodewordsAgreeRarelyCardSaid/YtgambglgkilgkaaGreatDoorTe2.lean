/- The evaluation of one fixed query: contribution. -/
import Derived.Test.YtgambglgkilgkaaGreatDoorTe1
import Derived.Test.YtgambglgkilgkaaGreatDoorTk5
namespace Go.Proofs.YtgambglgkilgkaaGreatDoor
open Go.RowKit Go.ChangeMaps
set_option maxRecDepth 100000 in
set_option maxHeartbeats 4000000 in
theorem e_add3 (f n : Nat) (k v p old new : Int) (h : IntKind.i64.wrap v = v) (hp : IntKind.i64.wrap (v * v) = p) (hn : IntKind.i64.wrap (old + p) = new) (sb qb s : Nat) (w : World)
    (hsb : w.heap[sb]? = some (.cells #[.slice (some ⟨s, 0, none⟩) 1 1] 44)) (hqb : w.heap[qb]? = some (.cells #[.int .i64 3, .int .i64 3, .int .i64 2, .slice (some ⟨f, 0, none⟩) 1 n] 35)) (hs : w.heap[s]? = some (.cells #[.int .i64 old] 2)) :
    Calls Tryz.prog 59 #[.agg #[.int .i64 0, .int .i64 0, .int .i64 k, .int .i64 v], .pointer (some ⟨sb, 0, none⟩), .pointer (some ⟨qb, 0, none⟩)] w
      fun e w' => e = .returned (.tuple #[]) ∧ w'.heap[s]? = some (.cells #[.int .i64 new] 2) ∧ Kb s w w' := by
  go_enter Tryz.func59, Tryz.ntmps59
  go_wp2_with fail
  have hr := hnew w (.cells #[.int .i64 0, .int .i64 0, .int .i64 k, .int .i64 v] 39)
  have g0 := Gn.al (w := w) (.cells #[.int .i64 0, .int .i64 0, .int .i64 k, .int .i64 v] 39)
  have hne : s ≠ w.heap.size := Nat.ne_of_lt (blk_lt hs)
  have hk : Kb s w _ := Kb.of g0
  replace hsb := Gn.block g0 hsb; replace hqb := Gn.block g0 hqb; replace hs := Gn.block g0 hs
  clear g0
  generalize w.alloc (.cells #[.int .i64 0, .int .i64 0, .int .i64 k, .int .i64 v] 39) = w1 at *
  generalize ebr : w.heap.size = br at *
  replace ebr := Lib.hid ebr
  have S0 := fun g => obj_cell (Gn.block (⟨g, rfl⟩ : Gn w1 (gr w1 g)) hsb) 0 rfl
  have S1 := fun g => obj_cell (Gn.block (⟨g, rfl⟩ : Gn w1 (gr w1 g)) hs) 0 rfl
  have Q1 := fun g => obj_cell (Gn.block (⟨g, rfl⟩ : Gn w1 (gr w1 g)) hqb) 1 rfl
  have Q2 := fun g => obj_cell (Gn.block (⟨g, rfl⟩ : Gn w1 (gr w1 g)) hqb) 2 rfl
  have R0 := fun g => obj_cell (Gn.block (⟨g, rfl⟩ : Gn w1 (gr w1 g)) hr) 0 rfl
  have R1 := fun g => obj_cell (Gn.block (⟨g, rfl⟩ : Gn w1 (gr w1 g)) hr) 1 rfl
  have R2 := fun g => obj_cell (Gn.block (⟨g, rfl⟩ : Gn w1 (gr w1 g)) hr) 2 rfl
  have R3 := fun g => obj_cell (Gn.block (⟨g, rfl⟩ : Gn w1 (gr w1 g)) hr) 3 rfl
  try simp only [List.append_eq, List.cons_append, List.nil_append]
  refine Fk.wp_region_flow 11 (by kernel_rfl) (by kernel_rfl) ?_
  refine Fk.flow_one rfl (freeB_spec (by kernel_rfl)) ?_
  go_big_quiet_step (fail)
  refine wpQuiet_nil ?_
  refine Fk.flow_one rfl (freeB_spec (by kernel_rfl)) ?_
  go_big_quiet_step (fail)
  refine wpQuiet_nil ?_
  refine Fk.flow_one rfl (freeB_spec (by kernel_rfl)) ?_
  go_big_quiet_step (fail)
  refine wpQuiet_nil ?_
  refine Fk.flow_one rfl (freeB_spec (by kernel_rfl)) ?_
  go_big_quiet_step (fail)
  refine wpQuiet_nil ?_
  refine Fk.flow_one rfl (freeB_spec (by kernel_rfl)) ?_
  go_big_quiet_step (fail)
  refine wpQuiet_nil ?_
  refine Fk.flow_one rfl (freeB_spec (by kernel_rfl)) ?_
  go_big_quiet_step (fail)
  refine wpQuiet_nil ?_
  apply Fk.flow_is
  · exact freeB_spec (by kernel_rfl)
  · intro g K hK
    go_wp2_with fail
    refine (e_column k v _).mono ?_
    rintro e w' ⟨rfl, kk⟩
    go_wp2_with fail
    exact hK _ kk.below
  · rfl
  refine Fk.flow_one rfl (freeB_spec (by kernel_rfl)) ?_
  go_big_quiet_step (fail)
  refine wpQuiet_nil ?_
  refine Fk.flow_one rfl (freeB_spec (by kernel_rfl)) ?_
  go_big_quiet_step (fail)
  refine wpQuiet_nil ?_
  apply Fk.flow_is
  · exact freeB_spec (by kernel_rfl)
  · intro g K hK
    go_wp2_with fail
    refine (e_power v p h hp _).mono ?_
    rintro e w' ⟨rfl, kk⟩
    go_wp2_with fail
    exact hK _ kk.below
  · rfl
  refine Fk.flow_one rfl (freeB_spec (by kernel_rfl)) ?_
  go_big_quiet_step (fail)
  refine wpQuiet_nil ?_
  intro V N X hΓ hdis g hX
  clear hΓ hdis hX S0 S1 Q1 Q2 R0 R1 R2 R3
  have kg : Gn w1 (gr w1 g) := ⟨g, rfl⟩
  replace hk := hk.gn kg; replace hs := Gn.block kg hs
  clear kg hsb hqb hr
  generalize gr w1 g = w2 at *
  conv => arg 5; simp only [fill, Act.put, List.setIfInBounds_toArray, List.set_cons_succ, List.set_cons_zero]
  have s0 := obj_cell hs 0 rfl; have ls := blk_lt hs; have fs : w2.frozen? ⟨s, 0, none⟩ = false := box_fz hs
  go_wp2_with fail
  go_end0
  exact ⟨rfl, psetg hs 0 (.int .i64 new), hk.trans (Kb.set w2 0 (.int .i64 new))⟩
set_option maxRecDepth 100000 in
set_option maxHeartbeats 4000000 in
theorem e_contribution (f n s : Nat) (w : World) :
    Calls Tryz.prog 27 #[.agg #[.int .i64 3, .int .i64 3, .int .i64 2, .slice (some ⟨f, 0, none⟩) 1 n], .int .i64 0, .slice (some ⟨s, 0, none⟩) 1 1] w
      fun e w' => ∃ sb qb, e = .returned (.func (.func 59) #[] #[.pointer (some ⟨sb, 0, none⟩), .pointer (some ⟨qb, 0, none⟩)]) ∧
        w'.heap[sb]? = some (.cells #[.slice (some ⟨s, 0, none⟩) 1 1] 44) ∧ w'.heap[qb]? = some (.cells #[.int .i64 3, .int .i64 3, .int .i64 2, .slice (some ⟨f, 0, none⟩) 1 n] 35) ∧ w.heap.size ≤ sb ∧ w.heap.size ≤ qb ∧ Gn w w' := by
  go_enter Tryz.func27, Tryz.ntmps27
  go_wp2_with fail
  go_ret
  have h1 := Gn.al (w := w) (.cells #[.int .i64 3, .int .i64 3, .int .i64 2, .slice (some ⟨f, 0, none⟩) 1 n] 35)
  have h2 := Gn.al (w := w.alloc (.cells #[.int .i64 3, .int .i64 3, .int .i64 2, .slice (some ⟨f, 0, none⟩) 1 n] 35)) (.cells #[.int .i64 0] 3)
  have h3 := Gn.al (w := (w.alloc (.cells #[.int .i64 3, .int .i64 3, .int .i64 2, .slice (some ⟨f, 0, none⟩) 1 n] 35)).alloc (.cells #[.int .i64 0] 3)) (.cells #[.slice (some ⟨s, 0, none⟩) 1 1] 44)
  have hs := hnew ((w.alloc (.cells #[.int .i64 3, .int .i64 3, .int .i64 2, .slice (some ⟨f, 0, none⟩) 1 n] 35)).alloc (.cells #[.int .i64 0] 3)) (.cells #[.slice (some ⟨s, 0, none⟩) 1 1] 44)
  rw [al_size, al_size] at hs
  exact ⟨_, _, rfl, hs, Gn.block (h2.trans h3) (hnew w (.cells #[.int .i64 3, .int .i64 3, .int .i64 2, .slice (some ⟨f, 0, none⟩) 1 n] 35)), by omega, Nat.le_refl _, (h1.trans h2).trans h3⟩
end Go.Proofs.YtgambglgkilgkaaGreatDoor
