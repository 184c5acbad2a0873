/- The query parser on one fixed text: number, cond. -/
import Derived.Test.YtgambglgkilgkaaGreatDoorTp5
import Derived.Shelf.Strconv.Atoi
import Derived.Shelf.Lay
import Derived.Ground.NamesProg
import Derived.Lib.AtoiErrMem
namespace Go.Proofs
open Go.Shelf Go.RowKit
shelf_lay Lays.n172 Nm 172 at Tryz as Tryz.lays172
end Go.Proofs
namespace Go.Proofs.YtgambglgkilgkaaGreatDoor
open Go.RowKit Go.ChangeMaps
theorem l_atoi (s : ByteArray) (n : Int) (hl : s.size ≤ 18) (h : Lib.atoi s.data.toList = some n) (w : World) :
    Calls Tryz.prog 76 #[.string s] w fun e w' => e = .returned (.tuple #[.int .i64 n, .nilIface]) ∧ Gn w w' :=
  (Any.strconv_Atoi Tryz.lays172 s n hl h w).mono fun _ _ ⟨e, t, k⟩ => ⟨e, by subst k; exact Gn.of (Lib.bytesWorld_below _ _ _)⟩
set_option maxRecDepth 100000 in
set_option maxHeartbeats 4000000 in
theorem q_number12 (b : Nat) (w : World) (h : PB w b 12) :
    Calls Tryz.prog 39 #[.pointer (some ⟨b, 0, none⟩), .int .i64 1, .int .i64 6] w fun e w' => e = .returned (.int .i64 2) ∧ PB w' b 14 ∧ Kb b w w' := by
  go_enter Tryz.func39, Tryz.ntmps39
  go_wp2_with fail
  refine (q_peek12 b _ h).mono ?_
  rintro e w1 ⟨rfl, h1, hk⟩
  have hne : b ≠ w1.heap.size := Nat.ne_of_lt h1.lt
  go_wp2_with fail
  have g0 := Gn.al (w := w1) (.cells #[.int .i64 2, .string ⟨#[50]⟩] 63)
  have hr := hnew w1 (.cells #[.int .i64 2, .string ⟨#[50]⟩] 63)
  replace h1 := h1.up g0; replace hk := hk.gn g0
  clear g0
  generalize w1.alloc (.cells #[.int .i64 2, .string ⟨#[50]⟩] 63) = w2 at *
  generalize w1.heap.size = br at *
  refine (l_atoi _ 2 (by decide) (by decide +kernel) _).mono ?_
  rintro e w3 ⟨rfl, g⟩
  replace h1 := h1.up g; replace hk := hk.gn g; replace hr := Gn.block g hr
  clear g
  have c1 := h1.p; have c3 := h1.e; have lt := h1.lt; have f1 := h1.fz 1
  have r0 := obj_cell hr 0 rfl; have r1 := obj_cell hr 1 rfl; have rz := blk_lt hr
  go_wp2_with fail
  go_region
  all_goals
    go_wp2_with fail
    go_ret
    exact ⟨rfl, h1.set 14, (hk.trans (Kb.set w3 1 (.int .i64 14))).trans (Kb.drew _ _)⟩
set_option maxRecDepth 100000 in
set_option maxHeartbeats 4000000 in
theorem q_number27 (b : Nat) (w : World) (h : PB w b 27) :
    Calls Tryz.prog 39 #[.pointer (some ⟨b, 0, none⟩), .int .i64 0, .int .i64 15] w fun e w' => e = .returned (.int .i64 5) ∧ PB w' b 29 ∧ Kb b w w' := by
  go_enter Tryz.func39, Tryz.ntmps39
  go_wp2_with fail
  refine (q_peek27 b _ h).mono ?_
  rintro e w1 ⟨rfl, h1, hk⟩
  have hne : b ≠ w1.heap.size := Nat.ne_of_lt h1.lt
  go_wp2_with fail
  have g0 := Gn.al (w := w1) (.cells #[.int .i64 2, .string ⟨#[53]⟩] 63)
  have hr := hnew w1 (.cells #[.int .i64 2, .string ⟨#[53]⟩] 63)
  replace h1 := h1.up g0; replace hk := hk.gn g0
  clear g0
  generalize w1.alloc (.cells #[.int .i64 2, .string ⟨#[53]⟩] 63) = w2 at *
  generalize w1.heap.size = br at *
  refine (l_atoi _ 5 (by decide) (by decide +kernel) _).mono ?_
  rintro e w3 ⟨rfl, g⟩
  replace h1 := h1.up g; replace hk := hk.gn g; replace hr := Gn.block g hr
  clear g
  have c1 := h1.p; have c3 := h1.e; have lt := h1.lt; have f1 := h1.fz 1
  have r0 := obj_cell hr 0 rfl; have r1 := obj_cell hr 1 rfl; have rz := blk_lt hr
  go_wp2_with fail
  go_region
  all_goals
    go_wp2_with fail
    go_ret
    exact ⟨rfl, h1.set 29, (hk.trans (Kb.set w3 1 (.int .i64 29))).trans (Kb.drew _ _)⟩
end Go.Proofs.YtgambglgkilgkaaGreatDoor
