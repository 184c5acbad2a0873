/- The evaluation of one fixed query: the readings of the stream. -/
import Derived.Test.YtgambglgkilgkaaGreatDoorTe1
import Derived.Test.YtgambglgkilgkaaGreatDoorGq
namespace Go.Proofs.YtgambglgkilgkaaGreatDoor
open Go.RowKit Go.ChangeMaps
attribute [local go_sem] Oper.semAt_some
/-- the readings -/
def rk : Nat → Int
  | 1 => 4
  | _ => 5
def rv : Nat → Int
  | 0 => 3
  | 1 => 9
  | _ => 4
/-- the stream: its box, its readings, its flags -/
structure Lv (B L G : Nat) (W : World) : Prop where
  b : W.heap[B]? = some (.cells #[.slice (some ⟨L, 0, none⟩) 3 3, .slice (some ⟨G, 0, none⟩) 3 3] 43)
  l : W.heap[L]? = some (.cells #[.int .i64 0, .int .i64 0, .int .i64 5, .int .i64 3, .int .i64 0, .int .i64 0, .int .i64 4, .int .i64 9, .int .i64 0, .int .i64 0, .int .i64 5, .int .i64 4] 39)
  g : W.heap[G]? = some (.cells #[.bool false, .bool false, .bool false] 4)
theorem Lv.up {B L G : Nat} {W W' : World} (h : Lv B L G W) (k : Gn W W') : Lv B L G W' := ⟨k.block h.b, k.block h.l, k.block h.g⟩
set_option maxRecDepth 100000 in
set_option maxHeartbeats 4000000 in
theorem live_iter (B L G : Nat) : IterOk Tryz.prog 91 #[.pointer (some ⟨B, 0, none⟩)] (fun k => #[.agg #[.int .i64 0, .int .i64 0, .int .i64 (rk k), .int .i64 (rv k)]]) 3 (Lv B L G) Gn (fun W W' => Lv B L G W → Lv B L G W') := by
  intro m r J hS hY W hH hJ
  refine callsIn_of_wp Tryz.func91 rfl trivial ?_ rfl
  simp only [Tryz.ntmps91, List.size_toArray, List.length_cons, List.length_nil, Nat.reduceAdd, Nat.reduceSub, Array.replicate_succ, Array.replicate_zero, List.push_toArray, List.append_toArray, List.nil_append, List.cons_append]
  have b0 := obj_cell hH.b 0 rfl; have b1 := obj_cell hH.b 1 rfl; have bl := blk_lt hH.b
  gi_wp2
  clear b0 b1 bl
  refine wpIn_loop_rounds 4 ?_
  rw [roundsIn_succ]
  have b0 := obj_cell hH.b 0 rfl; have b1 := obj_cell hH.b 1 rfl; have bl := blk_lt hH.b
  have l0 := obj_cell hH.l 0 rfl; have l1 := obj_cell hH.l 1 rfl; have l2 := obj_cell hH.l 2 rfl; have l3 := obj_cell hH.l 3 rfl; have ll := blk_lt hH.l
  have g0 := obj_cell hH.g 0 rfl; have gl := blk_lt hH.g
  obtain ⟨fn, tt, asg, bdy, hy, hr⟩ := hY 0 (W.alloc (.cells #[.int .i64 0, .int .i64 0, .int .i64 5, .int .i64 3] 39)) (by omega) (hS 0 W _ hJ (Gn.al _))
  simp only [rk, rv] at hy
  gi_wp2
  clear b0 b1 bl l0 l1 l2 l3 ll g0 gl hy
  refine hr.mono ?_
  clear hr
  rintro e W1 ⟨rfl, hJ, hkp⟩
  replace hH := hkp (hH.up (Gn.al _))
  clear hkp
  gi_wp2
  rw [roundsIn_succ]
  have b0 := obj_cell hH.b 0 rfl; have b1 := obj_cell hH.b 1 rfl; have bl := blk_lt hH.b
  have l0 := obj_cell hH.l 4 rfl; have l1 := obj_cell hH.l 5 rfl; have l2 := obj_cell hH.l 6 rfl; have l3 := obj_cell hH.l 7 rfl; have ll := blk_lt hH.l
  have g0 := obj_cell hH.g 1 rfl; have gl := blk_lt hH.g
  obtain ⟨fn, tt, asg, bdy, hy, hr⟩ := hY 1 (W1.alloc (.cells #[.int .i64 0, .int .i64 0, .int .i64 4, .int .i64 9] 39)) (by omega) (hS 1 W1 _ hJ (Gn.al _))
  simp only [rk, rv] at hy
  gi_wp2
  clear b0 b1 bl l0 l1 l2 l3 ll g0 gl hy
  refine hr.mono ?_
  clear hr
  rintro e W2 ⟨rfl, hJ, hkp⟩
  replace hH := hkp (hH.up (Gn.al _))
  clear hkp
  gi_wp2
  rw [roundsIn_succ]
  have b0 := obj_cell hH.b 0 rfl; have b1 := obj_cell hH.b 1 rfl; have bl := blk_lt hH.b
  have l0 := obj_cell hH.l 8 rfl; have l1 := obj_cell hH.l 9 rfl; have l2 := obj_cell hH.l 10 rfl; have l3 := obj_cell hH.l 11 rfl; have ll := blk_lt hH.l
  have g0 := obj_cell hH.g 2 rfl; have gl := blk_lt hH.g
  obtain ⟨fn, tt, asg, bdy, hy, hr⟩ := hY 2 (W2.alloc (.cells #[.int .i64 0, .int .i64 0, .int .i64 5, .int .i64 4] 39)) (by omega) (hS 2 W2 _ hJ (Gn.al _))
  simp only [rk, rv] at hy
  gi_wp2
  clear b0 b1 bl l0 l1 l2 l3 ll g0 gl hy
  refine hr.mono ?_
  clear hr
  rintro e W3 ⟨rfl, hJ, hkp⟩
  replace hH := hkp (hH.up (Gn.al _))
  clear hkp
  gi_wp2
  rw [roundsIn_succ]
  gi_wp2
  first | go_end0 | go_ret
  exact ⟨⟨_, rfl⟩, hJ⟩
end Go.Proofs.YtgambglgkilgkaaGreatDoor
