/- The query parser on one fixed text: its block, spans of bytes; maps with known entries. -/
import Derived.Test.YtgambglgkilgkaaGreatDoorGw
import Derived.LoopN
import Derived.MapKept
import Derived.ChangeMaps4
import Derived.Maps.Own
import Derived.Maps.OwnOps
namespace Go.Proofs.YtgambglgkilgkaaGreatDoor
open Go.RowKit Go.ChangeMaps
/-- the text -/
def tx : ByteArray := ⟨#[109, 111, 109, 101, 110, 116, 32, 118, 97, 108, 117, 101, 32, 50, 32, 119, 104, 101, 114, 101, 32, 107, 105, 110, 100, 32, 61, 32, 53]⟩
theorem tx_size : tx.size = 29 := rfl
theorem tx_0 : (tx[0]'(by decide)).toNat = 109 := rfl
theorem tx_1 : (tx[1]'(by decide)).toNat = 111 := rfl
theorem tx_2 : (tx[2]'(by decide)).toNat = 109 := rfl
theorem tx_3 : (tx[3]'(by decide)).toNat = 101 := rfl
theorem tx_4 : (tx[4]'(by decide)).toNat = 110 := rfl
theorem tx_5 : (tx[5]'(by decide)).toNat = 116 := rfl
theorem tx_6 : (tx[6]'(by decide)).toNat = 32 := rfl
theorem tx_7 : (tx[7]'(by decide)).toNat = 118 := rfl
theorem tx_8 : (tx[8]'(by decide)).toNat = 97 := rfl
theorem tx_9 : (tx[9]'(by decide)).toNat = 108 := rfl
theorem tx_10 : (tx[10]'(by decide)).toNat = 117 := rfl
theorem tx_11 : (tx[11]'(by decide)).toNat = 101 := rfl
theorem tx_12 : (tx[12]'(by decide)).toNat = 32 := rfl
theorem tx_13 : (tx[13]'(by decide)).toNat = 50 := rfl
theorem tx_14 : (tx[14]'(by decide)).toNat = 32 := rfl
theorem tx_15 : (tx[15]'(by decide)).toNat = 119 := rfl
theorem tx_16 : (tx[16]'(by decide)).toNat = 104 := rfl
theorem tx_17 : (tx[17]'(by decide)).toNat = 101 := rfl
theorem tx_18 : (tx[18]'(by decide)).toNat = 114 := rfl
theorem tx_19 : (tx[19]'(by decide)).toNat = 101 := rfl
theorem tx_20 : (tx[20]'(by decide)).toNat = 32 := rfl
theorem tx_21 : (tx[21]'(by decide)).toNat = 107 := rfl
theorem tx_22 : (tx[22]'(by decide)).toNat = 105 := rfl
theorem tx_23 : (tx[23]'(by decide)).toNat = 110 := rfl
theorem tx_24 : (tx[24]'(by decide)).toNat = 100 := rfl
theorem tx_25 : (tx[25]'(by decide)).toNat = 32 := rfl
theorem tx_26 : (tx[26]'(by decide)).toNat = 61 := rfl
theorem tx_27 : (tx[27]'(by decide)).toNat = 32 := rfl
theorem tx_28 : (tx[28]'(by decide)).toNat = 53 := rfl
/-- block b is a parser of the text at the offset p, without an error -/
def PB (w : World) (b p : Nat) : Prop := w.heap[b]? = some (.cells #[.string tx, .int .i64 p, .int .i64 0, .int .i64 0] 60)
theorem PB.s {w : World} {b p : Nat} (h : PB w b p) : w.cell? ⟨b, 0, none⟩ = some (.string tx) := obj_cell h 0 rfl
theorem PB.p {w : World} {b p : Nat} (h : PB w b p) : w.cell? ⟨b, 1, none⟩ = some (.int .i64 p) := obj_cell h 1 rfl
theorem PB.o {w : World} {b p : Nat} (h : PB w b p) : w.cell? ⟨b, 2, none⟩ = some (.int .i64 0) := obj_cell h 2 rfl
theorem PB.e {w : World} {b p : Nat} (h : PB w b p) : w.cell? ⟨b, 3, none⟩ = some (.int .i64 0) := obj_cell h 3 rfl
theorem PB.lt {w : World} {b p : Nat} (h : PB w b p) : b < w.heap.size := blk_lt h
theorem PB.fz {w : World} {b p : Nat} (h : PB w b p) (i : Nat) : w.frozen? ⟨b, i, none⟩ = false := box_fz h
set_option maxRecDepth 100000 in
set_option maxHeartbeats 4000000 in
theorem q_span0 (b : Nat) (w : World) (h : PB w b 0) :
    Calls Tryz.prog 43 #[.pointer (some ⟨b, 0, none⟩), .int .u8 97, .int .u8 122] w fun e w' => e = .returned (.int .i64 6) ∧ w = w' := by
  have c0 := h.s; have c1 := h.p; have lt := h.lt; have ts := tx_size
  clear h
  have t0 := tx_0
  have t1 := tx_1
  have t2 := tx_2
  have t3 := tx_3
  have t4 := tx_4
  have t5 := tx_5
  have t6 := tx_6
  go_enter Tryz.func43, Tryz.ntmps43
  go_wp2_with fail
  refine wp_loop_rounds 7 ?_
  rw [rounds_succ]
  go_wp2_with fail
  rw [rounds_succ]
  go_wp2_with fail
  rw [rounds_succ]
  go_wp2_with fail
  rw [rounds_succ]
  go_wp2_with fail
  rw [rounds_succ]
  go_wp2_with fail
  rw [rounds_succ]
  go_wp2_with fail
  rw [rounds_succ]
  go_wp2_with fail
  go_ret
  exact ⟨rfl, rfl⟩
set_option maxRecDepth 100000 in
set_option maxHeartbeats 4000000 in
theorem q_span7 (b : Nat) (w : World) (h : PB w b 7) :
    Calls Tryz.prog 43 #[.pointer (some ⟨b, 0, none⟩), .int .u8 97, .int .u8 122] w fun e w' => e = .returned (.int .i64 12) ∧ w = w' := by
  have c0 := h.s; have c1 := h.p; have lt := h.lt; have ts := tx_size
  clear h
  have t7 := tx_7
  have t8 := tx_8
  have t9 := tx_9
  have t10 := tx_10
  have t11 := tx_11
  have t12 := tx_12
  go_enter Tryz.func43, Tryz.ntmps43
  go_wp2_with fail
  refine wp_loop_rounds 6 ?_
  rw [rounds_succ]
  go_wp2_with fail
  rw [rounds_succ]
  go_wp2_with fail
  rw [rounds_succ]
  go_wp2_with fail
  rw [rounds_succ]
  go_wp2_with fail
  rw [rounds_succ]
  go_wp2_with fail
  rw [rounds_succ]
  go_wp2_with fail
  go_ret
  exact ⟨rfl, rfl⟩
set_option maxRecDepth 100000 in
set_option maxHeartbeats 4000000 in
theorem q_span15 (b : Nat) (w : World) (h : PB w b 15) :
    Calls Tryz.prog 43 #[.pointer (some ⟨b, 0, none⟩), .int .u8 97, .int .u8 122] w fun e w' => e = .returned (.int .i64 20) ∧ w = w' := by
  have c0 := h.s; have c1 := h.p; have lt := h.lt; have ts := tx_size
  clear h
  have t15 := tx_15
  have t16 := tx_16
  have t17 := tx_17
  have t18 := tx_18
  have t19 := tx_19
  have t20 := tx_20
  go_enter Tryz.func43, Tryz.ntmps43
  go_wp2_with fail
  refine wp_loop_rounds 6 ?_
  rw [rounds_succ]
  go_wp2_with fail
  rw [rounds_succ]
  go_wp2_with fail
  rw [rounds_succ]
  go_wp2_with fail
  rw [rounds_succ]
  go_wp2_with fail
  rw [rounds_succ]
  go_wp2_with fail
  rw [rounds_succ]
  go_wp2_with fail
  go_ret
  exact ⟨rfl, rfl⟩
set_option maxRecDepth 100000 in
set_option maxHeartbeats 4000000 in
theorem q_span21 (b : Nat) (w : World) (h : PB w b 21) :
    Calls Tryz.prog 43 #[.pointer (some ⟨b, 0, none⟩), .int .u8 97, .int .u8 122] w fun e w' => e = .returned (.int .i64 25) ∧ w = w' := by
  have c0 := h.s; have c1 := h.p; have lt := h.lt; have ts := tx_size
  clear h
  have t21 := tx_21
  have t22 := tx_22
  have t23 := tx_23
  have t24 := tx_24
  have t25 := tx_25
  go_enter Tryz.func43, Tryz.ntmps43
  go_wp2_with fail
  refine wp_loop_rounds 5 ?_
  rw [rounds_succ]
  go_wp2_with fail
  rw [rounds_succ]
  go_wp2_with fail
  rw [rounds_succ]
  go_wp2_with fail
  rw [rounds_succ]
  go_wp2_with fail
  rw [rounds_succ]
  go_wp2_with fail
  go_ret
  exact ⟨rfl, rfl⟩
set_option maxRecDepth 100000 in
set_option maxHeartbeats 4000000 in
theorem q_span13 (b : Nat) (w : World) (h : PB w b 13) :
    Calls Tryz.prog 43 #[.pointer (some ⟨b, 0, none⟩), .int .u8 48, .int .u8 57] w fun e w' => e = .returned (.int .i64 14) ∧ w = w' := by
  have c0 := h.s; have c1 := h.p; have lt := h.lt; have ts := tx_size
  clear h
  have t13 := tx_13
  have t14 := tx_14
  go_enter Tryz.func43, Tryz.ntmps43
  go_wp2_with fail
  refine wp_loop_rounds 2 ?_
  rw [rounds_succ]
  go_wp2_with fail
  rw [rounds_succ]
  go_wp2_with fail
  go_ret
  exact ⟨rfl, rfl⟩
set_option maxRecDepth 100000 in
set_option maxHeartbeats 4000000 in
theorem q_span28 (b : Nat) (w : World) (h : PB w b 28) :
    Calls Tryz.prog 43 #[.pointer (some ⟨b, 0, none⟩), .int .u8 48, .int .u8 57] w fun e w' => e = .returned (.int .i64 29) ∧ w = w' := by
  have c0 := h.s; have c1 := h.p; have lt := h.lt; have ts := tx_size
  clear h
  have t28 := tx_28
  go_enter Tryz.func43, Tryz.ntmps43
  go_wp2_with fail
  refine wp_loop_rounds 2 ?_
  rw [rounds_succ]
  go_wp2_with fail
  rw [rounds_succ]
  go_wp2_with fail
  go_ret
  exact ⟨rfl, rfl⟩
end Go.Proofs.YtgambglgkilgkaaGreatDoor
