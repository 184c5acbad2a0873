/- The range over slices.Backward, and poly.Eval. -/
import Derived.Test.YtjchccpicddpoaaPw8
import Derived.Test.YtjchccpicddpoaaRg
import Derived.BigFrameIn
import Derived.RegionIn
import Derived.BigRegionIn
namespace Go.Proofs.Ytjchccpicddpoaa
open Go.RowKit Att Att.CRing

/-- what the walk back through a slice asks of memory: the box of the slice, and the world of old -/
structure BkH (B : Nat) (sv : Value) (w W : World) : Prop where
  lt : B < W.heap.size
  c : W.cell? ⟨B, 0, none⟩ = some sv
  b : Below w.heap.size w W
def BkKp (B : Nat) (w W W' : World) : Prop := B < W'.heap.size ∧ W'.cell? ⟨B, 0, none⟩ = W.cell? ⟨B, 0, none⟩ ∧ Below w.heap.size W W'

attribute [local go_sem] Oper.semAt_some
set_option maxHeartbeats 1000000 in
theorem back_iter (B : Nat) (A : Option Addr) (n c : Nat) (l : List Ext) (w : World) (hl : Sl w A n c l) (hn : n ≤ 1000000) :
    IterOk Try.prog 66 #[.pointer (some ⟨B, 0, none⟩)] (fun k => #[.int .i64 ((n - 1 - k : Nat) : Int), .agg #[.int .u64 (Zm.i (Ext.a (co l (n - 1 - k)))), .int .u64 (Zm.i (Ext.b (co l (n - 1 - k))))]]) n (BkH B (.slice A n c) w) (fun W W' => W' = W) (BkKp B w) := by
  intro m r J hS hY W hH hJ
  refine callsIn_of_wp Try.func66 rfl trivial ?_ rfl
  simp only [Try.ntmps66, List.size_toArray, List.length_cons, List.length_nil, Nat.reduceAdd, Nat.reduceSub, Array.replicate_succ, Array.replicate_zero, List.push_toArray, List.append_toArray, List.nil_append, List.cons_append]
  obtain ⟨h1, h2, h3⟩ := id hH
  gi_wp2
  clear h1 h2 h3
  gi_loopw [3] (fun v wr => ∃ k j : Nat, k + j = n ∧ v = .int .i64 ((j : Int) - 1) ∧ J k wr ∧ BkH B (.slice A n c) w wr) (fun v _ => (intOf v + 1).toNat)
  case atStart => exact ⟨0, n, Nat.zero_add _, rfl, hJ, hH⟩
  case round =>
    obtain ⟨k, j, hkj, rfl, hJk, hHk⟩ := hrel
    obtain ⟨h1, h2, h3⟩ := id hHk
    cases j with
    | zero =>
      obtain rfl : k = n := by omega
      gi_wp2
      first | go_end0 | go_ret
      exact ⟨⟨_, rfl⟩, hJk⟩
    | succ j =>
      rw [show ((j + 1 : Nat) : Int) - 1 = (j : Int) from by omega]
      obtain ⟨b, o, y, he, hx, q1, q2, q3⟩ := (hl.up (Gn.of h3)).at_ (j := j) (by omega)
      subst he
      have hco : co l (n - 1 - k) = y := by rw [show n - 1 - k = j from by omega]; exact co_at hx
      have hidx : ((n - 1 - k : Nat) : Int) = (j : Int) := by omega
      obtain ⟨fn, tt, asg, bdy, hy, hr⟩ := hY k wr (by omega) hJk
      simp only [hco, hidx] at hy
      clear hY hco hidx hx
      gi_wp2
      refine hr.mono ?_
      rintro e W' ⟨rfl, hJ', hlt', hc', hb'⟩
      rw [h2] at hc'
      have hH2 : BkH B (.slice (some ⟨b, o, none⟩) n c) w W' := ⟨hlt', hc', h3.trans hb'⟩
      clear hr hy
      gi_wp2
      refine ⟨⟨k + 1, j, by omega, rfl, hJ', hH2⟩, by simp [intOf]⟩

theorem p_backward (A : Option Addr) (n c : Nat) (w : World) :
    Calls Try.prog 54 #[.slice A n c] w fun e w' => e = .returned (.func (.func 66) #[] #[.pointer (some ⟨w.heap.size, 0, none⟩)]) ∧ w' = w.alloc (.cells #[.slice A n c] 22) := by
  go_enter Try.func54, Try.ntmps54
  go_wp2_with fail
  go_ret
  exact ⟨rfl, rfl⟩
end Go.Proofs.Ytjchccpicddpoaa
