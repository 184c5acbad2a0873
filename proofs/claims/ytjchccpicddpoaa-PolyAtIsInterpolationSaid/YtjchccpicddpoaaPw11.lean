/- poly: node. -/
import Derived.Test.YtjchccpicddpoaaPw10
namespace Go.Proofs.Ytjchccpicddpoaa
open Go.RowKit Att Att.CRing
theorem p_node (n : Int) (h0 : -9223372036854775808 ≤ n) (h1 : n ≤ 9223372036854775807) (w : World) :
    Calls Try.prog 55 #[.int .i64 n] w fun e w' => e = .returned (.agg #[.int .u64 (Zm.i (Ext.a ((int n : Ext)))), .int .u64 (Zm.i (Ext.b ((int n : Ext))))]) ∧ ∃ g, w' = gr w g := by
  refine calls_gr ?_
  go_enter Try.func55, Try.ntmps55
  go_wp2_with fail
  refine (e_fromInt n h0 h1 _).mono ?_
  rintro e w' ⟨rfl, g, rfl⟩
  have hb := (Gn.of (gr_below (w.alloc zeroExt) g)).block (hnew w zeroExt)
  have hg : Gn w (gr (w.alloc zeroExt) g) := (Gn.al _).trans ⟨g, rfl⟩
  unfold zeroExt at hb hg
  generalize gr _ g = w1 at hb hg ⊢
  have c1 := obj_cell hb 0 rfl
  have c2 := obj_cell hb 1 rfl
  have c3 := box_fz (i := 0) hb
  have c4 := box_fz (i := 1) hb
  go_wp2_with fail
  have hR := set2_same hb (int n : Ext)
  have hg2 := set2_below hg (b := w.heap.size) (Nat.le_refl _) (int n : Ext)
  have s1 := box_a hR
  have s2 := box_b hR
  unfold set2 at s1 s2 hg2
  exact bodyPost_ret (v := .agg #[.int .u64 (Zm.i (Ext.a ((int n : Ext)))), .int .u64 (Zm.i (Ext.b ((int n : Ext))))]) (by simp [results, Try.results55, go_sem, s1, s2]) rfl ⟨rfl, hg2.below⟩
end Go.Proofs.Ytjchccpicddpoaa
