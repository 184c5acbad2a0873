/- poly Roots. -/
import Derived.Test.YtjchccpicddpoaaPw12
namespace Go.Proofs.Ytjchccpicddpoaa
open Go.RowKit Att Att.CRing
set_option maxHeartbeats 1000000 in
theorem p_roots (A : Option Addr) (n c : Nat) (l : List Ext) (A2 : Option Addr) (m c2 : Nat) (l2 : List Ext) (w : World) (hl : Sl w A n c l) (hl2 : Sl w A2 m c2 l2) (hn : n ≤ 1000000) (hm : m ≤ 1000000) :
    Calls Try.prog 31 #[.slice A n c, .slice A2 m c2] w (RetI w (rts l l2 m)) := by
  have n1 := hl2.le; have n2 := hl2.small
  go_enter Try.func31, Try.ntmps31
  go_wp2_with fail
  go_loopw [5, 10] (fun v i wr => ∃ k : Nat, k ≤ m ∧ i = .int .i64 k ∧ OwI wr w.heap.size v (rts l l2 k) ∧ Gn w wr) (fun _ i _ => m - (intOf i).toNat)
  case atStart => exact ⟨0, by omega, rfl, OwI.nil w _, Gn.refl w⟩
  case round =>
    obtain ⟨k, hk, rfl, ho, hg⟩ := hrel
    have hle := rts_le l l2 k
    by_cases h1 : k < m
    · obtain ⟨b, o, z, rfl, hx, q1, q2, q3⟩ := (hl2.up hg).at_ h1
      have hc := co_at hx
      clear hx
      go_wp2_with fail
      have hb := hnew wr (.cells #[.int .u64 (Zm.i (Ext.a z)), .int .u64 (Zm.i (Ext.b z))] 25)
      have ho := ho.up (Gn.al (w := wr) (.cells #[.int .u64 (Zm.i (Ext.a z)), .int .u64 (Zm.i (Ext.b z))] 25))
      have hg := hg.trans (Gn.al (w := wr) (.cells #[.int .u64 (Zm.i (Ext.a z)), .int .u64 (Zm.i (Ext.b z))] 25))
      generalize hW : wr.alloc (.cells #[.int .u64 (Zm.i (Ext.a z)), .int .u64 (Zm.i (Ext.b z))] 25) = w1 at hb ho hg ⊢
      refine (p_eval A n c l z w1 (hl.up hg) hn).mono ?_
      rintro e w2 ⟨rfl, k2⟩
      have ho2 := ho.up k2
      have hg2 := hg.trans k2
      clear q1 q2 q3 hb hW
      by_cases hz : ev l z = 0
      · have HR := Lib.hid (rts_yes (p := l) (l := l2) (k := k) (by rw [hc]; exact hz))
        have HZ := Lib.hid hz; clear hz hc
        go_wp2_with fail
        refine (isz _ HZ.out _).mono ?_
        rintro e w3 ⟨rfl, k3⟩
        have ho3 := ho2.up k3
        have hg3 := hg2.trans k3
        go_wp2_with (at_builtin; refine wpList_appI (.tmp 19) (.tmp 21) rfl (ho3.up (Gn.al _)) (by have := hg3.size; simp; omega) rfl (hnew _ _) (by omega) ?_; intro v4 w4 ho4 hg4; have hg5 := grown_gnI (hg3.trans (Gn.al _)) (ho3.up (Gn.al _)) (Nat.le_refl _) hg4; clear hg4)
        exact ⟨⟨k + 1, by omega, by go_num, by rw [HR.out]; exact ho4, hg5⟩, by simp [intOf]; omega⟩
      · have HR := Lib.hid (rts_no (p := l) (l := l2) (k := k) (by rw [hc]; exact hz))
        have HZ := Lib.hid hz; clear hz hc
        go_wp2_with fail
        refine (isn _ HZ.out _).mono ?_
        rintro e w3 ⟨rfl, k3⟩
        have ho3 := ho2.up k3
        have hg3 := hg2.trans k3
        go_wp2_with fail
        exact ⟨⟨k + 1, by omega, by go_num, by rw [HR.out]; exact ho3, hg3⟩, by simp [intOf]; omega⟩
    · obtain rfl : k = m := by omega
      go_wp2_with fail
      obtain ⟨A', c', rfl, hs⟩ := ho.sl (rts_rng l l2 k hm)
      go_ret
      exact ⟨_, _, rfl, hs, hg⟩
end Go.Proofs.Ytjchccpicddpoaa
