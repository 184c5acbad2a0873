/- The walk of poly.Interpolate. -/
import Derived.Test.YtjchccpicddpoaaKc
import Derived.Test.YtjchccpicddpoaaPw14
import Derived.Test.YtjchccpicddpoaaIp
namespace Go.Proofs.Ytjchccpicddpoaa
open Go.RowKit Att Att.CRing
theorem allP_le {n k : Nat} (h : n ≤ 100000) (hk : k ≤ n) : (allP k).length ≤ 1000000 := Nat.le_trans (allP_len k) (by omega)
set_option maxHeartbeats 2000000 in
theorem p_interF (f : Ext → Ext) (hf : ∀ (x : Ext), x ≠ 0 → ∀ w, Calls Try.prog 68 #[.agg #[.int .u64 (Zm.i (Ext.a (x))), .int .u64 (Zm.i (Ext.b (x)))]] w fun e w' => e = .returned (.tuple #[.agg #[.int .u64 (Zm.i (Ext.a (f x))), .int .u64 (Zm.i (Ext.b (f x)))], .int .i64 0]) ∧ ∃ g, w' = gr w g)
    (A : Option Addr) (n c : Nat) (l : List Ext) (w : World) (hl : Sl w A n c l) (hn : n ≤ 100000) :
    Calls Try.prog 33 #[.slice A n c] w (RetSl w (outP f l n n)) := by
  have n1 := hl.le; have n2 := hl.small
  go_enter Try.func33, Try.ntmps33
  go_wp2_with fail
  refine (p_node 1 (by omega) (by omega) _).mono ?_
  rintro e w1 ⟨rfl, g1⟩
  go_wp2_with fail
  have hA : isSl (allP 0) (.slice (some ⟨w1.heap.size, 0, none⟩) 1 1) (w1.alloc (.cells #[.int .u64 (Zm.i (Ext.a (int 1))), .int .u64 (Zm.i (Ext.b (int 1)))] 25)) := sl_one (int 1)
  have hg : Gn w (w1.alloc (.cells #[.int .u64 (Zm.i (Ext.a (int 1))), .int .u64 (Zm.i (Ext.b (int 1)))] 25)) := Gn.trans g1 (Gn.al _)
  generalize (w1.alloc (.cells #[.int .u64 (Zm.i (Ext.a (int 1))), .int .u64 (Zm.i (Ext.b (int 1)))] 25)) = w2 at hA hg ⊢
  clear g1
  go_loopw [3, 14] (fun v i wr => ∃ k : Nat, k ≤ n ∧ i = .int .i64 k ∧ isSl (allP k) v wr ∧ Gn w wr) (fun _ i _ => n - (intOf i).toNat)
  case atStart => exact ⟨0, by omega, rfl, hA, hg⟩
  case round =>
    clear hA hg
    obtain ⟨k, hk, rfl, hA, hg⟩ := hrel
    by_cases h1 : k < n
    · go_wp2_with fail
      refine (p_node (-(k : Int)) (by omega) (by omega) _).mono ?_
      rintro e w3 ⟨rfl, g3⟩
      go_wp2_with fail
      refine (p_node 1 (by omega) (by omega) _).mono ?_
      rintro e w4 ⟨rfl, g4⟩
      obtain ⟨A2, m2, c2, rfl, hs⟩ := hA
      have hsz := hs.len
      have hle := allP_le hn hk
      go_wp2_with fail
      obtain ⟨B, m, d, e2, hs2⟩ := sl_two (w := w4) (int (-(k : Int))) (int 1)
      cases e2
      refine (p_mulL _ _ _ _ _ _ (allP k) [int (-(k : Int)), int 1] _ (hs.up (Gn.trans (Gn.trans g3 g4) (Gn.al _))) hs2 (by omega) (by omega)).mono ?_
      intro e w5 h5
      obtain ⟨v5, rfl, hv5, g5⟩ := h5.is
      have hg5 := ((hg.trans g3).trans g4).trans (Gn.trans (Gn.al _) g5)
      clear hs hs2 g3 g4 g5
      go_wp2_with fail
      exact ⟨⟨k + 1, by omega, by go_num, hv5, hg5⟩, by simp [intOf]; omega⟩
    · obtain rfl : k = n := by omega
      go_wp2_with fail
      refine (p_weightsF f hf k (by omega) _).mono ?_
      rintro e w3 ⟨Aw, cw, rfl, hw, g3⟩
      have w1' := hw.le; have w2' := hw.small
      have hg3 := hg.trans g3
      have hA3 := hA.gn g3
      clear hA hg g3
      go_wp2_with fail
      go_loopw [5, 29] (fun v i wr => ∃ j : Nat, j ≤ k ∧ i = .int .i64 j ∧ isSl (outP f l k j) v wr ∧ Gn w3 wr) (fun _ i _ => k - (intOf i).toNat)
      case atStart => exact ⟨0, by omega, rfl, ⟨_, _, _, rfl, Sl.nil _⟩, Gn.refl _⟩
      case round =>
        obtain ⟨j, hj, rfl, hO, hg⟩ := hrel
        by_cases h2 : j < k
        · obtain ⟨bw, ow, y, rfl, hy, q1, q2, q3⟩ := (hw.up hg).at_ h2
          have HY := Lib.hid hy; clear hy
          go_wp2_with fail
          have hb := hnew wr (.cells #[.int .u64 (Zm.i (Ext.a y)), .int .u64 (Zm.i (Ext.b y))] 25)
          have hO := hO.gn (Gn.al (.cells #[.int .u64 (Zm.i (Ext.a y)), .int .u64 (Zm.i (Ext.b y))] 25))
          have hg := hg.trans (Gn.al (.cells #[.int .u64 (Zm.i (Ext.a y)), .int .u64 (Zm.i (Ext.b y))] 25))
          generalize wr.alloc (.cells #[.int .u64 (Zm.i (Ext.a y)), .int .u64 (Zm.i (Ext.b y))] 25) = w4 at hb hO hg ⊢
          clear q1 q2 q3
          generalize wr.heap.size = by_ at hb ⊢
          refine (p_node (j : Int) (by omega) (by omega) _).mono ?_
          rintro e w5 ⟨rfl, g5⟩
          obtain ⟨A3, m3, c3, e3, hs3⟩ := hA3.gn (hg.trans g5)
          subst e3
          obtain rfl := hs3.len
          go_wp2_with fail
          refine (p_divRoot _ _ _ (allP k) (int (j : Int)) _ hs3 (allP_le hn hk)).mono ?_
          rintro e w6 ⟨A6, m6, c6, rfl, hs6, g6⟩
          go_wp2_with fail
          obtain ⟨b0, o0, z, rfl, hz, r1, r2, r3⟩ := hl.at_ h2
          have HZ := Lib.hid (co_at hz); clear hz
          have HY2 := Lib.hid (Option.some.inj (HY.out.symm.trans (wtsF_get f h2)))
          have gA := (hg.trans (Gn.trans g5 g6)).trans (Gn.al (.cells #[.int .u64 (Zm.i (Ext.a (ev (allP k) (int (j : Int))))), .int .u64 (Zm.i (Ext.b (ev (allP k) (int (j : Int)))))] 25))
          have gB := (Gn.trans g5 g6).trans (Gn.al (.cells #[.int .u64 (Zm.i (Ext.a (ev (allP k) (int (j : Int))))), .int .u64 (Zm.i (Ext.b (ev (allP k) (int (j : Int)))))] 25))
          have hb7 := gB.block hb
          have hO7 := hO.gn gB
          have hQ : isSl (trim (dq (allP k) (int (j : Int)))) (.slice A6 m6 c6) (w6.alloc (.cells #[.int .u64 (Zm.i (Ext.a (ev (allP k) (int (j : Int))))), .int .u64 (Zm.i (Ext.b (ev (allP k) (int (j : Int)))))] 25)) := isSl.gn ⟨_, _, _, rfl, hs6⟩ (Gn.al _)
          have hl7 := hl.up (hg3.trans gA)
          have hLq := Nat.le_trans (trim_length_le (dq (allP k) (int (j : Int)))) (by rw [dq_len]; exact Nat.le_trans (Nat.sub_le _ _) (allP_le hn hk))
          have hLo := Nat.le_trans (outP_len f l k j hj) (show k ≤ 1000000 by omega)
          have hLs := Nat.le_trans (trim_length_le (psca (trim (dq (allP k) (int (j : Int)))) (y * z))) (by unfold psca; rw [tab_length]; exact hLq)
          generalize w6.alloc (.cells #[.int .u64 (Zm.i (Ext.a (ev (allP k) (int (j : Int))))), .int .u64 (Zm.i (Ext.b (ev (allP k) (int (j : Int)))))] 25) = w7 at *
          clear gB hb hO hs3 g5 g6 hs6 r1 r2 r3
          obtain ⟨b1, o1, z1, e1, hz1, r1, r2, r3⟩ := hl7.at_ h2
          cases e1
          obtain rfl : z1 = z := (co_at hz1).symm.trans HZ.out
          clear hz1
          have c1 := box_a hb7
          have c2 := box_b hb7
          have c3 := blk_lt hb7
          try simp only [List.append_eq, List.cons_append, List.nil_append]
          refine Fk.wp_region_flow 10 (by kernel_rfl) (by kernel_rfl) ?_
          refine Fk.flow_one rfl (freeB_spec (by kernel_rfl)) ?_
          go_big_quiet_step (fail)
          refine wpQuiet_nil ?_
          refine Fk.flow_one rfl (freeB_spec (by kernel_rfl)) ?_
          go_big_quiet_step (fail)
          refine wpQuiet_nil ?_
          refine Fk.flow_one rfl (freeB_spec (by kernel_rfl)) ?_
          go_big_quiet_step (fail)
          refine wpQuiet_nil ?_
          refine Fk.flow_one rfl (freeB_spec (by kernel_rfl)) ?_
          go_big_quiet_step (fail)
          refine wpQuiet_nil ?_
          refine Fk.flow_one rfl (freeB_spec (by kernel_rfl)) ?_
          go_big_quiet_step (fail)
          refine wpQuiet_nil ?_
          refine Fk.flow_one rfl (freeB_spec (by kernel_rfl)) ?_
          go_big_quiet_step (fail)
          refine wpQuiet_nil ?_
          refine Fk.flow_one rfl (freeB_spec (by kernel_rfl)) ?_
          go_big_quiet_step (fail)
          refine wpQuiet_nil ?_
          apply Fk.flow_is
          · exact freeB_spec (by kernel_rfl)
          · intro g K hK
            go_wp2_with fail
            refine (e_mul y z1 _).mono ?_
            rintro e w' ⟨rfl, g', rfl⟩
            go_wp2_with fail
            exact hK _ (up_comp g g')
          · rfl
          refine flow_exS _ rfl (ex_call2 (k_psca hLq) rfl (by kernel_rfl) (want_fill (by kernel_rfl) (by kernel_rfl)) (arg_s0 (by simp) rfl hQ) (arg_v (by simp) rfl)) ?_
          refine flow_exS _ rfl (ex_call2 (k_padd hLo hLs) rfl (by kernel_rfl) (want_fill (by kernel_rfl) (by kernel_rfl)) (arg_s0 (by simp) rfl hO7) (arg_sv 0 rfl (by kernel_rfl) (by kernel_rfl))) ?_
          intro V N' X hΓ hdis g hX
          have ho : isSl (outP f l k (j + 1)) (V 50) (gr w7 g) := by
            have h := isSl.up (l := trim (padd (outP f l k j) (trim (psca (trim (dq (allP k) (int (j : Int)))) (y * z1))))) (hΓ ⟨50, sv _⟩ (.head _)).1 (hX _ (.head _))
            rw [HY2.out, ← HZ.out] at h
            exact h
          have hgn : Gn w7 (gr w7 g) := ⟨g, rfl⟩
          clear hΓ hdis hX
          conv => arg 5; simp only [fill, Act.put, List.setIfInBounds_toArray, List.set_cons_succ, List.set_cons_zero]
          generalize gr w7 g = w8 at *
          generalize V 49 = v49 at *
          generalize V 50 = v50 at *
          clear c1 c2 c3 r1 r2 r3
          go_wp2_with fail
          exact ⟨⟨j + 1, by omega, by go_num, ho, gA.trans hgn⟩, by simp [intOf]; omega⟩
        · obtain rfl : j = k := by omega
          go_wp2_with fail
          go_ret
          obtain ⟨A3, m3, c3, rfl, hs3⟩ := hO
          exact ⟨_, _, _, rfl, hs3, hg3.trans hg⟩
end Go.Proofs.Ytjchccpicddpoaa
