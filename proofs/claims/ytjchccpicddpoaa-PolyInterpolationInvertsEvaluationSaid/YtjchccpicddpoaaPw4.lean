/- The walk of the reference's product. -/
import Derived.Test.YtjchccpicddpoaaPw3
import Derived.Test.YtjchccpicddpoaaPm
namespace Go.Proofs.Ytjchccpicddpoaa
open Go.RowKit Att Att.CRing

set_option maxHeartbeats 4000000 in
theorem x_mulL (A B : Option Addr) (n c m d : Nat) (l k : List Ext) (w : World) (hl : Sl w A n c l) (hk : Sl w B m d k) (hn : n ≤ 1000000) (hm : m ≤ 1000000) :
    Calls Try.prog 24 #[.slice A n c, .slice B m d] w (RetSl w (trim (pmul l k))) := by
  have l1 := Lib.hid hl.len
  have k1 := Lib.hid hk.len
  go_enter Try.func24, Try.ntmps24
  go_wp2_with (at_make; refine wpList_mk (.tmp 12) (.tmp 12) (n + m) (congrArg (Value.int .i64) (by omega)) (congrArg (Value.int .i64) (by omega)) (by omega) ?_)
  go_loopw [6] (fun v wr => ∃ i : Nat, i ≤ n ∧ v = .int .i64 i ∧ Blk wr w.heap.size (accL (n + m) l k i 0) ∧ Gn w wr) (fun v _ => n - (intOf v).toNat)
  case atStart => exact ⟨0, by omega, rfl, by rw [accL_zero]; exact hnew w _, Gn.al _⟩
  case round =>
    obtain ⟨i, hi, rfl, hB, hg⟩ := hrel
    by_cases hlt : i < n
    · obtain ⟨wo, rfl⟩ : ∃ wo : World, wo = wr := ⟨_, rfl⟩
      go_wp2_with fail
      go_loopw [7] (fun v wr => ∃ j : Nat, j ≤ m ∧ v = .int .i64 j ∧ Blk wr w.heap.size (accL (n + m) l k i j) ∧ Gn w wr) (fun v _ => m - (intOf v).toNat)
      case atStart => exact ⟨0, by omega, rfl, hB, hg⟩
      case round =>
        clear hB hg
        obtain ⟨j, hj, rfl, hB, hg⟩ := hrel
        by_cases hlt2 : j < m
        · obtain ⟨b, o, x, rfl, hx, q1, q2, q3⟩ := (hl.up hg).at_ hlt
          obtain ⟨b', o', y, rfl, hy, r1, r2, r3⟩ := (hk.up hg).at_ hlt2
          have HX := Lib.hid (co_at hx); clear hx
          have HY := Lib.hid (co_at hy); clear hy
          have hG := accL_get (N := n + m) l k i j (by omega)
          have hS := Lib.hid (accL_set (N := n + m) l k i j (by omega))
          obtain ⟨u, hu⟩ : ∃ u, u = accF l k i j (i + j) := ⟨_, rfl⟩
          rw [← hu] at hG hS
          clear hu
          have hil := Lib.hid (show i + j < (accL (n + m) l k i j).length by rw [accL_len]; omega)
          obtain ⟨c1, c2⟩ := hB.cell hG
          have c3 := blk_lt hB
          clear hG
          have e1 : IntKind.i64.wrap ((i : Int) + (j : Int)) = (i : Int) + (j : Int) := IntWalk.i64_in _ (by omega)
          have e2 : 0 ≤ (i : Int) + (j : Int) := by omega
          have e3 : ((i : Int) + (j : Int)).toNat = i + j := by omega
          go_wp2_with fail
          try simp only [List.append_eq, List.cons_append, List.nil_append]
          refine wp_region_flow 21 (by kernel_rfl) (by kernel_rfl) ?_
          refine flow_one rfl (by simp) ?_
          go_big_quiet_step (fail)
          refine wpQuiet_nil ?_
          refine flow_one rfl (by simp) ?_
          go_big_quiet_step (fail)
          refine wpQuiet_nil ?_
          refine flow_one rfl (by simp) ?_
          go_big_quiet_step (fail)
          refine wpQuiet_nil ?_
          refine flow_one rfl (by simp) ?_
          go_big_quiet_step (fail)
          refine wpQuiet_nil ?_
          refine flow_one rfl (by simp) ?_
          go_big_quiet_step (fail)
          refine wpQuiet_nil ?_
          refine flow_one rfl (by simp) ?_
          go_big_quiet_step (fail)
          refine wpQuiet_nil ?_
          refine flow_one rfl (by simp) ?_
          go_big_quiet_step (fail)
          refine wpQuiet_nil ?_
          refine flow_one rfl (by simp) ?_
          go_big_quiet_step (fail)
          refine wpQuiet_nil ?_
          refine flow_one rfl (by simp) ?_
          go_big_quiet_step (fail)
          refine wpQuiet_nil ?_
          refine flow_one rfl (by simp) ?_
          go_big_quiet_step (fail)
          refine wpQuiet_nil ?_
          refine flow_one rfl (by simp) ?_
          go_big_quiet_step (fail)
          refine wpQuiet_nil ?_
          refine flow_one rfl (by simp) ?_
          go_big_quiet_step (fail)
          refine wpQuiet_nil ?_
          refine flow_one rfl (by simp) ?_
          go_big_quiet_step (fail)
          refine wpQuiet_nil ?_
          refine flow_one rfl (by simp) ?_
          go_big_quiet_step (fail)
          refine wpQuiet_nil ?_
          refine flow_one rfl (by simp) ?_
          go_big_quiet_step (fail)
          refine wpQuiet_nil ?_
          refine flow_one rfl (by simp) ?_
          go_big_quiet_step (fail)
          refine wpQuiet_nil ?_
          refine flow_one rfl (by simp) ?_
          go_big_quiet_step (fail)
          refine wpQuiet_nil ?_
          refine flow_one rfl (by simp) ?_
          go_big_quiet_step (fail)
          refine wpQuiet_nil ?_
          apply flow_is
          · simp
          · intro g K hK
            go_wp2_with fail
            refine (x_mul x y _).mono ?_
            rintro e w' ⟨rfl, g', rfl⟩
            go_wp2_with fail
            exact hK _ (up_comp g g')
          · rfl
          apply flow_is
          · simp
          · intro g K hK
            go_wp2_with fail
            refine (x_add u (x * y) _).mono ?_
            rintro e w' ⟨rfl, g', rfl⟩
            go_wp2_with fail
            exact hK _ (up_comp g g')
          · rfl
          refine flow_one rfl (by simp) ?_
          go_big_quiet_step (fail)
          refine wpQuiet_nil ?_
          intro V N X hΓ hdis g hX
          clear hΓ hdis hX
          conv => arg 5; simp only [fill]
          have hgn : Gn wr (gr wr g) := ⟨g, rfl⟩
          have hB' := (Blk.up hB hgn).set hil.out (u + x * y)
          have hg' := setE_below (hg.trans hgn) (Nat.le_refl _) (i := i + j) (u + x * y)
          refine tail_storeE (b := w.heap.size) (i := i + j) (x := u + x * y) rfl rfl (Blk.up hB hgn) hil.out ?_
          refine wpList_nil ?_
          generalize setE (gr wr g) w.heap.size (i + j) (u + x * y) = wr' at hB' hg' ⊢
          clear c1 c2 c3 q1 q2 q3 r1 r2 r3 e1 e2 e3
          go_wp2_with fail
          refine ⟨⟨j + 1, by omega, by go_num, ?_, hg'⟩, by simp [intOf]; omega⟩
          rw [← hS.out, HX.out, HY.out]
          exact hB'
        · obtain rfl : j = m := by omega
          go_wp2_with fail
          exact ⟨⟨i + 1, by omega, by go_num, by rw [accL_next, k1.out]; exact hB, hg⟩, by simp [intOf]; omega⟩
    · obtain rfl : i = n := by omega
      have hS : Sl wr (some ⟨w.heap.size, 0, none⟩) (i + m) (i + m) (accL (i + m) l k i 0) := by
        have h := hB.sl (by rw [accL_len]; omega)
        rwa [accL_len] at h
      have he := Lib.hid (accL_end (N := i + m) l k (by rw [l1.out, k1.out]; omega))
      go_wp2_with fail
      refine (x_trim _ _ _ _ _ hS (by omega)).mono ?_
      rintro e w' ⟨A', n', c', rfl, hs, hg'⟩
      go_wp2_with fail
      go_ret
      have e := he.out
      rw [l1.out] at e
      rw [← e]
      exact ⟨A', n', c', rfl, hs, hg.trans hg'⟩
end Go.Proofs.Ytjchccpicddpoaa
