/- The walks of package poly: Mul, combine and what leans on it. -/
import Derived.Test.YtjchccpicddpoaaPw4
namespace Go.Proofs.Ytjchccpicddpoaa
open Go.RowKit Att Att.CRing

set_option maxHeartbeats 4000000 in
theorem p_mulL (A B : Option Addr) (n c m d : Nat) (l k : List Ext) (w : World) (hl : Sl w A n c l) (hk : Sl w B m d k) (hn : n ≤ 1000000) (hm : m ≤ 1000000) :
    Calls Try.prog 23 #[.slice A n c, .slice B m d] w (RetSl w (trim (pmul l k))) := by
  have l1 := Lib.hid hl.len
  have k1 := Lib.hid hk.len
  by_cases hz : n = 0 ∨ m = 0
  · have he : trim (pmul l k) = [] := by
      apply trim_pmul_nil
      rcases hz with h | h
      · left; rw [List.eq_nil_of_length_eq_zero (l1.out.trans h)]; rfl
      · right; rw [List.eq_nil_of_length_eq_zero (k1.out.trans h)]; rfl
    have HE := Lib.hid he; clear he
    by_cases h0 : n = 0
    · have b1 : ((n : Int) == 0) = true := by simp [h0]
      clear hz
      have H0 := Lib.hid h0; clear h0
      go_enter Try.func23, Try.ntmps23
      go_wp2_with fail
      go_ret
      exact ⟨none, 0, 0, rfl, by rw [HE.out]; exact Sl.nil w, Gn.refl w⟩
    · have b1 : ((n : Int) == 0) = false := by simp [h0]
      have b2 : ((m : Int) == 0) = true := by rcases hz with h | h; exact absurd h h0; simp [h]
      clear hz h0
      go_enter Try.func23, Try.ntmps23
      go_wp2_with fail
      go_ret
      exact ⟨none, 0, 0, rfl, by rw [HE.out]; exact Sl.nil w, Gn.refl w⟩
  · have b1 : ((n : Int) == 0) = false := by simp; omega
    have b2 : ((m : Int) == 0) = false := by simp; omega
    have n0 : 0 < n := by omega
    have m0 : 0 < m := by omega
    clear hz
    obtain ⟨N, hN⟩ : ∃ N, N + 1 = n + m := ⟨n + m - 1, by omega⟩
    have hNn : n ≤ N := by omega
    have hNm : m ≤ N := by omega
    have hN6 : N ≤ 2000000 := by omega
    have HN := Lib.hid hN; clear hN
    go_enter Try.func23, Try.ntmps23
    go_wp2_with (at_make; refine wpList_mk (.tmp 23) (.tmp 23) N (congrArg (Value.int .i64) (by have := HN.out; omega)) (congrArg (Value.int .i64) (by have := HN.out; omega)) (by omega) ?_)
    go_loopw [27] (fun v wr => ∃ i : Nat, i ≤ n ∧ v = .int .i64 i ∧ Blk wr w.heap.size (accL N l k i 0) ∧ Gn w wr) (fun v _ => n - (intOf v).toNat)
    case atStart => exact ⟨0, by omega, rfl, by rw [accL_zero]; exact hnew w _, Gn.al _⟩
    case round =>
      obtain ⟨i, hi, rfl, hB, hg⟩ := hrel
      by_cases hlt : i < n
      · obtain ⟨b, o, x, rfl, hx, q1, q2, q3⟩ := (hl.up hg).at_ hlt
        have HX := Lib.hid (co_at hx); clear hx
        have hBa := hnew wr (.cells #[.int .u64 (Zm.i (Ext.a x)), .int .u64 (Zm.i (Ext.b x))] 25)
        have hB1 := hB.up (Gn.al (.cells #[.int .u64 (Zm.i (Ext.a x)), .int .u64 (Zm.i (Ext.b x))] 25))
        have hg1 := hg.trans (Gn.al (.cells #[.int .u64 (Zm.i (Ext.a x)), .int .u64 (Zm.i (Ext.b x))] 25))
        have hlo := blk_lt hB
        go_wp2_with fail
        generalize wr.alloc (.cells #[.int .u64 (Zm.i (Ext.a x)), .int .u64 (Zm.i (Ext.b x))] 25) = wo at hBa hB1 hg1 ⊢
        clear hB hg q1 q2 q3
        generalize wr.heap.size = ba at hBa hlo ⊢
        go_loopw [34] (fun v wr => ∃ j : Nat, j ≤ m ∧ v = .int .i64 j ∧ Blk wr w.heap.size (accL N l k i j) ∧ wr.heap[ba]? = some (.cells #[.int .u64 (Zm.i (Ext.a x)), .int .u64 (Zm.i (Ext.b x))] 25) ∧ Gn w wr) (fun v _ => m - (intOf v).toNat)
        case atStart => exact ⟨0, by omega, rfl, hB1, hBa, hg1⟩
        case round =>
          clear hB1 hBa hg1
          obtain ⟨j, hj, rfl, hB, hBa, hg⟩ := hrel
          by_cases hlt2 : j < m
          · obtain ⟨b', o', y, rfl, hy, r1, r2, r3⟩ := (hk.up hg).at_ hlt2
            have HY := Lib.hid (co_at hy); clear hy
            have hij : i + j < N := by have := HN.out; omega
            have hBb := hnew wr (.cells #[.int .u64 (Zm.i (Ext.a y)), .int .u64 (Zm.i (Ext.b y))] 25)
            have hBa1 := (Gn.al (w := wr) (.cells #[.int .u64 (Zm.i (Ext.a y)), .int .u64 (Zm.i (Ext.b y))] 25)).block hBa
            have hB1 := hB.up (Gn.al (.cells #[.int .u64 (Zm.i (Ext.a y)), .int .u64 (Zm.i (Ext.b y))] 25))
            have hg1 := hg.trans (Gn.al (.cells #[.int .u64 (Zm.i (Ext.a y)), .int .u64 (Zm.i (Ext.b y))] 25))
            have hlo2 := blk_lt hB
            have e1 : IntKind.i64.wrap ((i : Int) + (j : Int)) = (i : Int) + (j : Int) := IntWalk.i64_in _ (by omega)
            have e2 : 0 ≤ (i : Int) + (j : Int) := by omega
            have e3 : ((i : Int) + (j : Int)).toNat = i + j := by omega
            go_wp2_with fail
            generalize wr.alloc (.cells #[.int .u64 (Zm.i (Ext.a y)), .int .u64 (Zm.i (Ext.b y))] 25) = w1 at hBb hBa1 hB1 hg1 ⊢
            clear hB hBa hg r1 r2 r3
            generalize wr.heap.size = bb at hBb hlo2 ⊢
            have hG := accL_get (N := N) l k i j hij
            have hS := Lib.hid (accL_set (N := N) l k i j hij)
            obtain ⟨u, hu⟩ : ∃ u, u = accF l k i j (i + j) := ⟨_, rfl⟩
            rw [← hu] at hG hS
            clear hu
            have hil := Lib.hid (show i + j < (accL N l k i j).length by rw [accL_len]; omega)
            obtain ⟨c1, c2⟩ := hB1.cell hG
            have c3 := blk_lt hB1
            clear hG
            have d1 := box_a hBa1; have d2 := box_b hBa1; have d3 := blk_lt hBa1
            have f1 := box_a hBb; have f2 := box_b hBb; have f3 := blk_lt hBb
            try simp only [List.append_eq, List.cons_append, List.nil_append]
            refine wp_region_flow 15 (by kernel_rfl) (by kernel_rfl) ?_
            refine flow_one rfl (by simp) ?_
            go_big_quiet_step (fail)
            refine wpQuiet_nil ?_
            refine flow_one rfl (by simp) ?_
            go_big_quiet_step (fail)
            refine wpQuiet_nil ?_
            refine flow_one rfl (by simp) ?_
            go_big_quiet_step (fail)
            refine wpQuiet_nil ?_
            refine flow_one rfl (by simp) ?_
            go_big_quiet_step (fail)
            refine wpQuiet_nil ?_
            refine flow_one rfl (by simp) ?_
            go_big_quiet_step (fail)
            refine wpQuiet_nil ?_
            refine flow_one rfl (by simp) ?_
            go_big_quiet_step (fail)
            refine wpQuiet_nil ?_
            refine flow_one rfl (by simp) ?_
            go_big_quiet_step (fail)
            refine wpQuiet_nil ?_
            refine flow_one rfl (by simp) ?_
            go_big_quiet_step (fail)
            refine wpQuiet_nil ?_
            refine flow_one rfl (by simp) ?_
            go_big_quiet_step (fail)
            refine wpQuiet_nil ?_
            refine flow_one rfl (by simp) ?_
            go_big_quiet_step (fail)
            refine wpQuiet_nil ?_
            refine flow_one rfl (by simp) ?_
            go_big_quiet_step (fail)
            refine wpQuiet_nil ?_
            refine flow_one rfl (by simp) ?_
            go_big_quiet_step (fail)
            refine wpQuiet_nil ?_
            apply flow_is
            · simp
            · intro g K hK
              go_wp2_with fail
              refine (e_mul x y _).mono ?_
              rintro e w' ⟨rfl, g', rfl⟩
              go_wp2_with fail
              exact hK _ (up_comp g g')
            · rfl
            apply flow_is
            · simp
            · intro g K hK
              go_wp2_with fail
              refine (e_add u (x * y) _).mono ?_
              rintro e w' ⟨rfl, g', rfl⟩
              go_wp2_with fail
              exact hK _ (up_comp g g')
            · rfl
            refine flow_one rfl (by simp) ?_
            go_big_quiet_step (fail)
            refine wpQuiet_nil ?_
            intro V N X hΓ hdis g hX
            clear hΓ hdis hX
            conv => arg 5; simp only [fill]
            have hgn : Gn w1 (gr w1 g) := ⟨g, rfl⟩
            have hB' := (Blk.up hB1 hgn).set hil.out (u + x * y)
            have hBa' : (setE (gr w1 g) w.heap.size (i + j) (u + x * y)).heap[ba]? = _ := (setE_other (by omega) _).trans (hgn.block hBa1)
            have hg' := setE_below (hg1.trans hgn) (Nat.le_refl _) (i := i + j) (u + x * y)
            refine tail_storeE (b := w.heap.size) (i := i + j) (x := u + x * y) rfl rfl (Blk.up hB1 hgn) hil.out ?_
            refine wpList_nil ?_
            generalize setE (gr w1 g) w.heap.size (i + j) (u + x * y) = wr' at hB' hBa' hg' ⊢
            clear c1 c2 c3 d1 d2 d3 f1 f2 f3 e1 e2 e3 hBb hBa1 hB1 hg1
            go_wp2_with fail
            refine ⟨⟨j + 1, by omega, by go_num, ?_, hBa', hg'⟩, by simp [intOf]; omega⟩
            rw [← hS.out, HX.out, HY.out]
            exact hB'
          · obtain rfl : j = m := by omega
            go_wp2_with fail
            exact ⟨⟨i + 1, by omega, by go_num, by rw [accL_next, k1.out]; exact hB, hg⟩, by simp [intOf]; omega⟩
      · obtain rfl : i = n := by omega
        have hS : Sl wr (some ⟨w.heap.size, 0, none⟩) N N (accL N l k i 0) := by
          have h := hB.sl (by rw [accL_len]; omega)
          rwa [accL_len] at h
        have he := Lib.hid (accL_end (N := N) l k (by rw [l1.out, k1.out]; have := HN.out; omega))
        go_wp2_with fail
        refine (p_trim _ _ _ _ _ hS (by omega)).mono ?_
        rintro e w' ⟨A', n', c', rfl, hs, hg'⟩
        go_wp2_with fail
        go_ret
        have e := he.out
        rw [l1.out] at e
        rw [← e]
        exact ⟨A', n', c', rfl, hs, hg.trans hg'⟩
end Go.Proofs.Ytjchccpicddpoaa
