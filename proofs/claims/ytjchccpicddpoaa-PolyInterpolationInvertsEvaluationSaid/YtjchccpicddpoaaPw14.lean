/- The walk of weights. -/
import Derived.Test.YtjchccpicddpoaaPw13
import Derived.Test.YtjchccpicddpoaaNd
namespace Go.Proofs.Ytjchccpicddpoaa
open Go.RowKit Att Att.CRing
def wtsF (f : Ext → Ext) (n : Nat) : List Ext := tab n fun i => f (wpr i n)
theorem wtsF_len (f : Ext → Ext) (n : Nat) : (wtsF f n).length = n := tab_length _ _
theorem wtsF_get (f : Ext → Ext) {n i : Nat} (h : i < n) : (wtsF f n)[i]? = some (f (wpr i n)) := by
  unfold wtsF tab; rw [List.getElem?_map, List.getElem?_range h]; rfl

set_option maxHeartbeats 2000000 in
theorem p_weightsB (f : Ext → Ext) (hf : ∀ (x : Ext), x ≠ 0 → ∀ w, Calls Try.prog 68 #[.agg #[.int .u64 (Zm.i (Ext.a (x))), .int .u64 (Zm.i (Ext.b (x)))]] w fun e w' => e = .returned (.tuple #[.agg #[.int .u64 (Zm.i (Ext.a (f x))), .int .u64 (Zm.i (Ext.b (f x)))], .int .i64 0]) ∧ ∃ g, w' = gr w g) (n : Nat) (hn : n ≤ 1000000) (w : World) :
    Calls Try.prog 56 #[.int .i64 n] w (fun e w' => e = .returned (.slice (some ⟨w.heap.size, 0, none⟩) n n) ∧ Blk w' w.heap.size (wtsF f n) ∧ Gn w w') := by
  have HR := Lib.hid (wtsF_len f n)
  go_enter Try.func56, Try.ntmps56
  go_wp2_with (at_make; refine wpList_mk (.tmp 7) (.tmp 7) n rfl rfl (by omega) ?_)
  go_loopw [10] (fun v wr => ∃ i : Nat, i ≤ n ∧ v = .int .i64 i ∧ Blk wr w.heap.size (Fi (wtsF f n) i) ∧ Gn w wr) (fun v _ => n - (intOf v).toNat)
  case atStart => exact ⟨0, by omega, rfl, by rw [Fi_zero, HR.out]; exact hnew w _, Gn.al _⟩
  case round =>
    obtain ⟨i, hi, rfl, hB, hg⟩ := hrel
    by_cases hlt : i < n
    · have HG := Lib.hid (wtsF_get f hlt)
      have hil := Lib.hid (show i < (Fi (wtsF f n) i).length by rw [Fi_length _ (by rw [HR.out]; exact hi), HR.out]; exact hlt)
      have H0 := Lib.hid (Fi_get (wtsF f n) (i := i) (by rw [HR.out]; exact hlt))
      go_wp2_with fail
      refine (p_node 1 (by omega) (by omega) _).mono ?_
      rintro e w2 ⟨rfl, g2⟩
      have e1 : (int 1 : Ext) = wpr i 0 := int_one
      rw [e1]
      clear e1
      have hlo := Nat.lt_of_lt_of_le (blk_lt hB) (Gn.size g2)
      have hB := (hB.up g2).up (Gn.al (.cells #[.int .u64 (Zm.i (Ext.a (wpr i 0))), .int .u64 (Zm.i (Ext.b (wpr i 0)))] 25))
      have hg := (hg.trans g2).trans (Gn.al (.cells #[.int .u64 (Zm.i (Ext.a (wpr i 0))), .int .u64 (Zm.i (Ext.b (wpr i 0)))] 25))
      have hbx := hnew w2 (.cells #[.int .u64 (Zm.i (Ext.a (wpr i 0))), .int .u64 (Zm.i (Ext.b (wpr i 0)))] 25)
      go_wp2_with fail
      generalize w2.alloc (.cells #[.int .u64 (Zm.i (Ext.a (wpr i 0))), .int .u64 (Zm.i (Ext.b (wpr i 0)))] 25) = w3 at hB hg hbx ⊢
      clear g2
      generalize w2.heap.size = bp at hlo hbx ⊢
      go_loopw [15] (fun v wi => ∃ k : Nat, k ≤ n ∧ v = .int .i64 k ∧ Blk wi w.heap.size (Fi (wtsF f n) i) ∧ wi.heap[bp]? = some (.cells #[.int .u64 (Zm.i (Ext.a (wpr i k))), .int .u64 (Zm.i (Ext.b (wpr i k)))] 25) ∧ Gn w wi) (fun v _ => n - (intOf v).toNat)
      case atStart => exact ⟨0, by omega, rfl, hB, hbx, hg⟩
      case round =>
        clear hB hbx hg
        obtain ⟨k, hk, rfl, hB, hbx, hg⟩ := hrel
        by_cases hlk : k < n
        · by_cases hki : k = i
          · have hs : wpr i (k + 1) = wpr i k := by show (if k = i then _ else _) = _; rw [if_pos hki]
            have HS := Lib.hid hs; clear hs
            have b1 : ((k : Int) == (i : Int)) = true := by simp; omega
            generalize wpr i k = v at *
            go_wp2_with fail
            refine ⟨⟨k + 1, by omega, by go_num, hB, by rw [HS.out]; exact hbx, hg⟩, by simp [intOf]; omega⟩
          · have hs : wpr i (k + 1) = wpr i k * int ((i : Int) - (k : Int)) := by show (if k = i then _ else _) = _; rw [if_neg hki]; rfl
            have HS := Lib.hid hs; clear hs
            have b3 : ((k : Int) != (i : Int)) = true := by simp; omega
            generalize wpr i k = v at *
            have c1 := box_a hbx
            have c2 := box_b hbx
            have c3 := blk_lt hbx
            go_wp2_with fail
            try simp only [List.append_eq, List.cons_append, List.nil_append]
            refine wp_region_flow 6 (by kernel_rfl) (by kernel_rfl) ?_
            refine flow_one rfl (by simp) ?_
            go_big_quiet_step (fail)
            refine wpQuiet_nil ?_
            refine flow_one rfl (by simp) ?_
            go_big_quiet_step (fail)
            refine wpQuiet_nil ?_
            refine flow_one rfl (by simp) ?_
            go_big_quiet_step (fail)
            refine wpQuiet_nil ?_
            refine flow_one rfl (by simp) ?_
            go_big_quiet_step (fail)
            refine wpQuiet_nil ?_
            apply flow_is
            · simp
            · intro g K hK
              go_wp2_with fail
              refine (p_node ((i : Int) - (k : Int)) (by omega) (by omega) _).mono ?_
              rintro e w' ⟨rfl, g', rfl⟩
              go_wp2_with fail
              exact hK _ (up_comp g g')
            · rfl
            apply flow_is
            · simp
            · intro g K hK
              go_wp2_with fail
              refine (e_mul v (int ((i : Int) - (k : Int))) _).mono ?_
              rintro e w' ⟨rfl, g', rfl⟩
              go_wp2_with fail
              exact hK _ (up_comp g g')
            · rfl
            intro V N X hΓ hdis g hX
            clear hΓ hdis hX
            conv => arg 5; simp only [fill]
            have hgn : Gn wr (gr wr g) := ⟨g, rfl⟩
            have hB2 := hB.up hgn
            have hb2 := hgn.block hbx
            have hg2 := hg.trans hgn
            generalize gr wr g = w4 at hB2 hb2 hg2 ⊢
            refine tail_store (b := bp) (x := v * int ((i : Int) - (k : Int))) rfl rfl hb2 ?_
            refine wpList_nil ?_
            have hB3 : Blk (set2 w4 bp (v * int ((i : Int) - (k : Int)))) w.heap.size (Fi (wtsF f n) i) := (set2_other (by omega) _).trans hB2
            have hb3 := set2_same hb2 (v * int ((i : Int) - (k : Int)))
            have hg3 := set2_below hg2 (b := bp) (by omega) (v * int ((i : Int) - (k : Int)))
            generalize set2 w4 bp (v * int ((i : Int) - (k : Int))) = w5 at hB3 hb3 hg3 ⊢
            clear c1 c2 c3 hB hbx hg hB2 hb2 hg2 hgn
            go_wp2_with fail
            refine ⟨⟨k + 1, by omega, by go_num, hB3, by rw [HS.out]; exact hb3, hg3⟩, by simp [intOf]; omega⟩
        · obtain rfl : k = n := by omega
          have hne := Lib.hid (wpr_ne (i := i) (k := k) (by omega) hn)
          generalize wpr i k = v at *
          have c1 := box_a hbx
          have c2 := box_b hbx
          have c3 := blk_lt hbx
          go_wp2_with fail
          refine (hf v hne.out _).mono ?_
          rintro e w6 ⟨rfl, g6⟩
          have hB2 := hB.up g6
          have hg2 := hg.trans g6
          obtain ⟨d1, d2⟩ := hB2.cell H0.out
          have d3 := blk_lt hB2
          have z1 := box_fz (i := i * 2) hB2
          have z2 := box_fz (i := i * 2 + 1) hB2
          have hB' := hB2.set hil.out (f v)
          have hg' := setE_below hg2 (Nat.le_refl _) (i := i) (f v)
          clear c1 c2 c3 g6
          go_wp2_with fail
          refine ⟨⟨i + 1, by omega, by go_num, ?_, hg'⟩, by simp [intOf]; omega⟩
          rw [← Fi_set HG.out]
          exact hB'
    · obtain rfl : i = n := by omega
      have e := Lib.hid (Fi_end (wtsF f i))
      have e2 : Fi (wtsF f i) i = wtsF f i := by have := e.out; rwa [HR.out] at this
      have hS : Blk wr w.heap.size (wtsF f i) := by rwa [e2] at hB
      clear e2
      go_wp2_with fail
      go_ret
      exact ⟨rfl, hS, hg⟩
theorem p_weightsF (f : Ext → Ext) (hf : ∀ (x : Ext), x ≠ 0 → ∀ w, Calls Try.prog 68 #[.agg #[.int .u64 (Zm.i (Ext.a (x))), .int .u64 (Zm.i (Ext.b (x)))]] w fun e w' => e = .returned (.tuple #[.agg #[.int .u64 (Zm.i (Ext.a (f x))), .int .u64 (Zm.i (Ext.b (f x)))], .int .i64 0]) ∧ ∃ g, w' = gr w g) (n : Nat) (hn : n ≤ 1000000) (w : World) :
    Calls Try.prog 56 #[.int .i64 n] w (fun e w' => ∃ A c, e = .returned (.slice A n c) ∧ Sl w' A n c (wtsF f n) ∧ Gn w w') := by
  refine (p_weightsB f hf n hn w).mono ?_
  rintro e w' ⟨rfl, hB, hg⟩
  have h := hB.sl (by rw [wtsF_len]; omega)
  rw [wtsF_len] at h
  exact ⟨_, _, rfl, h, hg⟩
end Go.Proofs.Ytjchccpicddpoaa
