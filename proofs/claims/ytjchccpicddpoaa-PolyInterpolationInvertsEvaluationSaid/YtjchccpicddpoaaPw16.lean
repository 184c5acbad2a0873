/- The walk of the reference's Interpolate. -/
import Derived.Test.YtjchccpicddpoaaFb
import Derived.Test.YtjchccpicddpoaaIp
namespace Go.Proofs.Ytjchccpicddpoaa
open Go.RowKit Att Att.CRing
set_option maxHeartbeats 2000000 in
theorem x_interF (f : Ext → Ext) (hf : ∀ (x : Ext), x ≠ 0 → ∀ w, Calls Try.prog 57 #[.agg #[.int .u64 (Zm.i (Ext.a (x))), .int .u64 (Zm.i (Ext.b (x)))]] w fun e w' => e = .returned (.tuple #[.agg #[.int .u64 (Zm.i (Ext.a (f x))), .int .u64 (Zm.i (Ext.b (f x)))], .int .i64 0]) ∧ ∃ g, w' = gr w g)
    (A : Option Addr) (n c : Nat) (l : List Ext) (w : World) (hl : Sl w A n c l) (hn : n ≤ 100000) :
    Calls Try.prog 34 #[.slice A n c] w (RetSl w (outR f l n n)) := by
  have n1 := hl.le; have n2 := hl.small
  go_enter Try.func34, Try.ntmps34
  go_wp2_with fail
  go_loopw [3, 4] (fun v i wr => ∃ k : Nat, k ≤ n ∧ i = .int .i64 k ∧ isSl (outR f l n k) v wr ∧ Gn w wr) (fun _ i _ => n - (intOf i).toNat)
  case atStart => exact ⟨0, by omega, rfl, ⟨_, _, _, rfl, ⟨rfl, by omega, by omega, fun h => absurd h (by omega)⟩⟩, Gn.al _⟩
  case round =>
    obtain ⟨i, hi, rfl, hO, hg⟩ := hrel
    by_cases h1 : i < n
    · obtain ⟨b0, o0, y, rfl, hy, q1, q2, q3⟩ := (hl.up hg).at_ h1
      have HY := Lib.hid (co_at hy); clear hy
      go_wp2_with fail
      have hB : isSl (basR f y i 0) (.slice (some ⟨wr.heap.size, 0, none⟩) 1 1) (wr.alloc (.cells #[.int .u64 (Zm.i (Ext.a y)), .int .u64 (Zm.i (Ext.b y))] 25)) := sl_one y
      have hO1 := hO.gn (Gn.al (.cells #[.int .u64 (Zm.i (Ext.a y)), .int .u64 (Zm.i (Ext.b y))] 25))
      have hg1 := hg.trans (Gn.al (.cells #[.int .u64 (Zm.i (Ext.a y)), .int .u64 (Zm.i (Ext.b y))] 25))
      generalize wr.alloc (.cells #[.int .u64 (Zm.i (Ext.a y)), .int .u64 (Zm.i (Ext.b y))] 25) = w1 at *
      clear hO hg q1 q2 q3
      go_loopw [5, 6] (fun v k wr => ∃ j : Nat, j ≤ n ∧ k = .int .i64 j ∧ isSl (basR f y i j) v wr ∧ Gn w1 wr) (fun _ k _ => n - (intOf k).toNat)
      case atStart => exact ⟨0, by omega, rfl, hB, Gn.refl _⟩
      case round =>
        clear hB
        obtain ⟨j, hj, rfl, hB, hg⟩ := hrel
        by_cases h2 : j < n
        · by_cases hji : j = i
          · have HS := Lib.hid (show basR f y i (j + 1) = basR f y i j by show (if j = i then _ else _) = _; rw [if_pos hji])
            have b1 : ((j : Int) != (i : Int)) = false := by simp; omega
            go_wp2_with fail
            exact ⟨⟨j + 1, by omega, by go_num, by rw [HS.out]; exact hB, hg⟩, by simp [intOf]; omega⟩
          · have HS := Lib.hid (show basR f y i (j + 1) = trim (pmul (basR f y i j) [int (-(j : Int)) * f (nod i j), f (nod i j)]) by show (if j = i then _ else _) = _; rw [if_neg hji])
            have hne := Lib.hid (nod_ne (Ne.symm hji) (show i ≤ 1000000 by omega) (show j ≤ 1000000 by omega))
            have b1 : ((j : Int) != (i : Int)) = true := by simp; omega
            have hlb := Nat.le_trans (basR_len1 f y i j).1 (show j + 1 ≤ 1000000 by omega)
            go_wp2_with fail
            refine (x_fromInt ((i : Int) - (j : Int)) (by omega) (by omega) _).mono ?_
            rintro e w2 ⟨rfl, g2⟩
            go_wp2_with fail
            refine (hf (nod i j) hne.out _).mono ?_
            rintro e w3 ⟨rfl, g3⟩
            generalize f (nod i j) = z at *
            go_wp2_with fail
            have hb := hnew w3 (.cells #[.int .u64 (Zm.i (Ext.a z)), .int .u64 (Zm.i (Ext.b z))] 25)
            have hB4 := hB.gn (Gn.trans (Gn.trans g2 g3) (Gn.al (.cells #[.int .u64 (Zm.i (Ext.a z)), .int .u64 (Zm.i (Ext.b z))] 25)))
            have hg4 := hg.trans (Gn.trans (Gn.trans g2 g3) (Gn.al (.cells #[.int .u64 (Zm.i (Ext.a z)), .int .u64 (Zm.i (Ext.b z))] 25)))
            generalize w3.alloc (.cells #[.int .u64 (Zm.i (Ext.a z)), .int .u64 (Zm.i (Ext.b z))] 25) = w4 at *
            clear g2 g3 hB hg
            have c1 := box_a hb
            have c2 := box_b hb
            have c3 := blk_lt hb
            try simp only [List.append_eq, List.cons_append, List.nil_append]
            refine Fk.wp_region_flow 9 (by kernel_rfl) (by kernel_rfl) ?_
            refine Fk.flow_one rfl (freeB_spec (by kernel_rfl)) ?_
            go_big_quiet_step (fail)
            refine wpQuiet_nil ?_
            refine Fk.flow_one rfl (freeB_spec (by kernel_rfl)) ?_
            go_big_quiet_step (fail)
            refine wpQuiet_nil ?_
            refine Fk.flow_one rfl (freeB_spec (by kernel_rfl)) ?_
            go_big_quiet_step (fail)
            refine wpQuiet_nil ?_
            apply Fk.flow_is
            · exact freeB_spec (by kernel_rfl)
            · intro g K hK
              go_wp2_with fail
              refine (x_fromInt (-(j : Int)) (by omega) (by omega) _).mono ?_
              rintro e w' ⟨rfl, g', rfl⟩
              go_wp2_with fail
              exact hK _ (up_comp g g')
            · rfl
            refine Fk.flow_one rfl (freeB_spec (by kernel_rfl)) ?_
            go_big_quiet_step (fail)
            refine wpQuiet_nil ?_
            apply Fk.flow_is
            · exact freeB_spec (by kernel_rfl)
            · intro g K hK
              go_wp2_with fail
              refine (x_mul (int (-(j : Int))) z _).mono ?_
              rintro e w' ⟨rfl, g', rfl⟩
              go_wp2_with fail
              exact hK _ (up_comp g g')
            · rfl
            refine Fk.flow_one rfl (freeB_spec (by kernel_rfl)) ?_
            go_big_quiet_step (fail)
            refine wpQuiet_nil ?_
            refine flow_exS _ rfl (ex_two (arg_v (by simp) rfl) (arg_v (by simp) rfl) rfl (want_fill (by kernel_rfl) (by kernel_rfl))) ?_
            refine flow_exS _ rfl (ex_call2 (k_xmul hlb (by simp)) rfl (by kernel_rfl) (want_fill (by kernel_rfl) (by kernel_rfl)) (arg_s0 (by simp) rfl hB4) (arg_sv 0 rfl (by kernel_rfl) (by kernel_rfl))) ?_
            intro V N' X hΓ hdis g hX
            have ho : isSl (basR f y i (j + 1)) (V 46) (gr w4 g) := by
              rw [HS.out]
              exact isSl.up (hΓ ⟨46, sv _⟩ (.head _)).1 (hX _ (.head _))
            have hgn : Gn w4 (gr w4 g) := ⟨g, rfl⟩
            clear hΓ hdis hX
            conv => arg 5; simp only [fill, Act.put, List.setIfInBounds_toArray, List.set_cons_succ, List.set_cons_zero]
            generalize gr w4 g = w8 at *
            generalize V 45 = v45 at *
            generalize V 46 = v46 at *
            clear c1 c2 c3
            go_wp2_with fail
            exact ⟨⟨j + 1, by omega, by go_num, ho, hg4.trans hgn⟩, by simp [intOf]; omega⟩
        · obtain rfl : j = n := by omega
          go_wp2_with fail
          obtain ⟨A2, m2, c2, rfl, hs2⟩ := hO1.gn hg
          obtain ⟨A3, m3, c3, rfl, hs3⟩ := hB
          have hl2 := hs2.len
          have hl3 := hs3.len
          have hx2 := outR_len f l j i hi
          have hx3 := (basR_len1 f y i j).1
          go_wp2_with fail
          refine (x_addL _ _ _ _ _ _ (outR f l j i) (basR f y i j) _ hs2 hs3 (by omega) (by omega)).mono ?_
          intro e w5 h5
          obtain ⟨v5, rfl, hv5, g5⟩ := h5.is
          go_wp2_with fail
          refine ⟨⟨i + 1, by omega, by go_num, ?_, (hg1.trans hg).trans g5⟩, by simp [intOf]; omega⟩
          rw [← HY.out] at hv5
          exact hv5
    · obtain rfl : i = n := by omega
      go_wp2_with fail
      go_ret
      obtain ⟨A3, m3, c3, rfl, hs3⟩ := hO
      exact ⟨_, _, _, rfl, hs3, hg⟩
end Go.Proofs.Ytjchccpicddpoaa
