/- The walk of the reference's At; what is known of interpolation. -/
import Derived.Test.YtjchccpicddpoaaPw15
import Derived.Test.YtjchccpicddpoaaPw16
import Derived.Test.YtjchccpicddpoaaPw17
namespace Go.Proofs.Ytjchccpicddpoaa
open Go.RowKit Att Att.CRing
set_option maxHeartbeats 2000000 in
theorem x_atF (f : Ext → Ext) (hf : ∀ (x : Ext), x ≠ 0 → ∀ w, Calls Try.prog 57 #[.agg #[.int .u64 (Zm.i (Ext.a (x))), .int .u64 (Zm.i (Ext.b (x)))]] w fun e w' => e = .returned (.tuple #[.agg #[.int .u64 (Zm.i (Ext.a (f x))), .int .u64 (Zm.i (Ext.b (f x)))], .int .i64 0]) ∧ ∃ g, w' = gr w g)
    (A : Option Addr) (n c : Nat) (l : List Ext) (x : Ext) (w : World) (hl : Sl w A n c l) (hn : n ≤ 100000) :
    Calls Try.prog 36 #[.slice A n c, .agg #[.int .u64 (Zm.i (Ext.a (x))), .int .u64 (Zm.i (Ext.b (x)))]] w fun e w' => e = .returned (.agg #[.int .u64 (Zm.i (Ext.a (ev (outR f l n n) x))), .int .u64 (Zm.i (Ext.b (ev (outR f l n n) x)))]) ∧ ∃ g, w' = gr w g := by
  have n1 := hl.le; have n2 := hl.small
  have hK : ∀ u w, isSl l u w → Calls Try.prog 34 #[u] w (Ans (sv (outR f l n n)) w) := by
    rintro u w' ⟨B, m, d, rfl, h1⟩
    have e := h1.len
    have e2 := hl.len
    obtain rfl : n = m := by omega
    exact (x_interF f hf B n d l w' h1 hn).mono fun e w' h => h.ans
  have hL := Nat.le_trans (outR_len f l n n (Nat.le_refl n)) (show n ≤ 1000000 by omega)
  obtain ⟨z, hz⟩ : ∃ z, z = ev (outR f l n n) x := ⟨_, rfl⟩
  have HZ := Lib.hid hz.symm
  rw [← hz]
  clear hz
  go_enter Try.func36, Try.ntmps36
  go_wp2_with fail
  have g0 : Gn w ((w.alloc (.cells #[.int .u64 (Zm.i (Ext.a x)), .int .u64 (Zm.i (Ext.b x))] 25)).alloc zeroExt) := (Gn.al _).trans (Gn.al _)
  have x0 := (Gn.al zeroExt).block (hnew w (.cells #[.int .u64 (Zm.i (Ext.a x)), .int .u64 (Zm.i (Ext.b x))] 25))
  have r0 := hnew (w.alloc (.cells #[.int .u64 (Zm.i (Ext.a x)), .int .u64 (Zm.i (Ext.b x))] 25)) zeroExt
  simp only [World.size_alloc] at r0
  have e0 : (w.alloc (.cells #[.int .u64 (Zm.i (Ext.a x)), .int .u64 (Zm.i (Ext.b x))] 25)).alloc (.cells #[.int .u64 0, .int .u64 0] 25) = (w.alloc (.cells #[.int .u64 (Zm.i (Ext.a x)), .int .u64 (Zm.i (Ext.b x))] 25)).alloc zeroExt := rfl
  try rw [e0]
  clear e0
  generalize (w.alloc (.cells #[.int .u64 (Zm.i (Ext.a x)), .int .u64 (Zm.i (Ext.b x))] 25)).alloc zeroExt = w1 at *
  have hl1 : isSl l (.slice A n c) w1 := ⟨_, _, _, rfl, hl.up g0⟩
  have c1 := box_a x0
  have c2 := box_b x0
  have c3 := blk_lt x0
  try simp only [List.append_eq, List.cons_append, List.nil_append]
  refine Fk.wp_region_flow 4 (by kernel_rfl) (by kernel_rfl) ?_
  refine Fk.flow_one rfl (freeB_spec (by kernel_rfl)) ?_
  go_big_quiet_step (fail)
  refine wpQuiet_nil ?_
  refine flow_exS _ rfl (ex_call1 (hK) rfl (by kernel_rfl) (want_fill (by kernel_rfl) (by kernel_rfl)) (arg_s0 (by simp) rfl hl1)) ?_
  refine Fk.flow_one rfl (freeB_spec (by kernel_rfl)) ?_
  go_big_quiet_step (fail)
  refine wpQuiet_nil ?_
  refine flow_knS (.agg #[.int .u64 (Zm.i (Ext.a (z))), .int .u64 (Zm.i (Ext.b (z)))]) rfl (ex_call2 (k_xev hL HZ.out) rfl (by kernel_rfl) (want_fill (by kernel_rfl) (by kernel_rfl)) (arg_sv 0 rfl (by kernel_rfl) (by kernel_rfl)) (arg_v (by simp) rfl)) ?_
  intro V N' X hΓ hdis g hX
  clear hΓ hdis hX
  conv => arg 5; simp only [fill, Act.put, List.setIfInBounds_toArray, List.set_cons_succ, List.set_cons_zero]
  generalize V 6 = v6 at *
  have hgn : Gn w1 (gr w1 g) := ⟨g, rfl⟩
  have r1 := hgn.block r0
  generalize gr w1 g = w2 at *
  have hR := set2_same r1 z
  have hg := set2_below (g0.trans hgn) (b := w.heap.size + 1) (by omega) z
  refine tail_store (b := w.heap.size + 1) (x := z) rfl rfl r1 ?_
  refine wpList_nil ?_
  have v1 := box_a hR
  have v2 := box_b hR
  generalize set2 w2 (w.heap.size + 1) z = w3 at *
  clear c1 c2 c3
  go_wp2_with fail
  exact bodyPost_ret (v := .agg #[.int .u64 (Zm.i (Ext.a (z))), .int .u64 (Zm.i (Ext.b (z)))]) (by simp [results, Try.results36, go_sem, v1, v2]) rfl ⟨rfl, hg⟩

theorem inter_ex : ∃ I : List Ext → List Ext,
    (∀ {l : List Ext}, l.length ≤ 100000 → ∀ u w, isSl l u w → Calls Try.prog 33 #[u] w (Ans (sv (I l)) w)) ∧
    (∀ {l : List Ext}, l.length ≤ 100000 → ∀ u w, isSl l u w → Calls Try.prog 34 #[u] w (Ans (sv (I l)) w)) ∧
    (∀ {l : List Ext} {x y : Ext}, l.length ≤ 100000 → ev (I l) x = y → ∀ u v w, isSl l u w → isV (.agg #[.int .u64 (Zm.i (Ext.a (x))), .int .u64 (Zm.i (Ext.b (x)))]) v w → Calls Try.prog 35 #[u, v] w (Ans (fun v _ _ => v = .agg #[.int .u64 (Zm.i (Ext.a (y))), .int .u64 (Zm.i (Ext.b (y)))]) w)) ∧
    (∀ {l : List Ext} {x y : Ext}, l.length ≤ 100000 → ev (I l) x = y → ∀ u v w, isSl l u w → isV (.agg #[.int .u64 (Zm.i (Ext.a (x))), .int .u64 (Zm.i (Ext.b (x)))]) v w → Calls Try.prog 36 #[u, v] w (Ans (fun v _ _ => v = .agg #[.int .u64 (Zm.i (Ext.a (y))), .int .u64 (Zm.i (Ext.b (y)))]) w)) ∧
    (∀ l : List Ext, (I l).length ≤ l.length) ∧ (∀ l : List Ext, trim (I l) = I l) ∧ (∀ (l : List Ext) (j : Nat), l.length ≤ 100000 → j < l.length → ev (I l) (nde j) = co l j) := by
  obtain ⟨f, hf⟩ : ∃ f : Ext → Ext, ∀ x, f x = Fld.inv x := ⟨_, fun _ => rfl⟩
  have hp : ∀ (x : Ext), x ≠ 0 → ∀ w, Calls Try.prog 68 #[.agg #[.int .u64 (Zm.i (Ext.a (x))), .int .u64 (Zm.i (Ext.b (x)))]] w fun e w' => e = .returned (.tuple #[.agg #[.int .u64 (Zm.i (Ext.a (f x))), .int .u64 (Zm.i (Ext.b (f x)))], .int .i64 0]) ∧ ∃ g, w' = gr w g := by
    intro x hx w; rw [hf x]; exact e_inv x hx w
  have hx : ∀ (x : Ext), x ≠ 0 → ∀ w, Calls Try.prog 57 #[.agg #[.int .u64 (Zm.i (Ext.a (x))), .int .u64 (Zm.i (Ext.b (x)))]] w fun e w' => e = .returned (.tuple #[.agg #[.int .u64 (Zm.i (Ext.a (f x))), .int .u64 (Zm.i (Ext.b (f x)))], .int .i64 0]) ∧ ∃ g, w' = gr w g := by
    intro x hx w; rw [hf x]; exact x_inv x hx w
  have hi : ∀ x : Ext, x ≠ 0 → x * f x = 1 := by intro x h; rw [hf x]; exact Fld.mul_inv x h
  clear hf
  refine ⟨fun l => outP f l l.length l.length, ?_, ?_, ?_, ?_, fun l => outP_len f l _ _ (Nat.le_refl _), fun l => outP_trim f l _ _, fun l j h1 h2 => ev_out_node hi l (by omega) h2⟩
  · rintro l h u w ⟨A, n, c, rfl, h1⟩
    obtain rfl := h1.len
    exact (p_interF f hp A _ c l w h1 h).mono fun e w' h => h.ans
  · rintro l h u w ⟨A, n, c, rfl, h1⟩
    obtain rfl := h1.len
    rw [show (fun l => outP f l l.length l.length) l = outR f l l.length l.length from out_same hi l (n := l.length) (by omega)]
    exact (x_interF f hx A _ c l w h1 h).mono fun e w' h => h.ans
  · rintro l x y h hy u v w ⟨A, n, c, rfl, h1⟩ rfl
    obtain rfl := h1.len
    rw [show ev ((fun l => outP f l l.length l.length) l) x = atS f l l.length x l.length from ev_outP f l _ x _ (Nat.le_refl _)] at hy
    subst hy
    exact (p_atF f hp A _ c l x w h1 h).mono fun e w' h => known_ans h
  · rintro l x y h hy u v w ⟨A, n, c, rfl, h1⟩ rfl
    obtain rfl := h1.len
    rw [show (fun l => outP f l l.length l.length) l = outR f l l.length l.length from out_same hi l (n := l.length) (by omega)] at hy
    subst hy
    exact (x_atF f hx A _ c l x w h1 h).mono fun e w' h => known_ans h
end Go.Proofs.Ytjchccpicddpoaa
