/- The walk of poly.DivRoot. -/
import Derived.Test.YtjchccpicddpoaaPw7
import Derived.Test.YtjchccpicddpoaaFlc
namespace Go.Proofs.Ytjchccpicddpoaa
open Go.RowKit Att Att.CRing
/-- a made row of zeros -/
def mkRel (m : Nat) : Rel := fun v n y => ∃ b, v = .slice (some ⟨b, 0, none⟩) m m ∧ n ≤ b ∧ Blk y b (List.replicate m 0)
theorem ex_mk {ops : Array Oper} {W : World} {Γ : List Ent} {a : Act} (d : Nat) (l c : Operand) (ty : TypeId) (pos : String) (aft : Array Edge) (m : Nat) (hl : ∀ V, (fill Γ V a).eval l = .int .i64 m) (hc : ∀ V, (fill Γ V a).eval c = .int .i64 m) (hm : m ≤ 1099511627776) :
    ExStep Try.prog ops W ⟨some d, .makeSlice 22 l c, ty, pos, aft, none⟩ Γ a (mkRel m) := by
  intro V N X hΓ g hX K hK
  refine wpList_mk l c m (hl V) (hc V) hm ?_
  refine wpList_nil ?_
  exact hK _ _ (Gn.al _).below ⟨_, rfl, Nat.le_refl _, hnew _ _⟩
theorem end_mkbox {W : World} {Γ : List Ent} {V : Nat → Value} {N : Nat → Nat} {X : Nat → World} (h : ∀ e ∈ Γ, e.rel (V e.slot) (N e.slot) (X e.slot) ∧ Up W (X e.slot) ∧ W.heap.size ≤ N e.slot)
    (hd : ∀ e ∈ Γ, ∀ e' ∈ Γ, e.slot ≠ e'.slot → (X e.slot).heap.size ≤ N e'.slot ∨ (X e'.slot).heap.size ≤ N e.slot)
    {w : World} (hX : ∀ e ∈ Γ, Up (X e.slot) w) (s t m : Nat) (hs : ⟨s, mkRel m⟩ ∈ Γ) (ht : ⟨t, newBox⟩ ∈ Γ) (hne : s ≠ t) :
    ∃ b c, (V s = .slice (some ⟨b, 0, none⟩) m m ∧ V t = .pointer (some ⟨c, 0, none⟩)) ∧ b ≠ c ∧ W.heap.size ≤ b ∧ W.heap.size ≤ c ∧ Blk w b (List.replicate m 0) ∧ w.heap[c]? = some zeroExt := by
  have h0 := h _ hs
  dsimp only at h0
  obtain ⟨⟨b, b1, b2, b3⟩, _, b4⟩ := h0
  obtain ⟨c, c1, c2, c3, c4, c5⟩ := end_box h hX ht
  have b5 := blk_lt b3
  refine ⟨b, c, ⟨b1, c1⟩, ?_, Nat.le_trans b4 b2, c2, b3.up (Gn.of (hX _ hs)), c3⟩
  have := hd _ hs _ ht hne
  dsimp only at this
  omega
/-- the boxes x, r and v of DivRoot, and its row -/
structure Dw (w wr : World) (bq bv : Nat) (x r v : Ext) (q : List Ext) : Prop where
  g : Gn w wr
  x : wr.heap[w.heap.size]? = some (.cells #[.int .u64 (Zm.i (Ext.a x)), .int .u64 (Zm.i (Ext.b x))] 25)
  r : wr.heap[w.heap.size + 1]? = some (.cells #[.int .u64 (Zm.i (Ext.a r)), .int .u64 (Zm.i (Ext.b r))] 25)
  q : Blk wr bq q
  v : wr.heap[bv]? = some (.cells #[.int .u64 (Zm.i (Ext.a v)), .int .u64 (Zm.i (Ext.b v))] 25)
  hq : w.heap.size + 1 < bq
  hv : w.heap.size + 1 < bv
  ne : bq ≠ bv
theorem Dw.up {w wr w2 : World} {bq bv : Nat} {x r v : Ext} {q : List Ext} (h : Dw w wr bq bv x r v q) (g : Gn wr w2) : Dw w w2 bq bv x r v q := ⟨h.g.trans g, g.block h.x, g.block h.r, h.q.up g, g.block h.v, h.hq, h.hv, h.ne⟩
theorem Dw.setV {w wr : World} {bq bv : Nat} {x r v : Ext} {q : List Ext} (h : Dw w wr bq bv x r v q) (u : Ext) : Dw w (set2 wr bv u) bq bv x r u q :=
  have h1 := h.hq; have h2 := h.hv; have h3 := h.ne
  ⟨set2_below h.g (by omega) u, set2_keep _ h.x (by omega), set2_keep _ h.r (by omega), (set2_other (by omega) u).trans h.q, set2_same h.v u, h1, h2, h3⟩
theorem Dw.setR {w wr : World} {bq bv : Nat} {x r v : Ext} {q : List Ext} (h : Dw w wr bq bv x r v q) (u : Ext) : Dw w (set2 wr (w.heap.size + 1) u) bq bv x u v q :=
  have h1 := h.hq; have h2 := h.hv; have h3 := h.ne
  ⟨set2_below h.g (by omega) u, set2_keep _ h.x (by omega), set2_same h.r u, (set2_other (by omega) u).trans h.q, set2_keep _ h.v (by omega), h1, h2, h3⟩
theorem Dw.setQ {w wr : World} {bq bv : Nat} {x r v : Ext} {q : List Ext} (h : Dw w wr bq bv x r v q) {i : Nat} (hi : i < q.length) (u : Ext) : Dw w (setE wr bq i u) bq bv x r v (q.set i u) :=
  have h1 := h.hq; have h2 := h.hv; have h3 := h.ne
  ⟨setE_below h.g (by omega) u, (setE_other (by omega) u).trans h.x, (setE_other (by omega) u).trans h.r, h.q.set hi u, (setE_other (by omega) u).trans h.v, h1, h2, h3⟩

set_option maxHeartbeats 2000000 in
theorem p_divRoot (A : Option Addr) (n c : Nat) (l : List Ext) (x : Ext) (w : World) (hl : Sl w A n c l) (hn : n ≤ 1000000) :
    Calls Try.prog 29 #[.slice A n c, .agg #[.int .u64 (Zm.i (Ext.a (x))), .int .u64 (Zm.i (Ext.b (x)))]] w (RetSlE w (trim (dq l x)) (ev l x)) := by
  have l1 := Lib.hid hl.len
  rcases Nat.eq_zero_or_pos n with h0 | h0
  · subst h0
    have hl0 : l = [] := List.eq_nil_of_length_eq_zero l1.out
    subst hl0
    go_enter Try.func29, Try.ntmps29
    go_wp2_with fail
    refine bodyPost_ret (v := .tuple #[.slice none 0 0, .agg #[.int .u64 (Zm.i (Ext.a ((0 : Ext)))), .int .u64 (Zm.i (Ext.b ((0 : Ext))))]]) (by simp [results, Try.results29, go_sem]; exact ⟨rfl, rfl⟩) rfl ⟨_, _, _, rfl, ?_, ?_⟩
    · exact Sl.nil _
    · exact Gn.of (by repeat (first | assumption | exact Below.refl _ _ | apply Below.drew | apply below_drewN | apply up_gr | apply below_al | (refine below_gr ?_ (by first | (simp; done) | (simp; omega)) _) | (refine Below.alloc ?_ (by first | (simp; done) | (simp; omega)) _) | (refine Below.setCell ?_ (by first | (simp; done) | (simp; omega)) _)))
  · obtain ⟨N, rfl⟩ : ∃ N, n = N + 1 := ⟨n - 1, by omega⟩
    have b1 : (((N + 1 : Nat) : Int) == 0) = false := by simp; omega
    have b2 : (((N : Int) + 1) == 0) = false := by simp; omega
    obtain ⟨b, o, z, rfl, hz, q1, q2, q3⟩ := hl.at_ (j := N) (by omega)
    have HZ := Lib.hid hz; clear hz
    have s1 : (((N + 1 : Nat) : Int) - 1) = (N : Int) := by omega
    go_enter Try.func29, Try.ntmps29
    go_wp2_with fail
    have g0 : Gn w ((w.alloc (.cells #[.int .u64 (Zm.i (Ext.a x)), .int .u64 (Zm.i (Ext.b x))] 25)).alloc zeroExt) := (Gn.al _).trans (Gn.al _)
    have x0 := (Gn.al zeroExt).block (hnew w (.cells #[.int .u64 (Zm.i (Ext.a x)), .int .u64 (Zm.i (Ext.b x))] 25))
    have r0 := hnew (w.alloc (.cells #[.int .u64 (Zm.i (Ext.a x)), .int .u64 (Zm.i (Ext.b x))] 25)) zeroExt
    have z0 : ((w.alloc (.cells #[.int .u64 (Zm.i (Ext.a x)), .int .u64 (Zm.i (Ext.b x))] 25)).alloc zeroExt).heap.size = w.heap.size + 1 + 1 := by simp
    simp only [World.size_alloc] at r0
    unfold zeroExt at g0 x0 r0 z0
    generalize (w.alloc (.cells #[.int .u64 (Zm.i (Ext.a x)), .int .u64 (Zm.i (Ext.b x))] 25)).alloc _ = w1 at *
    replace z0 := Lib.hid z0
    clear q1 q2 q3
    obtain ⟨b1', o1, z1, he1, hz1, q1, q2, q3⟩ := (hl.up g0).at_ (j := N) (by omega)
    cases he1
    obtain rfl : z1 = z := Option.some.inj (hz1.symm.trans HZ.out)
    clear hz1
    try simp only [List.append_eq, List.cons_append, List.nil_append]
    refine Fc.wp_region_flow 12 6 16 (by kernel_rfl) (by kernel_rfl) (by kernel_rfl) (by simp) ?_
    refine Fc.flow_one rfl (by simp) (freeB_spec (by kernel_rfl)) ?_
    go_big_quiet_step (fail)
    refine wpQuiet_nil ?_
    apply Fc.flow_is
    · simp
    · exact freeB_spec (by kernel_rfl)
    · intro g K hK
      go_wp2_with fail
      exact hK _ (Up.refl _)
    · rfl
    refine Fc.flow_one rfl (by simp) (freeB_spec (by kernel_rfl)) ?_
    go_big_quiet_step (fail)
    refine wpQuiet_nil ?_
    refine Fc.flow_ex (mkRel N) rfl (by simp) (ex_mk _ _ _ _ _ _ N (fun V => congrArg (Value.int .i64) (by omega)) (fun V => congrArg (Value.int .i64) (by omega)) (by omega)) ?_
    refine Fc.flow_one rfl (by simp) (freeB_spec (by kernel_rfl)) ?_
    go_big_quiet_step (fail)
    refine wpQuiet_nil ?_
    refine Fc.flow_one rfl (by simp) (freeB_spec (by kernel_rfl)) ?_
    go_big_quiet_step (fail)
    refine wpQuiet_nil ?_
    apply Fc.flow_is
    · simp
    · exact freeB_spec (by kernel_rfl)
    · intro g K hK
      go_wp2_with fail
      exact hK _ (Up.refl _)
    · rfl
    refine Fc.flow_one rfl (by simp) (freeB_spec (by kernel_rfl)) ?_
    go_big_quiet_step (fail)
    refine wpQuiet_nil ?_
    refine Fc.flow_one rfl (by simp) (freeB_spec (by kernel_rfl)) ?_
    go_big_quiet_step (fail)
    refine wpQuiet_nil ?_
    refine Fc.flow_one rfl (by simp) (freeB_spec (by kernel_rfl)) ?_
    go_big_quiet_step (fail)
    refine wpQuiet_nil ?_
    refine Fc.flow_ex newBox rfl (by simp) (ex_alloc _ _ _ _) ?_
    refine Fc.flow_cp rfl ?_
    intro V N' X hcpy hΓ hdis g hX
    obtain ⟨bq, bv, ⟨v1, v2⟩, hne, n1, n2, hQ0, hV0⟩ := end_mkbox hΓ hdis hX 16 7 N (by simp) (by simp) (by decide)
    have hgn : Gn w1 (gr w1 g) := ⟨g, rfl⟩
    clear hΓ hdis hX
    have z0 := z0.out
    have hD0 : Dw w (gr w1 g) bq bv x 0 0 (List.replicate N 0) := ⟨g0.trans hgn, hgn.block x0, hgn.block r0, hQ0, hV0, by omega, by omega, hne⟩
    have hD := hD0.setV z1
    generalize gr w1 g = w2 at *
    conv => arg 5; simp only [fill, hcpy, v1, v2, b2, Act.put, List.setIfInBounds_toArray, List.set_cons_succ, List.set_cons_zero]
    have t1 := box_a hD0.v
    have t2 := box_b hD0.v
    have t3 := box_fz (i := 0) hD0.v
    have t4 := box_fz (i := 1) hD0.v
    have hgl : Gn w w2 := g0.trans hgn
    clear v1 v2 hcpy hQ0 hV0 x0 r0 n1 n2 q1 q2 q3 hD0 hgn z0 g0
    go_wp2_with fail
    unfold set2 at hD
    generalize (w2.setCell ⟨bv, 0, none⟩ (.int .u64 (Zm.i (Ext.a z1)))).setCell ⟨bv, 0 + 1, none⟩ (.int .u64 (Zm.i (Ext.b z1))) = w3 at *
    have hlen := Lib.hid (show (dq l x).length = N by rw [dq_len, l1.out]; omega)
    have hev := Lib.hid (show ev (l.drop N) x = z1 by
      rw [ev_drop HZ.out x, List.drop_of_length_le (by rw [l1.out]; exact Nat.le_refl _), ev_nil, zero_mul, zero_add])
    go_loopw [8] (fun v wr => ∃ k : Nat, k ≤ N ∧ v = .int .i64 ((k : Int) - 1) ∧ Dw w wr bq bv x 0 (ev (l.drop k) x) (Bi (dq l x) k)) (fun v _ => (intOf v + 1).toNat)
    case atStart =>
      refine ⟨N, Nat.le_refl _, congrArg (Value.int .i64) (by omega), ?_⟩
      have e := Bi_start (dq l x)
      rw [hlen.out] at e
      rw [hev.out, e]
      exact hD
    case round =>
      clear hD
      obtain ⟨k, hk, rfl, hb⟩ := hrel
      cases k with
      | zero =>
        have hS : Sl wr (some ⟨bq, 0, none⟩) N N (dq l x) := by
          have e := Bi_end (dq l x)
          have h := hb.q.sl (by rw [Bi_length _ (by omega), hlen.out]; omega)
          rw [Bi_length _ (by omega), hlen.out, e] at h
          exact h
        rw [List.drop_zero] at hb
        have c1 := box_a hb.v
        have c2 := box_b hb.v
        have c3 := blk_lt hb.v
        clear hev hlen
        go_wp2_with fail
        try simp only [List.append_eq, List.cons_append, List.nil_append]
        refine wp_region_flow 4 (by kernel_rfl) (by kernel_rfl) ?_
        refine flow_one rfl (by simp) ?_
        go_big_quiet_step (fail)
        refine wpQuiet_nil ?_
        refine flow_ex (slRel wr.heap.size (trim (dq l x))) rfl ?_ ?_
        · intro V N' X hΓ g hX K hK
          simp only [fill]
          go_wp2_with fail
          refine (p_trimO _ _ _ _ _ (hS.up ⟨g, rfl⟩) (by omega)).mono ?_
          rintro e w' ⟨v', rfl, ho', g'⟩
          go_wp2_with fail
          exact hK _ _ g'.below (ho'.base (gr_size _ g))
        refine flow_one rfl (freeB_spec (by kernel_rfl)) ?_
        go_big_quiet_step (fail)
        refine wpQuiet_nil ?_
        refine flow_ex (slRel wr.heap.size (trim (dq l x))) rfl ?_ ?_
        · intro V N' X hΓ g hX K hK
          have hT : Ow (X 43) wr.heap.size (V 43) (trim (dq l x)) := (hΓ ⟨43, slRel wr.heap.size (trim (dq l x))⟩ (by simp)).1
          have hup := hX ⟨43, slRel wr.heap.size (trim (dq l x))⟩ (by simp) (by simp [Oper.looksAt, Op.operands])
          conv => arg 5; simp only [fill, Act.put, List.setIfInBounds_toArray, List.set_cons_succ, List.set_cons_zero]
          go_wp2_with fail
          exact hK _ _ (Up.refl _) (hT.up (Gn.of hup))
        intro V N' X hΓ hdis g hX
        have ho := end_sl hΓ hX (s := 4) (B := wr.heap.size) (l := trim (dq l x)) (by simp)
        clear hΓ hdis hX
        have hgn : Gn wr (gr wr g) := ⟨g, rfl⟩
        have hb2 := hb.up hgn
        have hlo := blk_lt hb.v
        have p1 := hb.hv
        generalize gr wr g = w2 at *
        conv => arg 5; simp only [fill, Act.put, List.setIfInBounds_toArray, List.set_cons_succ, List.set_cons_zero]
        generalize V 43 = v43 at *
        generalize V 4 = vv at *
        clear c1 c2 c3
        have r1 := box_a hb2.r
        have r2 := box_b hb2.r
        have r3 := box_fz (i := 0) hb2.r
        have r4 := box_fz (i := 1) hb2.r
        have hR := hb2.setR (ev l x)
        have ho2 : Ow (set2 w2 (w.heap.size + 1) (ev l x)) wr.heap.size vv (trim (dq l x)) := ho.far (fun k hk _ => set2_other (by omega) _)
        obtain ⟨A', c', rfl, hs⟩ := ho2.sl
        go_wp2_with fail
        have s1 := box_a hR.r
        have s2 := box_b hR.r
        unfold set2 at s1 s2 hR hs
        exact bodyPost_ret (v := .tuple #[.slice A' _ c', .agg #[.int .u64 (Zm.i (Ext.a (ev l x))), .int .u64 (Zm.i (Ext.b (ev l x)))]]) (by simp [results, Try.results29, go_sem, s1, s2]) rfl ⟨_, _, _, rfl, hs, hR.g⟩
      | succ j =>
        rw [show ((j + 1 : Nat) : Int) - 1 = (j : Int) from by omega]
        have hb0 := hb
        obtain ⟨b, o, y, he, hx, q1, q2, q3⟩ := (hl.up hb.g).at_ (j := j) (by omega)
        cases he
        have HE := Lib.hid (ev_drop hx x)
        have HY := Lib.hid hx; clear hx
        have hG := dq_get (l := l) x (i := j) (by rw [l1.out]; omega)
        have HS := Lib.hid (Bi_set hG); clear hG
        have hil := Lib.hid (show j < (Bi (dq l x) (j + 1)).length by rw [Bi_length _ (by rw [hlen.out]; exact hk), hlen.out]; omega)
        have HB0 := Lib.hid (Bi_get (dq l x) (k := j))
        generalize hV : ev (l.drop (j + 1)) x = v at *
        clear hV
        have c1 := box_a hb.v
        have c2 := box_b hb.v
        have c3 := blk_lt hb.v
        have d1 := box_a hb.x
        have d2 := box_b hb.x
        have d3 := blk_lt hb.x
        obtain ⟨e1, e2⟩ := hb.q.cell HB0.out
        have e3 := blk_lt hb.q
        have e4 := box_fz (i := j * 2) hb.q
        have e5 := box_fz (i := j * 2 + 1) hb.q
        have hb1 := hb.setQ hil.out v
        unfold setE at hb1
        have p1 := hb.hq; have p2 := hb.hv; have p3 := hb.ne
        go_wp2_with fail
        generalize ((wr.setCell ⟨bq, j * 2, none⟩ (.int .u64 (Zm.i (Ext.a v)))).setCell ⟨bq, j * 2 + 1, none⟩ (.int .u64 (Zm.i (Ext.b v)))) = w1 at hb1 ⊢
        clear c1 c2 c3 d1 d2 d3 e1 e2 e3 e4 e5 q1 q2 q3
        obtain ⟨b2, o2, y2, he2, hx2, q1, q2, q3⟩ := (hl.up hb1.g).at_ (j := j) (by omega)
        cases he2
        obtain rfl : y2 = y := Option.some.inj (hx2.symm.trans HY.out)
        clear hx2
        have c1 := box_a hb1.v
        have c2 := box_b hb1.v
        have c3 := blk_lt hb1.v
        have d1 := box_a hb1.x
        have d2 := box_b hb1.x
        have d3 := blk_lt hb1.x
        try simp only [List.append_eq, List.cons_append, List.nil_append]
        refine wp_region_flow 8 (by kernel_rfl) (by kernel_rfl) ?_
        refine flow_one rfl (by simp) ?_
        go_big_quiet_step (fail)
        refine wpQuiet_nil ?_
        refine flow_one rfl (by simp) ?_
        go_big_quiet_step (fail)
        refine wpQuiet_nil ?_
        refine flow_one rfl (by simp) ?_
        go_big_quiet_step (fail)
        refine wpQuiet_nil ?_
        refine flow_one rfl (by simp) ?_
        go_big_quiet_step (fail)
        refine wpQuiet_nil ?_
        refine flow_one rfl (by simp) ?_
        go_big_quiet_step (fail)
        refine wpQuiet_nil ?_
        refine flow_one rfl (by simp) ?_
        go_big_quiet_step (fail)
        refine wpQuiet_nil ?_
        apply flow_is
        · simp
        · intro g K hK
          go_wp2_with fail
          refine (e_mul v x _).mono ?_
          rintro e w' ⟨rfl, g', rfl⟩
          go_wp2_with fail
          exact hK _ (up_comp g g')
        · rfl
        apply flow_is
        · simp
        · intro g K hK
          go_wp2_with fail
          refine (e_add y2 (v * x) _).mono ?_
          rintro e w' ⟨rfl, g', rfl⟩
          go_wp2_with fail
          exact hK _ (up_comp g g')
        · rfl
        intro V N X hΓ hdis g hX
        clear hΓ hdis hX
        conv => arg 5; simp only [fill]
        have hgn : Gn w1 (gr w1 g) := ⟨g, rfl⟩
        have hb2 := (hb1.up hgn).setV (y2 + v * x)
        refine tail_store (b := bv) (x := y2 + v * x) rfl rfl (hb1.up hgn).v ?_
        refine wpList_nil ?_
        generalize set2 (gr w1 g) bv (y2 + v * x) = w2 at hb2 ⊢
        clear c1 c2 c3 d1 d2 d3 q1 q2 q3
        go_wp2_with fail
        refine ⟨⟨j, by omega, by go_num, ?_⟩, by simp [intOf]⟩
        rw [HE.out, add_comm, ← HS.out]
        exact hb2
end Go.Proofs.Ytjchccpicddpoaa
