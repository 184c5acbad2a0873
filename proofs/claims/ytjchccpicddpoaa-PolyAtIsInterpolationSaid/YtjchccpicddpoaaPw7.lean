/- The walks of DivRoot. -/
import Derived.Test.YtjchccpicddpoaaPw6
namespace Go.Proofs.Ytjchccpicddpoaa
open Go.RowKit Att Att.CRing
/-- a slice and an element are returned -/
def RetSlE (w : World) (l : List Ext) (r : Ext) (e : Ending) (w' : World) : Prop := ∃ A n c, e = .returned (.tuple #[.slice A n c, .agg #[.int .u64 (Zm.i (Ext.a (r))), .int .u64 (Zm.i (Ext.b (r)))]]) ∧ Sl w' A n c l ∧ Gn w w'
/-- the quotient by X - x, untrimmed -/
def dq (l : List Ext) (x : Ext) : List Ext := tab (l.length - 1) fun i => ev (l.drop (i + 1)) x
theorem dq_len (l : List Ext) (x : Ext) : (dq l x).length = l.length - 1 := tab_length _ _
theorem dq_get {l : List Ext} (x : Ext) {i : Nat} (h : i + 1 < l.length) : (dq l x)[i]? = some (ev (l.drop (i + 1)) x) := by
  unfold dq tab; rw [List.getElem?_map, List.getElem?_range (by omega)]; rfl
/-- a row that is filled from its end -/
def Bi (res : List Ext) (k : Nat) : List Ext := List.replicate k 0 ++ res.drop k
theorem Bi_length (res : List Ext) {k : Nat} (h : k ≤ res.length) : (Bi res k).length = res.length := by simp [Bi]; omega
theorem Bi_start (res : List Ext) : Bi res res.length = List.replicate res.length 0 := by simp [Bi]
theorem Bi_end (res : List Ext) : Bi res 0 = res := by simp [Bi]
theorem Bi_get (res : List Ext) {k : Nat} : (Bi res (k + 1))[k]? = some 0 := by
  unfold Bi
  rw [List.getElem?_append_left (by simp), List.getElem?_replicate, if_pos (by omega)]
theorem Bi_set {res : List Ext} {k : Nat} {x : Ext} (h : res[k]? = some x) : (Bi res (k + 1)).set k x = Bi res k := by
  have hk : k < res.length := (List.getElem?_eq_some_iff.1 h).1
  have hx : res[k] = x := Option.some.inj ((List.getElem?_eq_getElem hk).symm.trans h)
  unfold Bi
  rw [List.drop_eq_getElem_cons hk, hx, List.replicate_succ', List.append_assoc, List.set_append_right _ _ (by simp)]
  simp
def slRel (B : Nat) (l : List Ext) : Rel := fun v _ y => Ow y B v l
theorem end_sl {W : World} {B : Nat} {Γ : List Ent} {V : Nat → Value} {N : Nat → Nat} {X : Nat → World} (h : ∀ e ∈ Γ, e.rel (V e.slot) (N e.slot) (X e.slot) ∧ Up W (X e.slot) ∧ W.heap.size ≤ N e.slot)
    {w : World} (hX : ∀ e ∈ Γ, Up (X e.slot) w) {s : Nat} {l : List Ext} (hs : ⟨s, slRel B l⟩ ∈ Γ) : Ow w B (V s) l := Ow.up (h _ hs).1 (Gn.of (hX _ hs))
theorem Ow.far {w : World} {base : Nat} {v : Value} {l : List Ext} (h : Ow w base v l) {w' : World} (hk : ∀ k, base ≤ k → k < w.heap.size → w'.heap[k]? = w.heap[k]?) : Ow w' base v l := by
  rcases h with ⟨h1, h2 | ⟨g, cap, cur, hv, hb, hg, hn, hc, hsz, htake⟩⟩
  · exact ⟨h1, .inl h2⟩
  · exact ⟨h1, .inr ⟨g, cap, cur, hv, hb, (hk g hb (blk_lt hg)).trans hg, hn, hc, hsz, htake⟩⟩
/-- the boxes x, r and v of DivRoot, and its row -/
structure Dv (w wr : World) (x r v : Ext) (q : List Ext) : Prop where
  g : Gn w wr
  x : wr.heap[w.heap.size]? = some (.cells #[.int .u64 (Zm.i (Ext.a x)), .int .u64 (Zm.i (Ext.b x))] 25)
  r : wr.heap[w.heap.size + 1]? = some (.cells #[.int .u64 (Zm.i (Ext.a r)), .int .u64 (Zm.i (Ext.b r))] 25)
  q : Blk wr (w.heap.size + 1 + 1) q
  v : wr.heap[w.heap.size + 1 + 1 + 1]? = some (.cells #[.int .u64 (Zm.i (Ext.a v)), .int .u64 (Zm.i (Ext.b v))] 25)
theorem Dv.up {w wr w2 : World} {x r v : Ext} {q : List Ext} (h : Dv w wr x r v q) (g : Gn wr w2) : Dv w w2 x r v q := ⟨h.g.trans g, g.block h.x, g.block h.r, h.q.up g, g.block h.v⟩
theorem Dv.setV {w wr : World} {x r v : Ext} {q : List Ext} (h : Dv w wr x r v q) (u : Ext) : Dv w (set2 wr (w.heap.size + 1 + 1 + 1) u) x r u q :=
  ⟨set2_below h.g (by omega) u, set2_keep _ h.x (by omega), set2_keep _ h.r (by omega), (set2_other (by omega) u).trans h.q, set2_same h.v u⟩
theorem Dv.setR {w wr : World} {x r v : Ext} {q : List Ext} (h : Dv w wr x r v q) (u : Ext) : Dv w (set2 wr (w.heap.size + 1) u) x u v q :=
  ⟨set2_below h.g (by omega) u, set2_keep _ h.x (by omega), set2_same h.r u, (set2_other (by omega) u).trans h.q, set2_keep _ h.v (by omega)⟩
theorem Dv.setQ {w wr : World} {x r v : Ext} {q : List Ext} (h : Dv w wr x r v q) {i : Nat} (hi : i < q.length) (u : Ext) : Dv w (setE wr (w.heap.size + 1 + 1) i u) x r v (q.set i u) :=
  ⟨setE_below h.g (by omega) u, (setE_other (by omega) u).trans h.x, (setE_other (by omega) u).trans h.r, h.q.set hi u, (setE_other (by omega) u).trans h.v⟩

set_option maxHeartbeats 2000000 in
theorem x_divRoot (A : Option Addr) (n c : Nat) (l : List Ext) (x : Ext) (w : World) (hl : Sl w A n c l) (hn : n ≤ 1000000) :
    Calls Try.prog 30 #[.slice A n c, .agg #[.int .u64 (Zm.i (Ext.a (x))), .int .u64 (Zm.i (Ext.b (x)))]] w (RetSlE w (trim (dq l x)) (ev l x)) := by
  have l1 := Lib.hid hl.len
  rcases Nat.eq_zero_or_pos n with h0 | h0
  · subst h0
    have hl0 : l = [] := List.eq_nil_of_length_eq_zero l1.out
    subst hl0
    go_enter Try.func30, Try.ntmps30
    go_wp2_with fail
    refine bodyPost_ret (v := .tuple #[.slice (some ⟨w.heap.size + 1 + 1, 0, none⟩) 0 0, .agg #[.int .u64 (Zm.i (Ext.a ((0 : Ext)))), .int .u64 (Zm.i (Ext.b ((0 : Ext))))]]) (by simp [results, Try.results30, go_sem]; exact ⟨rfl, rfl⟩) rfl ⟨_, _, _, rfl, ?_, ?_⟩
    · exact ⟨rfl, by omega, by omega, fun h => absurd h (by omega)⟩
    · exact Gn.of (by repeat (first | assumption | exact Below.refl _ _ | apply Below.drew | apply below_drewN | apply up_gr | apply below_al | (refine below_gr ?_ (by first | (simp; done) | (simp; omega)) _) | (refine Below.alloc ?_ (by first | (simp; done) | (simp; omega)) _) | (refine Below.setCell ?_ (by first | (simp; done) | (simp; omega)) _)))
  · obtain ⟨N, rfl⟩ : ∃ N, n = N + 1 := ⟨n - 1, by omega⟩
    have b1 : (((N + 1 : Nat) : Int) == 0) = false := by simp; omega
    obtain ⟨b, o, z, rfl, hz, q1, q2, q3⟩ := hl.at_ (j := N) (by omega)
    have HZ := Lib.hid hz; clear hz
    have s1 : (((N + 1 : Nat) : Int) - 1) = (N : Int) := by omega
    have q4 : b < w.heap.size + 1 := by omega
    have q5 : b < w.heap.size + 1 + 1 := by omega
    have q6 : b < w.heap.size + 1 + 1 + 1 := by omega
    have hD : Dv w ((((w.alloc (.cells #[.int .u64 (Zm.i (Ext.a x)), .int .u64 (Zm.i (Ext.b x))] 25)).alloc zeroExt).alloc (.cells (fl (List.replicate N 0)).toArray 25)).alloc (.cells #[.int .u64 (Zm.i (Ext.a z)), .int .u64 (Zm.i (Ext.b z))] 25)) x 0 z (List.replicate N 0) := by
      have h1 := hnew w (.cells #[.int .u64 (Zm.i (Ext.a x)), .int .u64 (Zm.i (Ext.b x))] 25)
      have h2 := hnew (w.alloc (.cells #[.int .u64 (Zm.i (Ext.a x)), .int .u64 (Zm.i (Ext.b x))] 25)) zeroExt
      have h3 := hnew ((w.alloc (.cells #[.int .u64 (Zm.i (Ext.a x)), .int .u64 (Zm.i (Ext.b x))] 25)).alloc zeroExt) (.cells (fl (List.replicate N 0)).toArray 25)
      have h4 := hnew (((w.alloc (.cells #[.int .u64 (Zm.i (Ext.a x)), .int .u64 (Zm.i (Ext.b x))] 25)).alloc zeroExt).alloc (.cells (fl (List.replicate N 0)).toArray 25)) (.cells #[.int .u64 (Zm.i (Ext.a z)), .int .u64 (Zm.i (Ext.b z))] 25)
      simp only [World.size_alloc] at h2 h3 h4
      exact ⟨(((Gn.al _).trans (Gn.al _)).trans (Gn.al _)).trans (Gn.al _), (((Gn.al _).trans (Gn.al _)).trans (Gn.al _)).block h1, ((Gn.al _).trans (Gn.al _)).block h2, (Gn.al _).block h3, h4⟩
    go_enter Try.func30, Try.ntmps30
    go_wp2_with (at_make; refine wpList_mk (.tmp 16) (.tmp 16) N (congrArg (Value.int .i64) (by omega)) (congrArg (Value.int .i64) (by omega)) (by omega) ?_)
    have hlen := Lib.hid (show (dq l x).length = N by rw [dq_len, l1.out]; omega)
    have hev := Lib.hid (show ev (l.drop N) x = z by
      rw [ev_drop HZ.out x, List.drop_of_length_le (by rw [l1.out]; exact Nat.le_refl _), ev_nil, zero_mul, zero_add])
    go_loopw [8] (fun v wr => ∃ k : Nat, k ≤ N ∧ v = .int .i64 ((k : Int) - 1) ∧ Dv w wr x 0 (ev (l.drop k) x) (Bi (dq l x) k)) (fun v _ => (intOf v + 1).toNat)
    case atStart =>
      refine ⟨N, Nat.le_refl _, congrArg (Value.int .i64) (by omega), ?_⟩
      have e := Bi_start (dq l x)
      rw [hlen.out] at e
      rw [hev.out, e]
      exact hD
    case round =>
      clear hD
      obtain ⟨k, hk, rfl, hb⟩ := hrel
      cases k with
      | zero =>
        have hS : Sl wr (some ⟨w.heap.size + 1 + 1, 0, none⟩) N N (dq l x) := by
          have e := Bi_end (dq l x)
          have h := hb.q.sl (by rw [Bi_length _ (by omega), hlen.out]; omega)
          rw [Bi_length _ (by omega), hlen.out, e] at h
          exact h
        rw [List.drop_zero] at hb
        have c1 := box_a hb.v
        have c2 := box_b hb.v
        have c3 := blk_lt hb.v
        clear hev hlen
        go_wp2_with fail
        try simp only [List.append_eq, List.cons_append, List.nil_append]
        refine wp_region_flow 4 (by kernel_rfl) (by kernel_rfl) ?_
        refine flow_one rfl (by simp) ?_
        go_big_quiet_step (fail)
        refine wpQuiet_nil ?_
        refine flow_ex (slRel wr.heap.size (trim (dq l x))) rfl ?_ ?_
        · intro V N' X hΓ g hX K hK
          simp only [fill]
          go_wp2_with fail
          refine (x_trimO _ _ _ _ _ (hS.up ⟨g, rfl⟩) (by omega)).mono ?_
          rintro e w' ⟨v', rfl, ho', g'⟩
          go_wp2_with fail
          exact hK _ _ g'.below (ho'.base (gr_size _ g))
        refine flow_one rfl (freeB_spec (by kernel_rfl)) ?_
        go_big_quiet_step (fail)
        refine wpQuiet_nil ?_
        refine flow_ex (slRel wr.heap.size (trim (dq l x))) rfl ?_ ?_
        · intro V N' X hΓ g hX K hK
          have hT : Ow (X 44) wr.heap.size (V 44) (trim (dq l x)) := (hΓ ⟨44, slRel wr.heap.size (trim (dq l x))⟩ (by simp)).1
          have hup := hX ⟨44, slRel wr.heap.size (trim (dq l x))⟩ (by simp) (by simp [Oper.looksAt, Op.operands])
          conv => arg 5; simp only [fill, Act.put, List.setIfInBounds_toArray, List.set_cons_succ, List.set_cons_zero]
          go_wp2_with fail
          exact hK _ _ (Up.refl _) (hT.up (Gn.of hup))
        intro V N' X hΓ hdis g hX
        have ho := end_sl hΓ hX (s := 4) (B := wr.heap.size) (l := trim (dq l x)) (by simp)
        clear hΓ hdis hX
        have hgn : Gn wr (gr wr g) := ⟨g, rfl⟩
        have hb2 := hb.up hgn
        have hlo := blk_lt hb.v
        generalize gr wr g = w2 at *
        conv => arg 5; simp only [fill, Act.put, List.setIfInBounds_toArray, List.set_cons_succ, List.set_cons_zero]
        generalize V 44 = v44 at *
        generalize V 4 = vv at *
        clear c1 c2 c3
        have r1 := box_a hb2.r
        have r2 := box_b hb2.r
        have r3 := box_fz (i := 0) hb2.r
        have r4 := box_fz (i := 1) hb2.r
        have hR := hb2.setR (ev l x)
        have ho2 : Ow (set2 w2 (w.heap.size + 1) (ev l x)) wr.heap.size vv (trim (dq l x)) := ho.far (fun k hk _ => set2_other (by omega) _)
        obtain ⟨A', c', rfl, hs⟩ := ho2.sl
        go_wp2_with fail
        have s1 := box_a hR.r
        have s2 := box_b hR.r
        unfold set2 at s1 s2 hR hs
        exact bodyPost_ret (v := .tuple #[.slice A' _ c', .agg #[.int .u64 (Zm.i (Ext.a (ev l x))), .int .u64 (Zm.i (Ext.b (ev l x)))]]) (by simp [results, Try.results30, go_sem, s1, s2]) rfl ⟨_, _, _, rfl, hs, hR.g⟩
      | succ j =>
        rw [show ((j + 1 : Nat) : Int) - 1 = (j : Int) from by omega]
        have hb0 := hb
        obtain ⟨b, o, y, he, hx, q1, q2, q3⟩ := (hl.up hb.g).at_ (j := j) (by omega)
        cases he
        have HE := Lib.hid (ev_drop hx x)
        have HY := Lib.hid hx; clear hx
        have hG := dq_get (l := l) x (i := j) (by rw [l1.out]; omega)
        have HS := Lib.hid (Bi_set hG); clear hG
        have hil := Lib.hid (show j < (Bi (dq l x) (j + 1)).length by rw [Bi_length _ (by rw [hlen.out]; exact hk), hlen.out]; omega)
        have HB0 := Lib.hid (Bi_get (dq l x) (k := j))
        generalize hV : ev (l.drop (j + 1)) x = v at *
        clear hV
        have c1 := box_a hb.v
        have c2 := box_b hb.v
        have c3 := blk_lt hb.v
        have d1 := box_a hb.x
        have d2 := box_b hb.x
        have d3 := blk_lt hb.x
        obtain ⟨e1, e2⟩ := hb.q.cell HB0.out
        have e3 := blk_lt hb.q
        have e4 := box_fz (i := j * 2) hb.q
        have e5 := box_fz (i := j * 2 + 1) hb.q
        have hb1 := hb.setQ hil.out v
        unfold setE at hb1
        go_wp2_with fail
        generalize ((wr.setCell ⟨w.heap.size + 1 + 1, j * 2, none⟩ (.int .u64 (Zm.i (Ext.a v)))).setCell ⟨w.heap.size + 1 + 1, j * 2 + 1, none⟩ (.int .u64 (Zm.i (Ext.b v)))) = w1 at hb1 ⊢
        clear c1 c2 c3 d1 d2 d3 e1 e2 e3 e4 e5 q1 q2 q3
        obtain ⟨b2, o2, y2, he2, hx2, q1, q2, q3⟩ := (hl.up hb1.g).at_ (j := j) (by omega)
        cases he2
        obtain rfl : y2 = y := Option.some.inj (hx2.symm.trans HY.out)
        clear hx2
        have c1 := box_a hb1.v
        have c2 := box_b hb1.v
        have c3 := blk_lt hb1.v
        have d1 := box_a hb1.x
        have d2 := box_b hb1.x
        have d3 := blk_lt hb1.x
        try simp only [List.append_eq, List.cons_append, List.nil_append]
        refine wp_region_flow 8 (by kernel_rfl) (by kernel_rfl) ?_
        refine flow_one rfl (by simp) ?_
        go_big_quiet_step (fail)
        refine wpQuiet_nil ?_
        refine flow_one rfl (by simp) ?_
        go_big_quiet_step (fail)
        refine wpQuiet_nil ?_
        refine flow_one rfl (by simp) ?_
        go_big_quiet_step (fail)
        refine wpQuiet_nil ?_
        refine flow_one rfl (by simp) ?_
        go_big_quiet_step (fail)
        refine wpQuiet_nil ?_
        refine flow_one rfl (by simp) ?_
        go_big_quiet_step (fail)
        refine wpQuiet_nil ?_
        refine flow_one rfl (by simp) ?_
        go_big_quiet_step (fail)
        refine wpQuiet_nil ?_
        apply flow_is
        · simp
        · intro g K hK
          go_wp2_with fail
          refine (x_mul v x _).mono ?_
          rintro e w' ⟨rfl, g', rfl⟩
          go_wp2_with fail
          exact hK _ (up_comp g g')
        · rfl
        apply flow_is
        · simp
        · intro g K hK
          go_wp2_with fail
          refine (x_add y2 (v * x) _).mono ?_
          rintro e w' ⟨rfl, g', rfl⟩
          go_wp2_with fail
          exact hK _ (up_comp g g')
        · rfl
        intro V N X hΓ hdis g hX
        clear hΓ hdis hX
        conv => arg 5; simp only [fill]
        have hgn : Gn w1 (gr w1 g) := ⟨g, rfl⟩
        have hb2 := (hb1.up hgn).setV (y2 + v * x)
        refine tail_store (b := w.heap.size + 1 + 1 + 1) (x := y2 + v * x) rfl rfl (hb1.up hgn).v ?_
        refine wpList_nil ?_
        generalize set2 (gr w1 g) (w.heap.size + 1 + 1 + 1) (y2 + v * x) = w2 at hb2 ⊢
        clear c1 c2 c3 d1 d2 d3 q1 q2 q3
        go_wp2_with fail
        refine ⟨⟨j, by omega, by go_num, ?_⟩, by simp [intOf]⟩
        rw [HE.out, add_comm, ← HS.out]
        exact hb2
end Go.Proofs.Ytjchccpicddpoaa
