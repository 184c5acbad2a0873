/- The walk of candidate: Gao's algorithm. -/
import Derived.Test.YtbfblckgcefaaaaGreatDoorRw5
import Derived.WalkMore
namespace Go.Proofs.YtbfblckgcefaaaaGreatDoor
open Go.RowKit Att Att.CRing
def ow (l : List Ext) : Rel := fun v n y => Ow y n v l
theorem k_ptrimO {l : List Ext} (hl : l.length ≤ 1000000) : ∀ u w, isSl l u w → Calls Tryz.prog 68 #[u] w (Ans (ow (trim l)) w) := by
  rintro u w ⟨A, n, c, rfl, h1⟩
  obtain rfl := h1.len
  refine (p_trimO A _ c l w h1 (by omega)).mono ?_
  rintro e w' ⟨v, rfl, ho, g⟩
  exact ⟨v, rfl, g.below, ho⟩
theorem end_ow {W : World} {Γ : List Ent} {V : Nat → Value} {N : Nat → Nat} {X : Nat → World} (h : ∀ e ∈ Γ, e.rel (V e.slot) (N e.slot) (X e.slot) ∧ Up W (X e.slot) ∧ W.heap.size ≤ N e.slot) {w : World} (hX : ∀ e ∈ Γ, Up (X e.slot) w) (s i : Nat) {l : List Ext} (hs : Γ[i]? = some ⟨s, ow l⟩) :
    ∃ A c, V s = .slice A l.length c ∧ Sl w A l.length c l ∧ ∀ b o t, A = some ⟨b, o, t⟩ → N s ≤ b ∧ b < (X s).heap.size := by
  have hm := List.mem_of_getElem? hs
  obtain ⟨h1, _⟩ := h _ hm
  have hx := hX _ hm
  have h2 : Ow (X s) (N s) (V s) l := h1
  have h3 : Ow w (N s) (V s) l := h2.up (Gn.of hx)
  obtain ⟨A, c, e, h4⟩ := h3.sl
  refine ⟨A, c, e, h4, ?_⟩
  intro b o t hA
  rcases h2.2 with ⟨hv, _⟩ | ⟨g, cap, cur, hv, hb, hg, _⟩
  · rw [e, hA] at hv; cases hv
  · rw [e, hA] at hv
    injection hv with h5
    injection h5 with h6
    injection h6 with h7
    subst h7
    exact ⟨hb, blk_lt hg⟩
theorem Sl.setE_far {w : World} {A : Option Addr} {n c g i : Nat} {l : List Ext} {x : Ext} (h : Sl w A n c l) (hne : ∀ b o t, A = some ⟨b, o, t⟩ → b ≠ g) : Sl (setE w g i x) A n c l :=
  ⟨h.len, h.le, h.small, fun hn => by
    obtain ⟨b, o, e, hlt, hc⟩ := h.cells hn
    have h1 := hne b o none e
    have hcell : ∀ j, (setE w g i x).cell? ⟨b, j, none⟩ = w.cell? ⟨b, j, none⟩ := fun j => World.cell?_of_block (setE_other h1 x)
    exact ⟨b, o, e, by show b < (setE w g i x).heap.size; simpa [setE] using hlt, fun j y hy => ⟨(hcell _).trans (hc j y hy).1, (hcell _).trans (hc j y hy).2⟩⟩⟩
set_option maxRecDepth 100000 in
set_option maxHeartbeats 8000000 in
theorem s_candidate (A : Option Addr) (d n k : Nat) (g : List Ext) (x y : Nat → Ext) (w : World) (hg : Sl w A n d g) (hn : n ≤ 65536) (hn2 : 2 ≤ n) (hk : k ≤ n) (hG0 : Gao n k x y (cyc n) (trim g) [] [1]) :
    Calls Tryz.prog 37 #[.slice A n d, .int .i64 n, .int .i64 k] w (CandIs n k x y w) := by
  have lg := Lib.hid hg.len
  obtain ⟨N1, hN1⟩ : ∃ N1, N1 = n + 1 := ⟨_, rfl⟩
  have eN1 : (n : Int) + 1 = (N1 : Int) := by omega
  have wN1 : IntKind.i64.wrap (N1 : Int) = (N1 : Int) := IntWalk.i64_in _ (by omega)
  have hgf : isSl g (.slice A n d) w := ⟨_, _, _, rfl, hg⟩
  have hT := trim_length_le g
  rw [lg.out] at hT
  obtain ⟨G, hG⟩ : ∃ G, G = trim g := ⟨_, rfl⟩
  rw [← hG] at hG0 hT
  replace hG0 := Lib.hid hG0
  replace hG := Lib.hid hG
  obtain ⟨mo, hmo⟩ : ∃ mo, mo = (int (-1) : Ext) := ⟨_, rfl⟩
  obtain ⟨po, hpo⟩ : ∃ po, po = (int 1 : Ext) := ⟨_, rfl⟩
  have hI1 := e_fromInt (-1) (by omega) (by omega)
  have hI2 := e_fromInt 1 (by omega) (by omega)
  rw [← hmo] at hI1
  rw [← hpo] at hI2
  have hcyc : ((List.replicate (n + 1) (0 : Ext)).set 0 mo).set n po = cyc n := by
    rw [hmo, hpo, int_neg, int_one]; exact cyc_set (by omega)
  have hpo1 : [po] = ([1] : List Ext) := by rw [hpo, int_one]
  rw [← hN1] at hcyc
  replace hcyc := Lib.hid hcyc; replace hpo1 := Lib.hid hpo1; replace hN1 := Lib.hid hN1
  clear hmo hpo
  go_enter Tryz.func37, Tryz.ntmps37
  go_wp2_with fail
  go_step3
  go_wp2_with fail
  try simp only [List.append_eq, List.cons_append, List.nil_append]
  refine Fk.wp_region_flow 7 (by kernel_rfl) (by kernel_rfl) ?_
  refine Fk.flow_one rfl (freeB_spec (by kernel_rfl)) ?_
  go_big_quiet_step (fail)
  refine wpQuiet_nil ?_
  refine Fk.flow_one rfl (freeB_spec (by kernel_rfl)) ?_
  go_big_quiet_step (fail)
  refine wpQuiet_nil ?_
  refine Fk.flow_ex (mkRel N1) rfl (ex_mk _ _ _ _ _ _ N1 (fun V => rfl) (fun V => rfl) (by omega)) ?_
  refine Fk.flow_one rfl (freeB_spec (by kernel_rfl)) ?_
  go_big_quiet_step (fail)
  refine wpQuiet_nil ?_
  refine flow_exS _ rfl (ex_call1 (k_ptrimO (by rw [lg.out]; omega)) rfl (by kernel_rfl) (want_fill (by kernel_rfl) (by kernel_rfl)) (arg_s0 (by kernel_rfl) rfl hgf)) ?_
  refine Fk.flow_ex newS rfl (ex_allocS _ _ _ _) ?_
  refine Fk.flow_ex newS rfl (ex_allocS _ _ _ _) ?_
  intro V N' X hΓ hdis g' hX
  obtain ⟨At, ct, vt, hTr, hAt⟩ := end_ow hΓ hX 19 2 rfl
  obtain ⟨b0, v0, hb0, hx0, e1, e2⟩ := end_S hΓ hX (s := 8) (by simp)
  obtain ⟨b1, v1, hb1, hx1, e3, e4⟩ := end_S hΓ hX (s := 9) (by simp)
  have hd01 := hdis ⟨8, newS⟩ (by simp) ⟨9, newS⟩ (by simp) (by simp)
  obtain ⟨⟨br, vr, hbl, hBr⟩, _, hbr⟩ := hΓ ⟨17, mkRel N1⟩ (by simp)
  have hbX := blk_lt hBr
  replace hBr := hBr.up (Gn.of (hX ⟨17, mkRel N1⟩ (by simp)))
  have hdT := hdis ⟨17, mkRel N1⟩ (by simp) ⟨19, ow (trim g)⟩ (by simp) (by simp)
  have hbr2 : w.heap.size ≤ br := Nat.le_trans hbr hbl
  dsimp only at hd01 vr hBr
  have hn01 : b0 ≠ b1 := by omega
  dsimp only at hdT hbX hbl
  replace hAt : ∀ b o t, At = some ⟨b, o, t⟩ → b ≠ br := fun b o t e => by have := hAt b o t e; omega
  clear hΓ hdis hX hd01 e1 e2 e3 e4 hbr hbl hdT hbX
  rw [← hG.out] at vt hTr
  have hgn : Gn w (gr w g') := ⟨g', rfl⟩
  generalize gr w g' = w1 at *
  conv => arg 5; simp only [fill, Act.put, vt, v0, v1, vr, List.setIfInBounds_toArray, List.set_cons_succ, List.set_cons_zero]
  clear vt v0 v1 vr hgf hg
  have hr0 : br ≠ b0 := block_ne hBr hx0 (by decide)
  have hr1 : br ≠ b1 := block_ne hBr hx1 (by decide)
  unfold zeroS at hx0 hx1
  refine tail_storeS rfl rfl hx0 ?_
  have kx0 : (set1 w1 b0 (.slice (some ⟨br, 0, none⟩) N1 N1)).heap[b0]? = _ := set1_same hx0
  have kx1 : (set1 w1 b0 (.slice (some ⟨br, 0, none⟩) N1 N1)).heap[b1]? = _ := (set1_other hn01.symm).trans hx1
  have kB : Blk (set1 w1 b0 (.slice (some ⟨br, 0, none⟩) N1 N1)) br (List.replicate N1 0) := (set1_other hr0).trans hBr
  have kT := hTr.set1 (v := .slice (some ⟨br, 0, none⟩) N1 N1) hx0
  replace hgn := set1_below (v := .slice (some ⟨br, 0, none⟩) N1 N1) hgn hb0
  clear hx0 hx1 hBr hTr
  generalize set1 w1 b0 (.slice (some ⟨br, 0, none⟩) N1 N1) = w2 at *
  refine tail_storeS rfl rfl kx1 ?_
  refine wpList_nil ?_
  have x0 : (set1 w2 b1 (.slice At G.length ct)).heap[b0]? = _ := (set1_other hn01).trans kx0
  have x1 : Hx (set1 w2 b1 (.slice At G.length ct)) b1 At ct G := ⟨set1_same kx1, kT.set1 kx1⟩
  have hB : Blk (set1 w2 b1 (.slice At G.length ct)) br (List.replicate N1 0) := (set1_other hr1).trans kB
  replace hgn := set1_below (v := .slice At G.length ct) hgn hb1
  clear kx0 kx1 kB kT
  generalize set1 w2 b1 (.slice At G.length ct) = w3 at *
  have q1 : w3.cell? ⟨b0, 0, none⟩ = some (.slice (some ⟨br, 0, none⟩) N1 N1) := obj_cell x0 0 rfl
  have q2 := blk_lt x0; have q3 := blk_lt hB
  have z0 : (List.replicate N1 (0 : Ext))[0]? = some 0 := by rw [List.getElem?_replicate, if_pos (by have := hN1.out; omega)]
  have zn : (List.replicate N1 (0 : Ext))[n]? = some 0 := by rw [List.getElem?_replicate, if_pos (by have := hN1.out; omega)]
  obtain ⟨c1, c2⟩ := hB.cell z0
  obtain ⟨c3, c4⟩ := hB.cell zn
  simp only [Nat.zero_mul, Nat.zero_add] at c1 c2
  have f1 := box_fz (i := 0) hB; have f2 := box_fz (i := 1) hB; have f3 := box_fz (i := n * 2) hB; have f4 := box_fz (i := n * 2 + 1) hB
  have m1 : ¬ n * 2 = 0 := by omega
  have m2 : ¬ n * 2 = 1 := by omega
  have m3 : ¬ n * 2 + 1 = 0 := by omega
  have m4 : ¬ n * 2 + 1 = 1 := by omega
  have m5 : ¬ 0 = n * 2 := by omega
  have m6 : ¬ 1 = n * 2 := by omega
  have m7 : ¬ 0 = n * 2 + 1 := by omega
  have m8 : ¬ 1 = n * 2 + 1 := by omega
  have hnN : n < N1 := by have := hN1.out; omega
  have hnN2 : 0 < N1 := by omega
  clear z0 zn
  have q3' : br < w3.drew.heap.size := q3
  have K0 : w3.drew.cell? ⟨b0, 0, none⟩ = some (.slice (some ⟨br, 0, none⟩) N1 N1) := q1
  have q2' : b0 < w3.drew.heap.size := q2
  have K1 : ∀ g, (gr w3.drew g).cell? ⟨b0, 0, none⟩ = some (.slice (some ⟨br, 0, none⟩) N1 N1) := fun g => (gr_cell _ g _ _ q2').trans K0
  have K2 : ∀ g h, (gr (gr w3.drew g) h).cell? ⟨b0, 0, none⟩ = some (.slice (some ⟨br, 0, none⟩) N1 N1) := fun g h => (gr_cell _ h _ _ (Nat.lt_of_lt_of_le q2' (gr_size _ _))).trans (K1 g)
  have K3 : ∀ (W : World) (i : Nat) (u : Value), W.cell? ⟨b0, 0, none⟩ = some (.slice (some ⟨br, 0, none⟩) N1 N1) → (W.setCell ⟨br, i, none⟩ u).cell? ⟨b0, 0, none⟩ = some (.slice (some ⟨br, 0, none⟩) N1 N1) := fun W i u h => (World.cell?_setCell_far _ _ _ _ (by show br ≠ b0; exact hr0)).trans h
  replace K0 := Lib.hid K0; replace K1 := Lib.hid K1; replace K2 := Lib.hid K2; replace K3 := Lib.hid K3
  have C1 : ∀ g, (gr w3.drew g).cell? ⟨br, 0, none⟩ = _ := fun g => (gr_cell _ g br (0) q3').trans c1
  have F1 : ∀ g, (gr w3.drew g).frozen? ⟨br, 0, none⟩ = false := fun g => (gr_frozen _ g br (0) q3').trans f1
  have C2 : ∀ g, (gr w3.drew g).cell? ⟨br, 1, none⟩ = _ := fun g => (gr_cell _ g br (1) q3').trans c2
  have F2 : ∀ g, (gr w3.drew g).frozen? ⟨br, 1, none⟩ = false := fun g => (gr_frozen _ g br (1) q3').trans f2
  have C3 : ∀ g, (gr w3.drew g).cell? ⟨br, n * 2, none⟩ = _ := fun g => (gr_cell _ g br (n * 2) q3').trans c3
  have F3 : ∀ g, (gr w3.drew g).frozen? ⟨br, n * 2, none⟩ = false := fun g => (gr_frozen _ g br (n * 2) q3').trans f3
  have C4 : ∀ g, (gr w3.drew g).cell? ⟨br, n * 2 + 1, none⟩ = _ := fun g => (gr_cell _ g br (n * 2 + 1) q3').trans c4
  have F4 : ∀ g, (gr w3.drew g).frozen? ⟨br, n * 2 + 1, none⟩ = false := fun g => (gr_frozen _ g br (n * 2 + 1) q3').trans f4
  have q1' : w3.drew.cell? ⟨b0, 0, none⟩ = some (.slice (some ⟨br, 0, none⟩) N1 N1) := q1
  go_wp2_with fail
  go_region_held3 (fun w' => w'.cell? ⟨b0, 0, none⟩ = some (.slice (some ⟨br, 0, none⟩) N1 N1)) (first | with_reducible exact K0.out | with_reducible exact K1.out _ | with_reducible exact K2.out _ _ | ((with_reducible refine K3.out _ _ _ (K3.out _ _ _ ?_)); first | with_reducible exact K1.out _ | with_reducible exact K2.out _ _) | ((with_reducible refine K3.out _ _ _ (K3.out _ _ _ (K3.out _ _ _ (K3.out _ _ _ ?_)))); first | with_reducible exact K1.out _ | with_reducible exact K2.out _ _) | trace_state) (first | (go_at_call 69; refine (hI1 _).mono ?_; rintro e w' ⟨rfl, g1, rfl⟩) | (go_at_call 69; refine (hI2 _).mono ?_; rintro e w' ⟨rfl, g2, rfl⟩))
  have hw : ∀ W : World, (((W.setCell ⟨br, 0, none⟩ (.int .u64 (Zm.i (Ext.a mo)))).setCell ⟨br, 1, none⟩ (.int .u64 (Zm.i (Ext.b mo)))).setCell ⟨br, n * 2, none⟩ (.int .u64 (Zm.i (Ext.a po)))).setCell ⟨br, n * 2 + 1, none⟩ (.int .u64 (Zm.i (Ext.b po))) = setE (setE W br 0 mo) br n po := fun W => rfl
  rw [hw]
  have gU : Gn w3 (gr w3.drew (g1.comp g2)) := Gn.trans (b := w3.drew) ⟨(Grow.refl w3).draws 1, rfl⟩ ⟨_, rfl⟩
  clear hw K0 K1 K2 K3 C1 C2 C3 C4 F1 F2 F3 F4 q1' q2' q3' q1 q2 q3 m1 m2 m3 m4 m5 m6 m7 m8 c1 c2 c3 c4 f1 f2 f3 f4
  generalize gr w3.drew (g1.comp g2) = w4 at *
  replace hB := ((hB.up gU).set (i := 0) (by simp; omega) mo).set (i := n) (by simp; omega) po
  rw [hcyc.out] at hB
  replace x0 : (setE (setE w4 br 0 mo) br n po).heap[b0]? = _ := (setE_other hr0.symm po).trans ((setE_other hr0.symm mo).trans (gU.block x0))
  replace x1 : Hx (setE (setE w4 br 0 mo) br n po) b1 At ct G := ⟨(setE_other hr1.symm po).trans ((setE_other hr1.symm mo).trans (gU.block x1.1)), (((x1.2).up gU).setE_far hAt).setE_far hAt⟩
  replace hgn := setE_below (i := n) (setE_below (i := 0) (hgn.trans gU) hbr2 mo) hbr2 po
  clear gU
  generalize setE (setE w4 br 0 mo) br n po = w5 at *
  go_wp2_with fail
  refine (hI2 _).mono ?_
  rintro e w6 ⟨rfl, g3⟩
  have g3 : Gn w5 w6 := g3
  replace hB := hB.up g3; replace x0 := g3.block x0; replace x1 := x1.up g3; replace hgn := hgn.trans g3
  clear g3
  go_wp2_with fail
  have p1 := hnew w6 (.cells #[.int .u64 (Zm.i (Ext.a po)), .int .u64 (Zm.i (Ext.b po))] 41)
  have s1 : (w6.alloc (.cells #[.int .u64 (Zm.i (Ext.a po)), .int .u64 (Zm.i (Ext.b po))] 41)).heap.size = w6.heap.size + 1 := by simp
  have g1 : Gn w6 (w6.alloc (.cells #[.int .u64 (Zm.i (Ext.a po)), .int .u64 (Zm.i (Ext.b po))] 41)) := Gn.al _
  generalize w6.alloc (.cells #[.int .u64 (Zm.i (Ext.a po)), .int .u64 (Zm.i (Ext.b po))] 41) = W1 at *
  have p2 := hnew W1 (.cells #[.slice none 0 0] 38)
  have s2 : (W1.alloc (.cells #[.slice none 0 0] 38)).heap.size = W1.heap.size + 1 := by simp
  have g2 : Gn W1 (W1.alloc (.cells #[.slice none 0 0] 38)) := Gn.al _
  generalize W1.alloc (.cells #[.slice none 0 0] 38) = W2 at *
  rw [s1] at p2
  have p3 := hnew W2 (.cells #[.slice (some ⟨w6.heap.size, 0, none⟩) 1 1] 38)
  have g3 : Gn W2 (W2.alloc (.cells #[.slice (some ⟨w6.heap.size, 0, none⟩) 1 1] 38)) := Gn.al _
  generalize W2.alloc (.cells #[.slice (some ⟨w6.heap.size, 0, none⟩) 1 1] 38) = W3 at *
  rw [s2, s1] at p3
  have hw6 := hgn.size
  have q0 := blk_lt x0; have q1 := x1.lt
  have gW := (g1.trans g2).trans g3
  have hSl1 : Sl W3 (some ⟨w6.heap.size, 0, none⟩) 1 1 [po] := by
    have hb1 : Blk W1 w6.heap.size [po] := p1
    exact (hb1.sl (by simp)).up (g2.trans g3)
  have hCyc : Sl W3 (some ⟨br, 0, none⟩) N1 N1 (cyc n) := by
    have h := hB.sl (by rw [cyc_len]; omega)
    rw [cyc_len, ← hN1.out] at h
    exact h.up gW
  obtain ⟨c0, hc0⟩ : ∃ c0, c0 = w6.heap.size + 1 := ⟨_, rfl⟩
  obtain ⟨c1, hc1⟩ : ∃ c1, c1 = w6.heap.size + 1 + 1 := ⟨_, rfl⟩
  rw [← hc0] at p2; rw [← hc1] at p3
  have hC : Cd w W3 b0 b1 c0 c1 (cyc n) G [] [1] := ⟨hgn.trans gW, ⟨some ⟨br, 0, none⟩, N1, by rw [cyc_len, ← hN1.out]; exact gW.block x0, by rw [cyc_len, ← hN1.out]; exact hCyc⟩, (x1.up gW).hs, ⟨none, 0, g3.block p2, Sl.nil _⟩,
    ⟨some ⟨w6.heap.size, 0, none⟩, 1, p3, by rw [← hpo1.out]; exact hSl1⟩, hb0, hb1, by omega, by omega, hn01, by omega, by omega, by omega, by omega, by omega⟩
  rw [← hc1, ← hc0]
  clear p1 p2 p3 s1 s2 g1 g2 g3 gW hSl1 hCyc hc0 hc1 hw6 q0 q1 x0 x1 hB hgn hb0 hb1 hAt hr0 hr1 hbr2 hI1 hI2
  go_step3
  go_wp2_with fail
  go_loopg [30] G.length (fun gk _s wr => ∃ R0 R1 V0 V1, gk = R1.length ∧ Cd w wr b0 b1 c0 c1 R0 R1 V0 V1 ∧ Gao n k x y R0 R1 V0 V1)
  case atStart => exact ⟨_, _, _, _, rfl, hC, hG0.out⟩
  case round =>
    clear hC
    obtain ⟨R0, R1, V0, V1, rfl, hC, hG⟩ := hrel
    have hlen := hG.len; have hlt := hG.lt; have hvl := hG.vlt
    by_cases hb : n + k + 1 < 2 * R1.length
    · have hne := last_ne hG.t1 (by omega)
      obtain ⟨li, hli⟩ : ∃ li, li = Fld.inv (co R1 (R1.length - 1)) := ⟨_, rfl⟩
      have hone : co R1 (R1.length - 1) * li = 1 := by rw [hli]; exact Fld.mul_inv _ hne
      obtain ⟨hG2, hdec⟩ := hG.next hb hone
      have hCall := s_next w wr b0 b1 c0 c1 R0 R1 V0 V1 li hC (by omega) (by omega) (by omega) (by omega) (by omega) hne hli
      generalize dvR R1 li R0 = R2 at *
      generalize trim (psub V0 (trim (pmul (dvQ R1 li R0) V1))) = V2 at *
      obtain ⟨A1, d1, x1⟩ := hC.r1.hx
      have q1 := x1.cell; have q2 := x1.lt
      have e1 : decide ((n : Int) + (k : Int) + 1 < 2 * (R1.length : Int)) = true := decide_eq_true (by omega)
      have e1' : (n : Int) + (k : Int) + 1 < 2 * (R1.length : Int) := by omega
      clear hne hli hone hG hC
      go_wp2_with fail
      refine hCall.mono ?_
      rintro e w8 ⟨rfl, hC2⟩
      clear hCall x1 q1 q2 e1 e1'
      by_cases h0 : 0 < R2.length
      · have e2 : decide (0 < R2.length) = true := decide_eq_true h0
        go_wp2_with fail
        go_roundg R2.length
        case measure => exact hdec
        case rel => exact ⟨R1, R2, V1, V2, rfl, hC2, hG2⟩
      · have e2 : decide (0 < R2.length) = false := decide_eq_false h0
        have hS := Lib.hid (show 2 * R2.length ≤ n + k + 1 by omega)
        have hz : R2.length = 0 := by omega
        have hnil : R2 = [] := List.eq_nil_of_length_eq_zero hz
        obtain ⟨gn, x0, x1, y0, y1, l0, l1, l2, l3, n1, n2, n3, n4, n5, n6⟩ := hC2
        obtain ⟨A1, d1, x1⟩ := x1.hx
        have q1 := x1.cell; have q2 := x1.lt
        rw [hz] at q1
        clear h0
        replace hnil := Lib.hid hnil
        replace hz := Lib.hid hz
        go_wp2_with fail
        try rw [Exit.noGoto_ret]
        go_ret2
        exact ⟨R1, R2, V1, V2, [], true, none, 0, hG2, hS.out, rfl, Sl.nil _, gn, by simp, .inl ⟨hnil.out, rfl, rfl⟩⟩
    · have hS := Lib.hid (show 2 * R1.length ≤ n + k + 1 by omega)
      have e1 : decide ((n : Int) + (k : Int) + 1 < 2 * (R1.length : Int)) = false := decide_eq_false (by omega)
      have e1' : ¬ (n : Int) + (k : Int) + 1 < 2 * (R1.length : Int) := by omega
      by_cases hz : R1.length = 0
      · have hnil : R1 = [] := List.eq_nil_of_length_eq_zero hz
        obtain ⟨gn, x0, x1, y0, y1, l0, l1, l2, l3, n1, n2, n3, n4, n5, n6⟩ := hC
        obtain ⟨A1, d1, x1⟩ := x1.hx
        have q1 := x1.cell; have q2 := x1.lt
        rw [hz] at q1
        clear hz
        go_wp2_with fail
        try rw [Exit.noGoto_ret]
        go_ret2
        exact ⟨R0, R1, V0, V1, [], true, none, 0, hG, hS.out, rfl, Sl.nil _, gn, by simp, .inl ⟨hnil, rfl, rfl⟩⟩
      · obtain ⟨gn, x0, x1, y0, y1, l0, l1, l2, l3, n1, n2, n3, n4, n5, n6⟩ := hC
        obtain ⟨A1, d1, x1⟩ := x1.hx
        obtain ⟨B1, f1, y1⟩ := y1.hx
        have hlen := hG.len; have hlt := hG.lt; have hvl := hG.vlt
        have hv0 : 0 < V1.length := by omega
        have hvne := last_ne hG.u1 hv0
        obtain ⟨li, hli⟩ : ∃ li, li = Fld.inv (co V1 (V1.length - 1)) := ⟨_, rfl⟩
        have hone : co V1 (V1.length - 1) * li = 1 := by rw [hli]; exact Fld.mul_inv _ hvne
        have hPl := dvQ_le (q := V1) (p := R1) (li := li) (by omega)
        have hDiv := fun w hp hq => s_divide A1 B1 R1.length d1 V1.length f1 R1 V1 li w hp hq (by omega) (by omega) hv0 hvne hli
        have hLast := Lib.hid (show ∃ li, co V1 (V1.length - 1) * li = 1 ∧ dvQ V1 li R1 = dvQ V1 li R1 from ⟨li, hone, rfl⟩)
        obtain ⟨Pq, hPq⟩ : ∃ P, P = dvQ V1 li R1 := ⟨_, rfl⟩
        obtain ⟨Pr, hPr⟩ : ∃ P, P = dvR V1 li R1 := ⟨_, rfl⟩
        rw [← hPq, ← hPr] at hDiv
        rw [← hPq] at hPl
        replace hPq := Lib.hid hPq; replace hPr := Lib.hid hPr; replace hone := Lib.hid hone
        clear hli hvne hLast
        have q1 := x1.cell; have q2 := x1.lt; have q3 := y1.cell; have q4 := y1.lt
        have hz2 : ((R1.length : Int) == 0) = false := by rw [beq_eq_false_iff_ne]; omega
        go_wp2_with fail
        refine (hDiv _ x1.2 y1.2).mono ?_
        rintro e w' ⟨Aq, cq, Ar, cr, rfl, hQ, hR, g⟩
        have gn2 := gn.trans g
        have hEnd : ∀ ok, ok = (decide ((dvR V1 li R1).length = 0) && decide (Pq.length ≤ k)) → CandIs n k x y w (.returned (.tuple #[.slice Aq Pq.length cq, .bool ok])) w' := fun ok hok =>
          ⟨R0, R1, V0, V1, Pq, ok, Aq, cq, hG, hS.out, rfl, hQ, gn2, hPl, .inr ⟨li, hone.out, hPq.out, hok⟩⟩
        rw [← hPr.out] at hEnd
        replace hEnd := Lib.hid hEnd
        clear hG hS hDiv q1 q2 q3 q4 x0 x1 y0 y1
        by_cases h1 : Pr.length = 0
        · have e1 : ((Pr.length : Int) == 0) = true := by simp [h1]
          by_cases h2 : Pq.length ≤ k
          · have e2 : decide ((Pq.length : Int) ≤ (k : Int)) = true := decide_eq_true (by omega)
            have e3 : decide (Pq.length ≤ k) = true := decide_eq_true h2
            go_wp2_with fail
            try rw [Exit.noGoto_ret]
            go_ret2
            exact hEnd.out true (by rw [h1, e3]; rfl)
          · have e2 : decide ((Pq.length : Int) ≤ (k : Int)) = false := decide_eq_false (by omega)
            have e3 : decide (Pq.length ≤ k) = false := decide_eq_false h2
            go_wp2_with fail
            try rw [Exit.noGoto_ret]
            go_ret2
            exact hEnd.out false (by rw [h1, e3]; rfl)
        · have e1 : ((Pr.length : Int) == 0) = false := by rw [beq_eq_false_iff_ne]; omega
          have e3 : decide (Pr.length = 0) = false := decide_eq_false h1
          go_wp2_with fail
          try rw [Exit.noGoto_ret]
          go_ret2
          exact hEnd.out false (by rw [e3]; rfl)
end Go.Proofs.YtbfblckgcefaaaaGreatDoor
