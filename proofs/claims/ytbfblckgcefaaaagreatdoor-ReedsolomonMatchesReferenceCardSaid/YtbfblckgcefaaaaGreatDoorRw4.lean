/- The walk of divide. -/
import Derived.Test.YtbfblckgcefaaaaGreatDoorRw3
namespace Go.Proofs.YtbfblckgcefaaaaGreatDoor
open Go.RowKit Att Att.CRing
/- ───── a row with something behind it ───── -/
def RE (w : World) (g : Nat) (l : List Ext) (rest : List Value) : Prop := w.heap[g]? = some (.cells (fl l ++ rest).toArray 41)
theorem RE.up {a b : World} {g : Nat} {l : List Ext} {rest : List Value} (h : RE a g l rest) (k : Gn a b) : RE b g l rest := k.block h
theorem RE.cell {w : World} {g : Nat} {l : List Ext} {rest : List Value} (h : RE w g l rest) {i : Nat} {x : Ext} (hx : l[i]? = some x) : w.cell? ⟨g, i * 2, none⟩ = some (.int .u64 (Zm.i (Ext.a x))) ∧ w.cell? ⟨g, i * 2 + 1, none⟩ = some (.int .u64 (Zm.i (Ext.b x))) := by
  have hf := fl_get l i x hx
  have hi : i < l.length := (List.getElem?_eq_some_iff.1 hx).1
  have h1 : i * 2 < (fl l).length := by rw [fl_length]; omega
  have h2 : i * 2 + 1 < (fl l).length := by rw [fl_length]; omega
  exact ⟨obj_cell h _ (by simpa [List.getElem?_append_left h1] using hf.1), obj_cell h _ (by simpa [List.getElem?_append_left h2] using hf.2)⟩
theorem RE.set {w : World} {g i : Nat} {l : List Ext} {rest : List Value} (h : RE w g l rest) (hi : i < l.length) (x : Ext) : RE (setE w g i x) g (l.set i x) rest := by
  unfold RE at h ⊢
  have e : ((fl l ++ rest).set (i * 2) (.int .u64 (Zm.i (Ext.a x)))).set (i * 2 + 1) (.int .u64 (Zm.i (Ext.b x))) = fl (l.set i x) ++ rest := by
    rw [fl_set l i x hi, List.set_append_left _ _ (by rw [fl_length]; omega), List.set_append_left _ _ (by rw [List.length_set, fl_length]; omega)]
  rw [← e]
  simp [setE, World.setCell, Array.getElem?_modify, h]
theorem RE.sl {w : World} {g c : Nat} {l : List Ext} {rest : List Value} (h : RE w g l rest) (hc : l.length ≤ c) (hs : c ≤ 9223372036854775807) : Sl w (some ⟨g, 0, none⟩) l.length c l :=
  ⟨rfl, hc, hs, fun _ => ⟨g, 0, rfl, blk_lt h, fun i x hx => by
    have := h.cell hx
    rw [Nat.zero_add]
    exact this⟩⟩
theorem Ow.re {w : World} {base : Nat} {v : Value} {l : List Ext} (h : Ow w base v l) (h0 : 0 < l.length) : ∃ g c rest, v = .slice (some ⟨g, 0, none⟩) l.length c ∧ RE w g l rest ∧ base ≤ g ∧ l.length ≤ c ∧ c ≤ 9223372036854775807 := by
  rcases h.2 with ⟨rfl, h1⟩ | ⟨g, cap, cur, rfl, hb, hg, hn, hc, hsz, htake⟩
  · omega
  · refine ⟨g, cap, cur.toList.drop (l.length * 2), rfl, ?_, hb, hn, by unfold maxLen at hc; omega⟩
    unfold RE
    rw [← htake, List.take_append_drop]
    exact hg
theorem run_storeRE {b i : Nat} {x : Ext} {l : List Ext} {rest : List Value} {w : World} (h : RE w b l rest) (hi : i < l.length) :
    (Instr.storeAt 41 (.pointer (some ⟨b, i * 2, none⟩)) (.agg #[.int .u64 (Zm.i (Ext.a (x))), .int .u64 (Zm.i (Ext.b (x)))])).run Tryz.prog w = .ok () (setE w b i x) := by
  obtain ⟨c0, c1⟩ := h.cell (List.getElem?_eq_getElem hi)
  have f0 := box_fz (i := i * 2) h
  have f1 := box_fz (i := i * 2 + 1) h
  simp [go_sem, c0, c1, f0, f1]
  rfl
theorem tail_storeRE {ops : Array Oper} {Q : Exit → Act → World → Prop} {l : List Oper} {a : Act} {w : World} {s t : Operand} {ty : TypeId} {pos : String} {aft : Array Edge} {b i : Nat} {x : Ext} {k : List Ext} {rest : List Value}
    (hs : a.eval s = .pointer (some ⟨b, i * 2, none⟩)) (ht : a.eval t = .agg #[.int .u64 (Zm.i (Ext.a (x))), .int .u64 (Zm.i (Ext.b (x)))]) (h : RE w b k rest) (hi : i < k.length) (kk : wpList Tryz.prog ops Q l a (setE w b i x)) :
    wpList Tryz.prog ops Q (⟨none, .store 41 s t, ty, pos, aft, none⟩ :: l) a w := by
  simp only [wpList, Region.wanted, if_true]
  left
  unfold Oper.wp
  have e : (execOp a.eval ⟨none, .store 41 s t, ty, pos, aft, none⟩).run Tryz.prog w = .ok .skip (setE w b i x) := by
    simp only [execOp, hs, ht]
    simp only [Sem.run_bind, run_storeRE h hi]
    rfl
  rw [e]
  exact kk
/-- the rows and the box of divide -/
structure Dvi (w wr : World) (g gq bl : Nat) (P : List Ext) (rest : List Value) (Q : List Ext) (li : Ext) : Prop where
  gn : Gn w wr
  p : RE wr g P rest
  q : Blk wr gq Q
  l : wr.heap[bl]? = some (.cells #[.int .u64 (Zm.i (Ext.a li)), .int .u64 (Zm.i (Ext.b li))] 41)
  hg : w.heap.size ≤ g
  hq : w.heap.size ≤ gq
  hl : w.heap.size ≤ bl
  n1 : g ≠ gq
  n2 : bl ≠ g
  n3 : bl ≠ gq
section
variable {w wr w2 : World} {g gq bl : Nat} {P : List Ext} {rest : List Value} {Q : List Ext} {li : Ext}
theorem Dvi.up (h : Dvi w wr g gq bl P rest Q li) (k : Gn wr w2) : Dvi w w2 g gq bl P rest Q li := ⟨h.gn.trans k, h.p.up k, h.q.up k, k.block h.l, h.hg, h.hq, h.hl, h.n1, h.n2, h.n3⟩
theorem Dvi.setP (h : Dvi w wr g gq bl P rest Q li) {i : Nat} (hi : i < P.length) (x : Ext) : Dvi w (setE wr g i x) g gq bl (P.set i x) rest Q li :=
  ⟨setE_below h.gn h.hg x, h.p.set hi x, (setE_other h.n1.symm x).trans h.q, (setE_other h.n2 x).trans h.l, h.hg, h.hq, h.hl, h.n1, h.n2, h.n3⟩
theorem Dvi.setQ (h : Dvi w wr g gq bl P rest Q li) {i : Nat} (hi : i < Q.length) (x : Ext) : Dvi w (setE wr gq i x) g gq bl P rest (Q.set i x) li :=
  ⟨setE_below h.gn h.hq x, (setE_other h.n1 x).trans h.p, h.q.set hi x, (setE_other h.n3 x).trans h.l, h.hg, h.hq, h.hl, h.n1, h.n2, h.n3⟩
end
/-- what divide answers -/
def RetD (w : World) (Q R : List Ext) (e : Ending) (w' : World) : Prop := ∃ A1 c1 A2 c2, e = .returned (.tuple #[.slice A1 Q.length c1, .slice A2 R.length c2]) ∧ Sl w' A1 Q.length c1 Q ∧ Sl w' A2 R.length c2 R ∧ Gn w w'
set_option maxHeartbeats 8000000 in
theorem s_divide (A B : Option Addr) (n c m d : Nat) (p q : List Ext) (li : Ext) (w : World) (hp : Sl w A n c p) (hq : Sl w B m d q) (hn : n ≤ 1000000) (hm : m ≤ 1000000) (hm0 : 0 < m) (hq0 : co q (m - 1) ≠ 0) (hli : li = Fld.inv (co q (m - 1))) :
    Calls Tryz.prog 71 #[.slice A n c, .slice B m d] w (RetD w (dvQ q li p) (dvR q li p)) := by
  have p1 := Lib.hid hp.len
  have q1 := Lib.hid hq.len
  obtain ⟨x, hx⟩ : ∃ x, x = co q (m - 1) := ⟨_, rfl⟩
  rw [← hx] at hq0 hli
  have hInv := e_inv x hq0
  rw [← hli] at hInv
  obtain ⟨m1, hm1⟩ : ∃ m1, m1 = m - 1 := ⟨_, rfl⟩
  have em1 : (m : Int) - 1 = (m1 : Int) := by omega
  have hm1m : m1 < m := by omega
  obtain ⟨b0, o0, x', E0, hx', c1, c2, c3⟩ := hq.at_ hm1m
  have hxx : x' = x := by rw [hx, ← hm1]; exact (co_at hx').symm
  subst E0
  subst hxx
  replace hx := Lib.hid hx; replace hm1 := Lib.hid hm1
  clear hli hx' hq0
  obtain ⟨DQ, hDQ⟩ : ∃ D, D = dvQ q li p := ⟨_, rfl⟩
  obtain ⟨DR, hDR⟩ : ∃ D, D = dvR q li p := ⟨_, rfl⟩
  rw [← hDQ, ← hDR]
  replace hDQ := Lib.hid hDQ; replace hDR := Lib.hid hDR
  go_enter Tryz.func71, Tryz.ntmps71
  go_wp2_with fail
  refine (hInv _).mono ?_
  rintro e w1 ⟨rfl, g1⟩
  have g1 : Gn w w1 := g1
  clear hInv
  go_wp2_with fail
  have hbl := hnew w1 (.cells #[.int .u64 (Zm.i (Ext.a li)), .int .u64 (Zm.i (Ext.b li))] 41)
  have hblw := g1.size
  replace g1 := g1.trans (Gn.al (w := w1) (.cells #[.int .u64 (Zm.i (Ext.a li)), .int .u64 (Zm.i (Ext.b li))] 41))
  generalize w1.alloc (.cells #[.int .u64 (Zm.i (Ext.a li)), .int .u64 (Zm.i (Ext.b li))] 41) = w2 at *
  generalize w1.heap.size = bl at *
  clear c1 c2 c3
  refine (p_cloneO A n c p _ (hp.up g1) (by omega)).mono ?_
  rintro e w3 ⟨v, rfl, ho, g3⟩
  have hbl2 := blk_lt hbl
  replace hbl := g3.block hbl
  have g13 := g1.trans g3
  have hw2 := g1.size
  clear hp
  by_cases hnm : n < m
  · obtain ⟨Ap, cp, rfl, hs⟩ := ho.sl
    have hd := dv_short (li := li) (q := q) (p := p) (by rw [p1.out, q1.out]; exact hnm)
    have eQ := Lib.hid (show DQ = trim ([] : List Ext) by rw [hDQ.out, hd.1]; rfl)
    have eR := Lib.hid (show DR = trim p by rw [hDR.out, hd.2])
    clear hd ho
    rw [p1.out] at hs ⊢
    clear g1 g3 hbl
    go_wp2_with (at_make; refine wpList_mk (.tmp 32) (.tmp 32) 0 (congrArg (Value.int .i64) (by omega)) (congrArg (Value.int .i64) (by omega)) (by omega) ?_)
    have hb0 : Blk (w3.alloc (.cells (fl ([] : List Ext)).toArray 41)) w3.heap.size [] := hnew w3 _
    have g4 : Gn w3 (w3.alloc (.cells (fl ([] : List Ext)).toArray 41)) := Gn.al _
    generalize w3.alloc (.cells (fl ([] : List Ext)).toArray 41) = w4 at *
    replace hs := hs.up g4
    replace g13 := g13.trans g4
    clear g4
    go_loopw [8] (fun v wr => v = .int .i64 ((n : Int) - (m : Int)) ∧ wr = w4) (fun _ _ => 0)
    case atStart => exact ⟨rfl, rfl⟩
    case round =>
      obtain ⟨rfl, rfl⟩ := hrel
      have hb1 := hb0.sl (by simp)
      have b1 : ¬ 0 ≤ (n : Int) - (m : Int) := by omega
      clear hb0
      go_wp2_with fail
      refine (p_trim _ 0 _ [] _ hb1 (by omega)).mono ?_
      rintro e w5 ⟨A1, n1, c1, rfl, h1, g5⟩
      obtain rfl := h1.len
      go_wp2_with fail
      refine (p_trim _ _ _ p _ (hs.up g5) (by omega)).mono ?_
      rintro e w6 ⟨A2, n2, c2, rfl, h2, g6⟩
      obtain rfl := h2.len
      go_wp2_with fail
      go_ret2
      rw [eQ.out, eR.out]
      exact ⟨_, _, _, _, rfl, h1.up g6, h2, g13.trans (g5.trans g6)⟩
  · obtain ⟨g, cp, rest, rfl, hr, hgb, hpc, hcc⟩ := ho.re (by rw [p1.out]; omega)
    rw [p1.out] at hpc ⊢
    clear ho
    have hgl := blk_lt hr
    obtain ⟨S, hS⟩ : ∃ S, S = n + 1 - m := ⟨_, rfl⟩
    have hS1 : S + m = n + 1 := by omega
    have eQ := Lib.hid (show DQ = trim (dQ q li p S S) by rw [hDQ.out]; unfold dvQ; rw [p1.out, q1.out, ← hS])
    have eR := Lib.hid (show DR = trim (dP q li p S S) by rw [hDR.out]; unfold dvR; rw [p1.out, q1.out, ← hS])
    replace hS := Lib.hid hS; replace hS1 := Lib.hid hS1
    clear g1 g3 hnm
    go_wp2_with (at_make; refine wpList_mk (.tmp 32) (.tmp 32) S (congrArg (Value.int .i64) (by have := hS1.out; omega)) (congrArg (Value.int .i64) (by have := hS1.out; omega)) (by have := hS1.out; omega) ?_)
    have hb0 : Blk (w3.alloc (.cells (fl (List.replicate S 0)).toArray 41)) w3.heap.size (dQ q li p S 0) := by rw [dQ_zero]; exact hnew w3 _
    have g4 : Gn w3 (w3.alloc (.cells (fl (List.replicate S 0)).toArray 41)) := Gn.al _
    have hD : Dvi w (w3.alloc (.cells (fl (List.replicate S 0)).toArray 41)) g w3.heap.size bl (dP q li p S 0) rest (dQ q li p S 0) li :=
      ⟨g13.trans g4, hr.up g4, hb0, g4.block hbl, by omega, by have := g13.size; omega, by omega, by omega, by omega, by have := blk_lt hbl; omega⟩
    generalize w3.alloc (.cells (fl (List.replicate S 0)).toArray 41) = w4 at *
    generalize w3.heap.size = gq at *
    clear hb0 g4 hr hbl g13 hgb hgl
    go_loopw [8] (fun v wr => ∃ j : Nat, j ≤ S ∧ v = .int .i64 ((S : Int) - 1 - (j : Int)) ∧ Dvi w wr g gq bl (dP q li p S j) rest (dQ q li p S j) li) (fun v _ => (intOf v + 1).toNat)
    case atStart => exact ⟨0, by omega, congrArg (Value.int .i64) (by have := hS1.out; omega), hD⟩
    case round =>
      clear hD
      obtain ⟨j, hj, rfl, hD⟩ := hrel
      by_cases hjS : j < S
      · obtain ⟨s, hs⟩ : ∃ s, s = S - 1 - j := ⟨_, rfl⟩
        rw [show (S : Int) - 1 - (j : Int) = (s : Int) from by omega]
        have hPl := dP_len q li p S j
        have hQl := dQ_len q li p S j
        have hC : dC q li p S j = co (dP q li p S j) (s + (m - 1)) * li := by unfold dC; rw [q1.out, ← hs]
        have hN1 := dP_succ q li p S j
        have hN2 := dQ_set q li p hjS
        obtain ⟨cc, hcc⟩ : ∃ cc, cc = dC q li p S j := ⟨_, rfl⟩
        rw [← hs, ← hcc] at hN1 hN2
        rw [← hcc] at hC
        obtain ⟨P, hP⟩ : ∃ P, P = dP q li p S j := ⟨_, rfl⟩
        obtain ⟨Q, hQ⟩ : ∃ Q, Q = dQ q li p S j := ⟨_, rfl⟩
        rw [← hP] at hPl hC hN1 hD
        rw [← hQ] at hQl hN2 hD
        rw [p1.out] at hPl
        have hsm : s + m ≤ n := by have := hS1.out; omega
        have hsS : s < S := by omega
        obtain ⟨t, ht⟩ : ∃ t, t = s + m1 := ⟨_, rfl⟩
        have ht2 : t < n := by omega
        obtain ⟨u, hu⟩ : ∃ u, P[t]? = some u := ⟨_, List.getElem?_eq_getElem (show t < P.length by omega)⟩
        have hu2 : co P (s + (m - 1)) = u := by rw [show s + (m - 1) = t from by have := hm1.out; omega]; exact co_at hu
        rw [hu2] at hC
        have hit : (s : Int) + (m : Int) - 1 = (t : Int) := by have := hm1.out; omega
        have hiw : IntKind.i64.wrap ((s : Int) + (m : Int)) = (s : Int) + (m : Int) := IntWalk.i64_in _ (by omega)
        have hiw2 : IntKind.i64.wrap (t : Int) = (t : Int) := IntWalk.i64_in _ (by omega)
        obtain ⟨c1, c2⟩ := hD.p.cell hu
        have c3 := blk_lt hD.p
        have d1 := box_a hD.l; have d2 := box_b hD.l; have d3 := blk_lt hD.l
        have hql := blk_lt hD.q
        replace hC := Lib.hid hC; replace hN1 := Lib.hid hN1; replace hN2 := Lib.hid hN2; replace hPl := Lib.hid hPl; replace hQl := Lib.hid hQl; replace hP := Lib.hid hP; replace hQ := Lib.hid hQ; replace hcc := Lib.hid hcc; replace hs := Lib.hid hs; replace ht := Lib.hid ht
        clear hu hu2
        go_wp2_with fail
        try simp only [List.append_eq, List.cons_append, List.nil_append]
        refine Fk.wp_region_flow 11 (by kernel_rfl) (by kernel_rfl) ?_
        refine Fk.flow_one rfl (freeB_spec (by kernel_rfl)) ?_
        go_big_quiet_step (fail)
        refine wpQuiet_nil ?_
        refine Fk.flow_one rfl (freeB_spec (by kernel_rfl)) ?_
        go_big_quiet_step (fail)
        refine wpQuiet_nil ?_
        refine Fk.flow_one rfl (freeB_spec (by kernel_rfl)) ?_
        go_big_quiet_step (fail)
        refine wpQuiet_nil ?_
        apply Fk.flow_is
        · exact freeB_spec (by kernel_rfl)
        · intro g K hK
          go_wp2_with fail
          exact hK _ (Up.refl _)
        · rfl
        refine Fk.flow_one rfl (freeB_spec (by kernel_rfl)) ?_
        go_big_quiet_step (fail)
        refine wpQuiet_nil ?_
        refine Fk.flow_one rfl (freeB_spec (by kernel_rfl)) ?_
        go_big_quiet_step (fail)
        refine wpQuiet_nil ?_
        refine Fk.flow_one rfl (freeB_spec (by kernel_rfl)) ?_
        go_big_quiet_step (fail)
        refine wpQuiet_nil ?_
        refine Fk.flow_one rfl (freeB_spec (by kernel_rfl)) ?_
        go_big_quiet_step (fail)
        refine wpQuiet_nil ?_
        refine Fk.flow_one rfl (freeB_spec (by kernel_rfl)) ?_
        go_big_quiet_step (fail)
        refine wpQuiet_nil ?_
        apply Fk.flow_is
        · exact freeB_spec (by kernel_rfl)
        · intro g K hK
          go_wp2_with fail
          refine (e_mul u li _).mono ?_
          rintro e w' ⟨rfl, g', rfl⟩
          go_wp2_with fail
          exact hK _ (up_comp g g')
        · rfl
        refine Fk.flow_ex newBox rfl (ex_alloc _ _ _ _) ?_
        intro V N' X hΓ hdis g' hX
        obtain ⟨bc, vb, hbc, hbx, _, _⟩ := end_box hΓ hX (s := 10) (by simp)
        clear hΓ hdis hX
        have hgn : Gn wr (gr wr g') := ⟨g', rfl⟩
        generalize gr wr g' = w5 at *
        conv => arg 5; simp only [fill, Act.put, vb, List.setIfInBounds_toArray, List.set_cons_succ, List.set_cons_zero]
        replace hD := hD.up hgn
        unfold zeroExt at hbx
        refine tail_store (b := bc) (x := u * li) rfl rfl hbx ?_
        refine wpList_nil ?_
        rw [← hC.out]
        have hbx2 := set2_same hbx cc
        have hD2 : Dvi w (set2 w5 bc cc) g gq bl P rest Q li := ⟨set2_below hD.gn (by have := hD.gn.size; have := hgn.size; have := hD.hg; omega) cc, set2_keep cc hD.p (by omega), set2_keep cc hD.q (by omega), set2_keep cc hD.l (by omega), hD.hg, hD.hq, hD.hl, hD.n1, hD.n2, hD.n3⟩
        generalize set2 w5 bc cc = w6 at *
        have hgc : bc ≠ g := by omega
        have hgq : bc ≠ gq := by omega
        clear hbx hD c1 c2 c3 d1 d2 d3 vb hgn
        clear hbc hql
        have r1 := box_a hbx2; have r2 := box_b hbx2; have r3 := blk_lt hbx2
        obtain ⟨y, hy⟩ : ∃ y, Q[s]? = some y := ⟨_, List.getElem?_eq_getElem (show s < Q.length by rw [hQl.out]; exact hsS)⟩
        obtain ⟨k1, k2⟩ := hD2.q.cell hy
        have k3 := blk_lt hD2.q
        have k4 := box_fz (i := s * 2) hD2.q
        have k5 := box_fz (i := s * 2 + 1) hD2.q
        clear hy
        have hD3 := hD2.setQ (i := s) (by rw [hQl.out]; exact hsS) cc
        rw [hN2.out] at hD3
        have hbx3 : (setE w6 gq s cc).heap[bc]? = _ := (setE_other hgq cc).trans hbx2
        go_wp2_with fail
        have hw7 : (w6.setCell ⟨gq, s * 2, none⟩ (.int .u64 (Zm.i (Ext.a cc)))).setCell ⟨gq, s * 2 + 1, none⟩ (.int .u64 (Zm.i (Ext.b cc))) = setE w6 gq s cc := rfl
        rw [hw7]
        clear hw7
        generalize setE w6 gq s cc = w7 at *
        clear hD2 hbx2 r1 r2 r3 k1 k2 k3 k4 k5
        rw [← dvI_zero q cc s P] at hD3
        go_loopw [54] (fun v wr => ∃ i : Nat, i ≤ m ∧ v = .int .i64 i ∧ Dvi w wr g gq bl (dvI q cc s P i) rest (dQ q li p S (j + 1)) li ∧ wr.heap[bc]? = some (.cells #[.int .u64 (Zm.i (Ext.a cc)), .int .u64 (Zm.i (Ext.b cc))] 41)) (fun v _ => m - (intOf v).toNat)
        case atStart => exact ⟨0, by omega, rfl, hD3, hbx3⟩
        case round =>
          clear hD3 hbx3
          obtain ⟨i, hi, rfl, hD, hbc⟩ := hrel
          by_cases him : i < m
          · obtain ⟨b1, o1, y, E1, hy, e1, e2, e3⟩ := (hq.up hD.gn).at_ him
            cases E1
            have hiP : s + i < P.length := by rw [hPl.out]; omega
            have hg2 := dvI_get q cc s P hiP
            have hs2 := dvI_set q cc s P hiP
            rw [co_at hy] at hs2
            have hil : s + i < (dvI q cc s P i).length := by rw [dvI_len]; exact hiP
            generalize co P (s + i) = z at *
            generalize dvI q cc s P i = PI at *
            replace hs2 := Lib.hid hs2; replace hil := Lib.hid hil
            clear hy hiP
            have hBy := hnew wr (.cells #[.int .u64 (Zm.i (Ext.a y)), .int .u64 (Zm.i (Ext.b y))] 41)
            have hD1 := hD.up (Gn.al (.cells #[.int .u64 (Zm.i (Ext.a y)), .int .u64 (Zm.i (Ext.b y))] 41))
            have hbc1 := (Gn.al (w := wr) (.cells #[.int .u64 (Zm.i (Ext.a y)), .int .u64 (Zm.i (Ext.b y))] 41)).block hbc
            have hlo := blk_lt hbc
            have hlo2 := blk_lt hD.p
            have i1 : (s : Int) + (i : Int) = ((s + i : Nat) : Int) := by omega
            go_wp2_with fail
            generalize wr.alloc (.cells #[.int .u64 (Zm.i (Ext.a y)), .int .u64 (Zm.i (Ext.b y))] 41) = w8 at *
            clear hD hbc e1 e2 e3
            generalize wr.heap.size = by0 at *
            obtain ⟨c1, c2⟩ := hD1.p.cell hg2
            have c3 := blk_lt hD1.p
            have d1 := box_a hbc1; have d2 := box_b hbc1; have d3 := blk_lt hbc1
            have f1 := box_a hBy; have f2 := box_b hBy; have f3 := blk_lt hBy
            have iw : IntKind.i64.wrap ((s : Int) + (i : Int)) = (s : Int) + (i : Int) := IntWalk.i64_in _ (by omega)
            have i2 : 0 ≤ (s : Int) + (i : Int) := by omega
            have i3 : ((s : Int) + (i : Int)).toNat = s + i := by omega
            clear i1 hg2
            try simp only [List.append_eq, List.cons_append, List.nil_append]
            refine Fk.wp_region_flow 15 (by kernel_rfl) (by kernel_rfl) ?_
            refine Fk.flow_one rfl (freeB_spec (by kernel_rfl)) ?_
            go_big_quiet_step (fail)
            refine wpQuiet_nil ?_
            refine Fk.flow_one rfl (freeB_spec (by kernel_rfl)) ?_
            go_big_quiet_step (fail)
            refine wpQuiet_nil ?_
            refine Fk.flow_one rfl (freeB_spec (by kernel_rfl)) ?_
            go_big_quiet_step (fail)
            refine wpQuiet_nil ?_
            refine Fk.flow_one rfl (freeB_spec (by kernel_rfl)) ?_
            go_big_quiet_step (fail)
            refine wpQuiet_nil ?_
            refine Fk.flow_one rfl (freeB_spec (by kernel_rfl)) ?_
            go_big_quiet_step (fail)
            refine wpQuiet_nil ?_
            refine Fk.flow_one rfl (freeB_spec (by kernel_rfl)) ?_
            go_big_quiet_step (fail)
            refine wpQuiet_nil ?_
            refine Fk.flow_one rfl (freeB_spec (by kernel_rfl)) ?_
            go_big_quiet_step (fail)
            refine wpQuiet_nil ?_
            refine Fk.flow_one rfl (freeB_spec (by kernel_rfl)) ?_
            go_big_quiet_step (fail)
            refine wpQuiet_nil ?_
            refine Fk.flow_one rfl (freeB_spec (by kernel_rfl)) ?_
            go_big_quiet_step (fail)
            refine wpQuiet_nil ?_
            refine Fk.flow_one rfl (freeB_spec (by kernel_rfl)) ?_
            go_big_quiet_step (fail)
            refine wpQuiet_nil ?_
            refine Fk.flow_one rfl (freeB_spec (by kernel_rfl)) ?_
            go_big_quiet_step (fail)
            refine wpQuiet_nil ?_
            refine Fk.flow_one rfl (freeB_spec (by kernel_rfl)) ?_
            go_big_quiet_step (fail)
            refine wpQuiet_nil ?_
            apply Fk.flow_is
            · exact freeB_spec (by kernel_rfl)
            · intro g K hK
              go_wp2_with fail
              refine (e_mul cc y _).mono ?_
              rintro e w' ⟨rfl, g', rfl⟩
              go_wp2_with fail
              exact hK _ (up_comp g g')
            · rfl
            apply Fk.flow_is
            · exact freeB_spec (by kernel_rfl)
            · intro g K hK
              go_wp2_with fail
              refine (e_sub z (cc * y) _).mono ?_
              rintro e w' ⟨rfl, g', rfl⟩
              go_wp2_with fail
              exact hK _ (up_comp g g')
            · rfl
            refine Fk.flow_one rfl (freeB_spec (by kernel_rfl)) ?_
            go_big_quiet_step (fail)
            refine wpQuiet_nil ?_
            intro V N' X hΓ hdis g' hX
            clear hΓ hdis hX
            have hgn : Gn w8 (gr w8 g') := ⟨g', rfl⟩
            generalize gr w8 g' = w9 at *
            conv => arg 5; simp only [fill, Act.put, List.setIfInBounds_toArray, List.set_cons_succ, List.set_cons_zero]
            replace hD1 := hD1.up hgn
            replace hbc1 := hgn.block hbc1
            refine tail_storeRE (b := g) (i := s + i) (x := z - cc * y) rfl rfl hD1.p hil.out ?_
            refine wpList_nil ?_
            have hD2 := hD1.setP hil.out (z - cc * y)
            rw [hs2.out] at hD2
            have hbc2 : (setE w9 g (s + i) (z - cc * y)).heap[bc]? = _ := (setE_other hgc _).trans hbc1
            generalize setE w9 g (s + i) (z - cc * y) = wA at *
            clear hD1 hbc1 c1 c2 c3 d1 d2 d3 f1 f2 f3 iw i2 i3 hBy hgn
            go_wp2_with fail
            exact ⟨⟨i + 1, by omega, by go_num, hD2, hbc2⟩, by simp [intOf]; omega⟩
          · obtain rfl : i = m := by omega
            have he : dvI q cc s P i = dP q li p S (j + 1) := by rw [hN1.out]; unfold dvS; rw [q1.out]
            rw [he] at hD
            clear he hbc
            go_wp2_with fail
            exact ⟨⟨j + 1, by omega, congrArg (Value.int .i64) (by have := hs.out; omega), hD⟩, by first | (simp [intOf]; done) | (simp [intOf]; have := hs.out; omega)⟩
      · obtain rfl : j = S := by omega
        have hs1 := hD.q.sl (by rw [dQ_len]; have := hS1.out; omega)
        rw [dQ_len] at hs1
        have hs2 := hD.p.sl (c := cp) (by rw [dP_len, p1.out]; exact hpc) hcc
        rw [dP_len, p1.out] at hs2
        have hgn := hD.gn
        have b1 : ¬ 0 ≤ (j : Int) - 1 - (j : Int) := by omega
        clear hD
        go_wp2_with fail
        refine (p_trim _ _ _ _ _ hs1 (by have := hS1.out; omega)).mono ?_
        rintro e w5 ⟨A1, n1, c1, rfl, h1, g5⟩
        obtain rfl := h1.len
        go_wp2_with fail
        refine (p_trim _ _ _ _ _ (hs2.up g5) (by omega)).mono ?_
        rintro e w6 ⟨A2, n2, c2, rfl, h2, g6⟩
        obtain rfl := h2.len
        go_wp2_with fail
        go_ret2
        rw [eQ.out, eR.out]
        exact ⟨_, _, _, _, rfl, h1.up g6, h2, hgn.trans (g5.trans g6)⟩
end Go.Proofs.YtbfblckgcefaaaaGreatDoor
