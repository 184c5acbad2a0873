/- The walk of candidate: Gao's algorithm. -/
import Derived.Test.YtbfblckgcefaaaaGreatDoorFe
import Derived.Deep.LoopGhost
namespace Go.Proofs.YtbfblckgcefaaaaGreatDoor
open Go.RowKit Att Att.CRing
/-- the box b holds the row at A, which reads as l -/
def Hx (w : World) (b : Nat) (A : Option Addr) (c : Nat) (l : List Ext) : Prop := w.heap[b]? = some (.cells #[.slice A l.length c] 38) ∧ Sl w A l.length c l
section
variable {w w2 : World} {b b2 : Nat} {A A' : Option Addr} {c c' : Nat} {l m : List Ext}
theorem Hx.up (h : Hx w b A c l) (g : Gn w w2) : Hx w2 b A c l := ⟨g.block h.1, h.2.up g⟩
theorem Hx.hs (h : Hx w b A c l) : Hs w b l := ⟨A, c, h.1, h.2⟩
theorem Hs.hx (h : Hs w b l) : ∃ A c, Hx w b A c l := by obtain ⟨A, c, h1, h2⟩ := h; exact ⟨A, c, h1, h2⟩
theorem Hx.cell (h : Hx w b A c l) : w.cell? ⟨b, 0, none⟩ = some (.slice A l.length c) := obj_cell h.1 0 rfl
theorem Hx.fz (h : Hx w b A c l) : w.frozen? ⟨b, 0, none⟩ = false := box_fz h.1
theorem Hx.lt (h : Hx w b A c l) : b < w.heap.size := blk_lt h.1
theorem Hx.other (h : Hx w b A c l) (k : Hx w b2 A' c' m) (hne : b ≠ b2) (v : Value) : Hx (set1 w b2 v) b A c l := ⟨(set1_other hne).trans h.1, h.2.set1 k.1⟩
theorem Hx.put (h : Hx w b A c l) (k : Sl w A' m.length c' m) : Hx (set1 w b (.slice A' m.length c')) b A' c' m := ⟨set1_same h.1, k.set1 h.1⟩
theorem Hx.row (h : Hx w b2 A' c' m) (k : Sl w A l.length c l) (v : Value) : Sl (set1 w b2 v) A l.length c l := k.set1 h.1
end
theorem run_storeS {b : Nat} {A A' : Option Addr} {n c n' c' : Nat} {w : World} (h : w.heap[b]? = some (.cells #[.slice A n c] 38)) :
    (Instr.storeAt 38 (.pointer (some ⟨b, 0, none⟩)) (.slice A' n' c')).run Tryz.prog w = .ok () (set1 w b (.slice A' n' c')) := by
  have c0 : w.cell? ⟨b, 0, none⟩ = some (.slice A n c) := obj_cell h 0 rfl
  have f0 := box_fz (i := 0) h
  simp [go_sem, c0, f0]
  rfl
theorem tail_storeS {ops : Array Oper} {Q : Exit → Act → World → Prop} {l : List Oper} {a : Act} {w : World} {s t : Operand} {ty : TypeId} {pos : String} {aft : Array Edge} {b : Nat} {A A' : Option Addr} {n c n' c' : Nat}
    (hs : a.eval s = .pointer (some ⟨b, 0, none⟩)) (ht : a.eval t = .slice A' n' c') (h : w.heap[b]? = some (.cells #[.slice A n c] 38)) (k : wpList Tryz.prog ops Q l a (set1 w b (.slice A' n' c'))) :
    wpList Tryz.prog ops Q (⟨none, .store 38 s t, ty, pos, aft, none⟩ :: l) a w := by
  simp only [wpList, Region.wanted, if_true]
  left
  unfold Oper.wp
  have e : (execOp a.eval ⟨none, .store 38 s t, ty, pos, aft, none⟩).run Tryz.prog w = .ok .skip (set1 w b (.slice A' n' c')) := by
    simp only [execOp, hs, ht]
    simp only [Sem.run_bind, run_storeS h]
    rfl
  rw [e]
  exact k
/-- the four boxes of candidate -/
structure Cd (w wr : World) (b0 b1 c0 c1 : Nat) (r0 r1 v0 v1 : List Ext) : Prop where
  gn : Gn w wr
  r0 : Hs wr b0 r0
  r1 : Hs wr b1 r1
  v0 : Hs wr c0 v0
  v1 : Hs wr c1 v1
  h0 : w.heap.size ≤ b0
  h1 : w.heap.size ≤ b1
  h2 : w.heap.size ≤ c0
  h3 : w.heap.size ≤ c1
  n1 : b0 ≠ b1
  n2 : b0 ≠ c0
  n3 : b0 ≠ c1
  n4 : b1 ≠ c0
  n5 : b1 ≠ c1
  n6 : c0 ≠ c1
set_option maxHeartbeats 4000000 in
theorem s_next (w w1 : World) (b0 b1 c0 c1 : Nat) (r0 r1 v0 v1 : List Ext) (li : Ext) (hC : Cd w w1 b0 b1 c0 c1 r0 r1 v0 v1) (k0 : r0.length ≤ 100000) (k1 : r1.length ≤ 100000) (k2 : v0.length ≤ 100000) (k3 : v1.length ≤ 100000)
    (hr1 : 0 < r1.length) (hne : co r1 (r1.length - 1) ≠ 0) (hli : li = Fld.inv (co r1 (r1.length - 1))) :
    Calls Tryz.prog 70 #[.pointer (some ⟨b0, 0, none⟩), .pointer (some ⟨b1, 0, none⟩), .pointer (some ⟨c1, 0, none⟩), .pointer (some ⟨c0, 0, none⟩)] w1
      fun e w' => e = .returned (.bool (decide (0 < (dvR r1 li r0).length))) ∧ Cd w w' b0 b1 c0 c1 r1 (dvR r1 li r0) v1 (trim (psub v0 (trim (pmul (dvQ r1 li r0) v1)))) := by
  obtain ⟨gn, x0, x1, y0, y1, l0, l1, l2, l3, n1, n2, n3, n4, n5, n6⟩ := hC
  obtain ⟨A0, d0, x0⟩ := x0.hx
  obtain ⟨A1, d1, x1⟩ := x1.hx
  obtain ⟨B0, e0, y0⟩ := y0.hx
  obtain ⟨B1, e1, y1⟩ := y1.hx
  have hRl : (dvR r1 li r0).length ≤ 100000 := by
    have h := dP_len r1 li r0 (r0.length + 1 - r1.length) (r0.length + 1 - r1.length)
    have h2 := trim_length_le (dP r1 li r0 (r0.length + 1 - r1.length) (r0.length + 1 - r1.length))
    unfold dvR; omega
  have hQl : (dvQ r1 li r0).length ≤ 100001 := by
    have h := dQ_len r1 li r0 (r0.length + 1 - r1.length) (r0.length + 1 - r1.length)
    have h2 := trim_length_le (dQ r1 li r0 (r0.length + 1 - r1.length) (r0.length + 1 - r1.length))
    unfold dvQ; omega
  have hDiv := fun (w : World) hp hq => s_divide A0 A1 r0.length d0 r1.length d1 r0 r1 li w hp hq (by omega) (by omega) hr1 hne hli
  generalize dvR r1 li r0 = R at *
  generalize dvQ r1 li r0 = D at *
  clear hne hli
  obtain ⟨Z, hZe⟩ : ∃ Z, Z = trim (psub v0 (trim (pmul D v1))) := ⟨_, rfl⟩
  rw [← hZe]
  replace hZe := Lib.hid hZe
  have q1 := x0.cell; have q2 := x1.cell; have q3 := x0.lt; have q4 := x1.lt
  go_enter Tryz.func70, Tryz.ntmps70
  go_wp2_with fail
  refine (hDiv _ x0.2 x1.2).mono ?_
  rintro e w2 ⟨Aq, cq, Ar, cr, rfl, hQ, hR, g⟩
  replace gn := gn.trans g; replace x0 := x0.up g; replace x1 := x1.up g; replace y0 := y0.up g; replace y1 := y1.up g
  clear q1 q2 q3 q4 g hDiv
  have q1 := x0.cell; have q2 := x1.cell; have q3 := x0.lt; have q4 := x1.lt; have q5 := x0.fz; have q6 := x1.fz
  go_wp2_with fail
  have hw : (w2.setCell ⟨b0, 0, none⟩ (.slice A1 r1.length d1)).setCell ⟨b1, 0, none⟩ (.slice Ar R.length cr) = set1 (set1 w2 b0 (.slice A1 r1.length d1)) b1 (.slice Ar R.length cr) := rfl
  rw [hw]
  clear hw q1 q2 q3 q4 q5 q6
  have z0 := x0.put x1.2
  have z1 := x1.other x0 n1.symm (.slice A1 r1.length d1)
  have z2 := y0.other x0 n2.symm (.slice A1 r1.length d1)
  have z3 := y1.other x0 n3.symm (.slice A1 r1.length d1)
  have zR := x0.row hR (.slice A1 r1.length d1)
  have zQ := x0.row hQ (.slice A1 r1.length d1)
  replace gn := set1_below (v := .slice A1 r1.length d1) gn l0
  clear x0 x1 y0 y1 hR hQ
  have x0 := z0.other z1 n1 (.slice Ar R.length cr)
  have y0 := z2.other z1 n4.symm (.slice Ar R.length cr)
  have y1 := z3.other z1 n5.symm (.slice Ar R.length cr)
  have hQ := z1.row zQ (.slice Ar R.length cr)
  have x1 := z1.put zR
  replace gn := set1_below (v := .slice Ar R.length cr) gn l1
  clear z0 z1 z2 z3 zR zQ
  generalize set1 (set1 w2 b0 (.slice A1 r1.length d1)) b1 (.slice Ar R.length cr) = w3 at *
  have q1 := y0.cell; have q2 := y1.cell; have q3 := y0.lt; have q4 := y1.lt
  have iQ : isSl D _ w3 := ⟨_, _, _, rfl, hQ⟩
  have i0 : isSl v0 _ w3 := ⟨_, _, _, rfl, y0.2⟩
  have i1 : isSl v1 _ w3 := ⟨_, _, _, rfl, y1.2⟩
  have kp := Lib.hid (show (trim (pmul D v1)).length ≤ 300000 from Nat.le_trans (trim_length_le _) (by unfold pmul; rw [tab_length]; omega))
  try simp only [List.append_eq, List.cons_append, List.nil_append]
  refine Fk.wp_region_flow 6 (by kernel_rfl) (by kernel_rfl) ?_
  refine Fk.flow_one rfl (freeB_spec (by kernel_rfl)) ?_
  go_big_quiet_step (fail)
  refine wpQuiet_nil ?_
  refine Fk.flow_one rfl (freeB_spec (by kernel_rfl)) ?_
  go_big_quiet_step (fail)
  refine wpQuiet_nil ?_
  refine Fk.flow_one rfl (freeB_spec (by kernel_rfl)) ?_
  go_big_quiet_step (fail)
  refine wpQuiet_nil ?_
  refine Fk.flow_one rfl (freeB_spec (by kernel_rfl)) ?_
  go_big_quiet_step (fail)
  refine wpQuiet_nil ?_
  refine flow_exS _ rfl (ex_call2 (k_pmul (by omega) (by omega)) rfl (by kernel_rfl) (want_fill (by kernel_rfl) (by kernel_rfl)) (arg_s0 (by kernel_rfl) rfl iQ) (arg_s0 (by kernel_rfl) rfl i1)) ?_
  refine flow_exS _ rfl (ex_call2 (k_psub (by omega) (by have := kp.out; omega)) rfl (by kernel_rfl) (want_fill (by kernel_rfl) (by kernel_rfl)) (arg_s0 (by kernel_rfl) rfl i0) (arg_sv 0 rfl (by kernel_rfl) (by kernel_rfl))) ?_
  intro V N' X hΓ hdis g hX
  obtain ⟨Az, cz, vz, hZ⟩ := end_sv hΓ hX 20 0 rfl
  rw [← hZe.out] at vz hZ
  clear hΓ hdis hX
  have hgn : Gn w3 (gr w3 g) := ⟨g, rfl⟩
  generalize gr w3 g = w4 at *
  conv => arg 5; simp only [fill, Act.put, vz, List.setIfInBounds_toArray, List.set_cons_succ, List.set_cons_zero]
  replace gn := gn.trans hgn; replace x0 := x0.up hgn; replace x1 := x1.up hgn; replace y0 := y0.up hgn; replace y1 := y1.up hgn
  clear q1 q2 q3 q4 iQ i0 i1 vz hQ hgn
  refine tail_storeS rfl rfl y0.1 ?_
  have z0 := x0.other y0 n2 (.slice B1 v1.length e1)
  have z1 := x1.other y0 n4 (.slice B1 v1.length e1)
  have z2 := y0.put y1.2
  have z3 := y1.other y0 n6.symm (.slice B1 v1.length e1)
  have zZ := y0.row hZ (.slice B1 v1.length e1)
  replace gn := set1_below (v := .slice B1 v1.length e1) gn l2
  clear x0 x1 y0 y1 hZ
  generalize set1 w4 c0 (.slice B1 v1.length e1) = w5 at *
  refine tail_storeS rfl rfl z3.1 ?_
  refine wpList_nil ?_
  have x0 := z0.other z3 n3 (.slice Az Z.length cz)
  have x1 := z1.other z3 n5 (.slice Az Z.length cz)
  have y0 := z2.other z3 n6 (.slice Az Z.length cz)
  have y1 := z3.put zZ
  replace gn := set1_below (v := .slice Az Z.length cz) gn l3
  clear z0 z1 z2 z3 zZ
  generalize set1 w5 c1 (.slice Az Z.length cz) = w6 at *
  have q1 := x1.cell; have q2 := x1.lt
  by_cases h : 0 < R.length
  · have b1' : decide ((0 : Int) < (R.length : Int)) = true := decide_eq_true (by omega)
    go_wp2_with fail
    go_ret
    exact ⟨by rw [decide_eq_true h]; rfl, gn, x0.hs, x1.hs, y0.hs, y1.hs, l0, l1, l2, l3, n1, n2, n3, n4, n5, n6⟩
  · have b1' : decide ((0 : Int) < (R.length : Int)) = false := decide_eq_false (by omega)
    go_wp2_with fail
    go_ret
    exact ⟨by rw [decide_eq_false h]; rfl, gn, x0.hs, x1.hs, y0.hs, y1.hs, l0, l1, l2, l3, n1, n2, n3, n4, n5, n6⟩
/-- what candidate answers: where Gao's way has ended, and the quotient there -/
def CandIs (n k : Nat) (x y : Nat → Ext) (w : World) (e : Ending) (w' : World) : Prop := ∃ r0 r1 v0 v1 P ok A c, Gao n k x y r0 r1 v0 v1 ∧ 2 * r1.length ≤ n + k + 1 ∧ e = .returned (.tuple #[.slice A P.length c, .bool ok]) ∧ Sl w' A P.length c P ∧ Gn w w' ∧ P.length ≤ 100001 ∧
  ((r1 = [] ∧ P = [] ∧ ok = true) ∨ (∃ li, co v1 (v1.length - 1) * li = 1 ∧ P = dvQ v1 li r1 ∧ ok = (decide ((dvR v1 li r1).length = 0) && decide (P.length ≤ k))))
theorem dvQ_le {q p : List Ext} {li : Ext} (hp : p.length ≤ 100000) : (dvQ q li p).length ≤ 100001 := by
  have h := dQ_len q li p (p.length + 1 - q.length) (p.length + 1 - q.length)
  have h2 := trim_length_le (dQ q li p (p.length + 1 - q.length) (p.length + 1 - q.length))
  unfold dvQ; omega
theorem last_ne {l : List Ext} (ht : trim l = l) (h0 : 0 < l.length) : co l (l.length - 1) ≠ 0 := by
  have h := co_trim_last (l := l) (by rw [ht]; intro e; rw [e] at h0; simp at h0)
  rwa [ht] at h
theorem block_ne {w : World} {a b : Nat} {cs ds : Array Value} {T U : TypeId} (h : w.heap[a]? = some (.cells cs T)) (k : w.heap[b]? = some (.cells ds U)) (hne : T ≠ U) : a ≠ b := by
  rintro rfl
  rw [h] at k
  have := Option.some.inj k
  injection this with _ e
  exact hne e
end Go.Proofs.YtbfblckgcefaaaaGreatDoor
