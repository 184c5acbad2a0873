/- The laws of polynomials as the statements ask for them. -/
import Derived.Test.YtjchccpicddpoaaPw20
namespace Go.Proofs.Ytjchccpicddpoaa
open Go.RowKit Att Att.CRing
theorem isSl.sl {l : List Ext} {A : Option Addr} {n c : Nat} {w : World} (h : isSl l (.slice A n c) w) : Sl w A n c l := by
  obtain ⟨_, _, _, e, s⟩ := h; cases e; exact s
theorem isSl.len {l : List Ext} {A : Option Addr} {n c : Nat} {w : World} (h : isSl l (.slice A n c) w) : l.length = n := h.sl.len
/-- a pair of a slice and an element -/
def isSE (l : List Ext) (r : Ext) (v : Value) (w : World) : Prop := ∃ A n c, v = .tuple #[.slice A n c, .agg #[.int .u64 (Zm.i (Ext.a (r))), .int .u64 (Zm.i (Ext.b (r)))]] ∧ Sl w A n c l
theorem isSE.up {l : List Ext} {r : Ext} {v : Value} {x w : World} (h : isSE l r v x) (g : Up x w) : isSE l r v w := by
  obtain ⟨A, n, c, e, hs⟩ := h; exact ⟨A, n, c, e, hs.up (Gn.of g)⟩
section
variable {ops : Array Oper} {W : World} {o : Oper} {Γ : List Ent} {a : Act}
theorem arg_se {l : List Ext} {r : Ext} (i : Nat) {s : Nat} (h : Γ[i]? = some ⟨s, svE l r⟩) (hs : Nat.ble (s + 1) a.tmps.size = true) (hl : (o.looksAt ops).contains s = true) : Arg ops W o Γ a (.tmp s) (isSE l r) := by
  have hm := List.mem_of_getElem? h
  intro V N X hΓ w _ hX
  rw [fill_mem (Nat.le_of_ble_eq_true hs) ⟨_, hm, rfl⟩]
  have h1 : svE l r (V s) (N s) (X s) := (hΓ _ hm).1
  exact isSE.up h1 (hX _ hm (by simpa using hl))
theorem ex_mv {x : Operand} {l : List Ext} {r : Ext} (hx : Arg ops W o Γ a x (isSE l r)) (hop : o.op = .move x) (hw : ∀ V, Region.wanted o (yielded ops (fill Γ V a).tmps) = true) : ExS Try.prog ops W o Γ a (svE l r) := by
  refine ⟨?_⟩
  intro V N X hΓ g hX K hK
  have h := hx V N X hΓ _ (Up.gr W g) hX
  simp only [wpList]
  rw [if_pos (hw V)]
  left
  unfold Oper.wp execOp
  simp only [hop]
  exact hK _ _ (Up.refl _) h
theorem ex_as {x : Operand} {l : List Ext} (hx : Arg ops W o Γ a x (isSl l)) (hop : o.op = .assign x) (hw : ∀ V, Region.wanted o (yielded ops (fill Γ V a).tmps) = true) : ExS Try.prog ops W o Γ a (sv l) := by
  refine ⟨?_⟩
  intro V N X hΓ g hX K hK
  have h := hx V N X hΓ _ (Up.gr W g) hX
  simp only [wpList]
  rw [if_pos (hw V)]
  left
  unfold Oper.wp execOp
  simp only [hop]
  exact hK _ _ (Up.refl _) h
theorem ex_e0 {x : Operand} {l : List Ext} {r : Ext} (hx : Arg ops W o Γ a x (isSE l r)) (hop : o.op = .extract x 0) (hw : ∀ V, Region.wanted o (yielded ops (fill Γ V a).tmps) = true) : ExS Try.prog ops W o Γ a (sv l) := by
  refine ⟨?_⟩
  intro V N X hΓ g hX K hK
  obtain ⟨A, n, c, he, hs⟩ := hx V N X hΓ _ (Up.gr W g) hX
  simp only [wpList]
  rw [if_pos (hw V)]
  left
  unfold Oper.wp execOp
  simp only [hop, he]
  exact hK (.slice A n c) _ (Up.refl _) ⟨A, n, c, rfl, hs⟩
theorem ex_e1 {x : Operand} {l : List Ext} {r : Ext} (hx : Arg ops W o Γ a x (isSE l r)) (hop : o.op = .extract x 1) (hw : ∀ V, Region.wanted o (yielded ops (fill Γ V a).tmps) = true) : ExS Try.prog ops W o Γ a (fun v _ _ => v = .agg #[.int .u64 (Zm.i (Ext.a (r))), .int .u64 (Zm.i (Ext.b (r)))]) := by
  refine ⟨?_⟩
  intro V N X hΓ g hX K hK
  obtain ⟨A, n, c, he, hs⟩ := hx V N X hΓ _ (Up.gr W g) hX
  simp only [wpList]
  rw [if_pos (hw V)]
  left
  unfold Oper.wp execOp
  simp only [hop, he]
  exact hK (.agg #[.int .u64 (Zm.i (Ext.a (r))), .int .u64 (Zm.i (Ext.b (r)))]) _ (Up.refl _) rfl
end
theorem k_pdivR {l : List Ext} {x r : Ext} (hl : l.length ≤ 1000000) (hr : ev l x = r) : ∀ u v w, isSl l u w → isV (.agg #[.int .u64 (Zm.i (Ext.a (x))), .int .u64 (Zm.i (Ext.b (x)))]) v w → Calls Try.prog 29 #[u, v] w (Ans (svE (trim (dq l x)) r) w) := by
  subst hr; exact k_pdiv hl
theorem wpList_asg {ops : Array Oper} {rest : List Oper} {a : Act} {w : World} {Q : Exit → Act → World → Prop} {d : Nat} {x : Operand} {v : Value} {ty : TypeId} {pos : String} {aft : Array Edge} (hv : a.eval x = v)
    (h : wpList Try.prog ops Q rest (a.put (some d) v) w) : wpList Try.prog ops Q (⟨some d, .assign x, ty, pos, aft, none⟩ :: rest) a w := by
  refine wpList_plain rfl fun K hK => ?_
  unfold Oper.wp
  simp only [execOp, hv]
  exact hK _ _ h
theorem set2_zero {w : World} {b : Nat} (h : w.heap[b]? = some zeroExt) : set2 w b 0 = w := by
  have e : (set2 w b 0).heap = w.heap := by
    apply Array.ext_getElem?
    intro i
    by_cases hi : i = b
    · subst hi; exact (set2_same h 0).trans h.symm
    · exact set2_other hi 0
  have e2 : set2 w b 0 = { w with heap := (set2 w b 0).heap } := rfl
  rw [e2, e]
theorem bpadd {l k : List Ext} (m : Nat) (h1 : l.length ≤ m) (h2 : k.length ≤ m) : (trim (padd l k)).length ≤ m := Nat.le_trans (trim_length_le _) (by unfold padd; rw [tab_length]; omega)
theorem bpsub {l k : List Ext} (m : Nat) (h1 : l.length ≤ m) (h2 : k.length ≤ m) : (trim (psub l k)).length ≤ m := Nat.le_trans (trim_length_le _) (by unfold psub; rw [tab_length]; omega)
theorem bpmul {l k : List Ext} (m : Nat) (h1 : l.length + k.length ≤ m) : (trim (pmul l k)).length ≤ m := Nat.le_trans (trim_length_le _) (by unfold pmul; rw [tab_length]; exact h1)
theorem bpsca {l : List Ext} {c : Ext} (m : Nat) (h1 : l.length ≤ m) : (trim (psca l c)).length ≤ m := Nat.le_trans (trim_length_le _) (by unfold psca; rw [tab_length]; exact h1)
theorem bdq {l : List Ext} {c : Ext} (m : Nat) (h1 : l.length ≤ m) : (trim (dq l c)).length ≤ m := Nat.le_trans (trim_length_le _) (by rw [dq_len]; omega)
theorem pl1 (p q : List Ext) : trim (padd p q) = trim (padd q p) := trim_ext fun n => by rw [co_padd, co_padd, CRing.add_comm]
theorem pl2 (p q : List Ext) : trim (pmul p q) = trim (pmul q p) := trim_ext fun n => by rw [co_pmul, co_pmul, conv_comm]
theorem pl3 (p q r : List Ext) : trim (padd (trim (padd p q)) r) = trim (padd p (trim (padd q r))) := trim_ext fun n => by rw [co_padd, co_trim, co_padd, co_padd, co_trim, co_padd, CRing.add_assoc]
theorem pl4 (p q r : List Ext) : trim (pmul (trim (pmul p q)) r) = trim (pmul p (trim (pmul q r))) := trim_ext fun n => by
  rw [co_pmul, conv_congr (f' := conv (co p) (co q)) (g' := co r) (fun i _ => by rw [co_trim, co_pmul]) (fun _ _ => rfl), conv_assoc, co_pmul,
    conv_congr (f := co p) (f' := co p) (g := co (trim (pmul q r))) (g' := conv (co q) (co r)) (fun _ _ => rfl) (fun i _ => by rw [co_trim, co_pmul])]
theorem pl5 (p q r : List Ext) : trim (pmul p (trim (padd q r))) = trim (padd (trim (pmul p q)) (trim (pmul p r))) := trim_ext fun n => by
  rw [co_pmul, conv_congr (f' := co p) (g' := fun i => co q i + co r i) (fun _ _ => rfl) (fun i _ => by rw [co_trim, co_padd]), conv_add, co_padd, co_trim, co_trim, co_pmul, co_pmul]
theorem pl6 (p q : List Ext) : trim (padd (trim (psub p q)) q) = trim p := trim_ext fun n => by rw [co_padd, co_trim, co_psub, CRing.sub_add_cancel]
theorem lin_of (y : Ext) : ([-y, int 1] : List Ext) = lin y := by rw [int_one]; rfl
theorem dv1 (p : List Ext) (y : Ext) : trim (padd (trim (pmul (trim (dq p y)) [-y, int 1])) [ev p y]) = trim p := by
  rw [lin_of]
  refine trim_ext fun n => ?_
  rw [co_padd, co_trim, co_pmul, conv_congr (f' := co (dq p y)) (g' := co (lin y)) (fun i _ => co_trim _ i) (fun _ _ => rfl), ← co_pmul, co_lin, dq_eq, divr_co p y n]
  cases n with
  | zero =>
    rw [if_pos rfl, if_pos rfl, divr_rem]
    show 0 - y * co (divr p y).1 0 + ev p y = ev p y - y * co (divr p y).1 0
    exact ring_of [y * co (divr p y).1 0, ev p y] (0 - v0 + v1) (v1 - v0) rfl
  | succ n =>
    rw [if_neg (Nat.succ_ne_zero n), if_neg (Nat.succ_ne_zero n)]
    show _ + co ([] : List Ext) n = _
    rw [co_nil, add_zero]
theorem dv2 (p : List Ext) (y : Ext) : ev (trim (pmul p [-y, int 1])) y = 0 := by rw [lin_of, ev_trim, ev_pmul, ev_lin, sub_self, mul_zero]
theorem dv3 (p : List Ext) (y : Ext) : trim (dq (trim (pmul p [-y, int 1])) y) = trim p := by
  rw [lin_of]
  exact trim_ext (co_div_lin fun n => co_trim _ n)
theorem hom1 (p q : List Ext) (y : Ext) : ev (trim (padd p q)) y = ev p y + ev q y := by rw [ev_trim, ev_padd]
theorem hom2 (p q : List Ext) (y : Ext) : ev (trim (psub p q)) y = ev p y - ev q y := by rw [ev_trim, ev_psub]
theorem hom3 (p q : List Ext) (y : Ext) : ev (trim (pmul p q)) y = ev p y * ev q y := by rw [ev_trim, ev_pmul]
theorem hom4 (p : List Ext) (c y : Ext) : ev (trim (psca p c)) y = ev p y * c := by rw [ev_trim, ev_psca]
theorem degs {p q : List Ext} {a b : Nat} (ha : a + 1 = (trim p).length) (hb : b + 1 = (trim q).length) : ((trim (trim (pmul p q))).length : Int) - 1 = (a : Int) + (b : Int) := by
  rw [trim_trim, trim_pmul_length (fun e => by rw [e] at ha; cases ha) (fun e => by rw [e] at hb; cases hb), ← ha, ← hb]
  omega
end Go.Proofs.Ytjchccpicddpoaa
