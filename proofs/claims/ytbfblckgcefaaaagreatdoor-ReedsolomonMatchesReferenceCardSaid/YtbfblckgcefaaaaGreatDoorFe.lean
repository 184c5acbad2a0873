/- Steps of a flow over rows of elements: arguments told by a property, calls of package poly, boxes that hold a row. -/
import Derived.Test.YtbfblckgcefaaaaGreatDoorRw4
namespace Go.Proofs.YtbfblckgcefaaaaGreatDoor
open Go.RowKit Att Att.CRing
def isSl (l : List Ext) (v : Value) (w : World) : Prop := ∃ A n c, v = .slice A n c ∧ Sl w A n c l
def sv (l : List Ext) : Rel := fun v _ y => isSl l v y
theorem isSl.up {l : List Ext} {v : Value} {x w : World} (h : isSl l v x) (g : Up x w) : isSl l v w := by
  obtain ⟨A, n, c, e, hs⟩ := h; exact ⟨A, n, c, e, hs.up (Gn.of g)⟩
section
variable {ops : Array Oper} {W : World} {o : Oper} {Γ : List Ent} {a : Act}
theorem arg_sv {l : List Ext} (i : Nat) {s : Nat} (h : Γ[i]? = some ⟨s, sv l⟩) (hs : Nat.ble (s + 1) a.tmps.size = true) (hl : (o.looksAt ops).contains s = true) : Arg ops W o Γ a (.tmp s) (isSl l) := by
  have hm := List.mem_of_getElem? h
  intro V N X hΓ w _ hX
  rw [fill_mem (Nat.le_of_ble_eq_true hs) ⟨_, hm, rfl⟩]
  have h1 : sv l (V s) (N s) (X s) := (hΓ _ hm).1
  exact isSl.up h1 (hX _ hm (by simpa using hl))
theorem arg_s0 {l : List Ext} {s : Nat} {v : Value} (h : (Γ.all fun e => e.slot != s) = true) (hc : a.eval (.tmp s) = v) (hl : isSl l v W) : Arg ops W o Γ a (.tmp s) (isSl l) := by
  intro V N X _ w hw _
  rw [fill_else h, hc]
  exact hl.up hw
theorem arg_nil : Arg ops W o Γ a (.const (.slice none 0 0)) (isSl []) := fun _ _ _ _ w _ _ => ⟨none, 0, 0, rfl, Sl.nil w⟩
end
theorem RetSl.ans {w w' : World} {l : List Ext} {e : Ending} (h : RetSl w l e w') : Ans (sv l) w e w' := by
  obtain ⟨A, n, c, rfl, hs, g⟩ := h
  exact ⟨_, rfl, g.below, A, n, c, rfl, hs⟩
theorem isSl.gn {l : List Ext} {v : Value} {x w : World} (h : isSl l v x) (g : Gn x w) : isSl l v w := h.up g.below
theorem k_pmul {l k : List Ext} (hl : l.length ≤ 1000000) (hk : k.length ≤ 1000000) : ∀ u v w, isSl l u w → isSl k v w → Calls Tryz.prog 73 #[u, v] w (Ans (sv (trim (pmul l k))) w) := by
  rintro u v w ⟨A, n, c, rfl, h1⟩ ⟨B, m, d, rfl, h2⟩
  obtain rfl := h1.len
  obtain rfl := h2.len
  exact (p_mulL A B _ c _ d l k w h1 h2 hl hk).mono fun e w' h => h.ans
theorem k_psub {l k : List Ext} (hl : l.length ≤ 1000000) (hk : k.length ≤ 1000000) : ∀ u v w, isSl l u w → isSl k v w → Calls Tryz.prog 72 #[u, v] w (Ans (sv (trim (psub l k))) w) := by
  rintro u v w ⟨A, n, c, rfl, h1⟩ ⟨B, m, d, rfl, h2⟩
  obtain rfl := h1.len
  obtain rfl := h2.len
  exact (p_subL A B _ c _ d l k w h1 h2 hl hk).mono fun e w' h => h.ans
theorem k_ptrim {l : List Ext} (hl : l.length ≤ 1000000) : ∀ u w, isSl l u w → Calls Tryz.prog 68 #[u] w (Ans (sv (trim l)) w) := by
  rintro u w ⟨A, n, c, rfl, h1⟩
  obtain rfl := h1.len
  exact (p_trim A _ c l w h1 (by omega)).mono fun e w' h => h.ans
theorem end_sv {W : World} {Γ : List Ent} {V : Nat → Value} {N : Nat → Nat} {X : Nat → World} (h : ∀ e ∈ Γ, e.rel (V e.slot) (N e.slot) (X e.slot) ∧ Up W (X e.slot) ∧ W.heap.size ≤ N e.slot) {w : World} (hX : ∀ e ∈ Γ, Up (X e.slot) w) (s i : Nat) {l : List Ext} (hs : Γ[i]? = some ⟨s, sv l⟩) : ∃ A c, V s = .slice A l.length c ∧ Sl w A l.length c l := by
  have hm := List.mem_of_getElem? hs
  obtain ⟨h1, _⟩ := h _ hm
  obtain ⟨A, n, c, e, h2⟩ := isSl.up h1 (hX _ hm)
  obtain rfl := h2.len
  exact ⟨A, c, e, h2⟩
/- ───── boxes that hold a row ───── -/
def zeroS : Obj := .cells #[.slice none 0 0] 38
def newS : Rel := fun v n x => ∃ b, v = .pointer (some ⟨b, 0, none⟩) ∧ n ≤ b ∧ x.heap[b]? = some zeroS
theorem run_allocS (ρ : Operand → Value) (d : Option Nat) (ty : TypeId) (pos : String) (aft : Array Edge) (w : World) :
    (execOp ρ ⟨d, .alloc 38, ty, pos, aft, none⟩).run Tryz.prog w = .ok (.value (.pointer (some ⟨w.heap.size, 0, none⟩))) (w.alloc zeroS) := by kernel_rfl
theorem ex_allocS {ops : Array Oper} {W : World} {Γ : List Ent} {a : Act} (d : Nat) (ty : TypeId) (pos : String) (aft : Array Edge) : ExStep Tryz.prog ops W ⟨some d, .alloc 38, ty, pos, aft, none⟩ Γ a newS := by
  intro V N X hΓ g hX K hK
  simp only [wpList, Region.wanted, if_true]
  left
  unfold Oper.wp
  rw [run_allocS]
  exact hK _ _ (Gn.al _).below ⟨_, rfl, Nat.le_refl _, hnew _ _⟩
theorem end_S {W : World} {Γ : List Ent} {V : Nat → Value} {N : Nat → Nat} {X : Nat → World} (h : ∀ e ∈ Γ, e.rel (V e.slot) (N e.slot) (X e.slot) ∧ Up W (X e.slot) ∧ W.heap.size ≤ N e.slot)
    {w : World} (hX : ∀ e ∈ Γ, Up (X e.slot) w) {s : Nat} (hs : ⟨s, newS⟩ ∈ Γ) :
    ∃ b, V s = .pointer (some ⟨b, 0, none⟩) ∧ W.heap.size ≤ b ∧ w.heap[b]? = some zeroS ∧ N s ≤ b ∧ b < (X s).heap.size := by
  obtain ⟨⟨b, h1, h2, h3⟩, _, h4⟩ := h _ hs
  exact ⟨b, h1, Nat.le_trans h4 h2, Gn.block (Gn.of (hX _ hs)) h3, h2, blk_lt h3⟩
/-- the box b holds a row that reads as l -/
def Hs (w : World) (b : Nat) (l : List Ext) : Prop := ∃ A c, w.heap[b]? = some (.cells #[.slice A l.length c] 38) ∧ Sl w A l.length c l
theorem Hs.up {a b : World} {k : Nat} {l : List Ext} (h : Hs a k l) (g : Gn a b) : Hs b k l := by
  obtain ⟨A, c, h1, h2⟩ := h
  exact ⟨A, c, g.block h1, h2.up g⟩
def set1 (w : World) (b : Nat) (v : Value) : World := w.setCell ⟨b, 0, none⟩ v
theorem set1_same {w : World} {b : Nat} {u v : Value} {T : TypeId} (h : w.heap[b]? = some (.cells #[u] T)) : (set1 w b v).heap[b]? = some (.cells #[v] T) := by
  simp [set1, World.setCell, Array.getElem?_modify, h]
theorem set1_other {w : World} {b c : Nat} {v : Value} (hc : c ≠ b) : (set1 w b v).heap[c]? = w.heap[c]? := Below.heap_setCell _ _ _ c hc
theorem set1_below {W w : World} {b : Nat} {v : Value} (h : Gn W w) (hb : W.heap.size ≤ b) : Gn W (set1 w b v) := Gn.of (h.below.setCell hb _)
/-- a row lies elsewhere than a box that holds a row -/
theorem Sl.set1 {w : World} {A A0 : Option Addr} {n c n0 c0 b : Nat} {l : List Ext} {v : Value} {T : TypeId} (h : Sl w A n c l) (hb : w.heap[b]? = some (.cells #[.slice A0 n0 c0] T)) : Sl (set1 w b v) A n c l :=
  ⟨h.len, h.le, h.small, fun hn => by
    obtain ⟨b', o, e, hlt, hc⟩ := h.cells hn
    have hne : b' ≠ b := by
      rintro rfl
      have hl : 0 < l.length := by rw [h.len]; exact hn
      obtain ⟨h1, h2⟩ := hc 0 l[0] (List.getElem?_eq_getElem hl)
      have h3 : ∀ i, w.cell? ⟨b', i, none⟩ = if i = 0 then some (.slice A0 n0 c0) else none := by
        intro i
        simp only [World.cell?, hb]
        rcases i with _ | i
        · rfl
        · rfl
      rw [h3] at h1
      split at h1
      · cases h1
      · cases h1
    refine ⟨b', o, e, by show b' < (World.setCell _ _ _).heap.size; simpa using hlt, fun i x hx => ?_⟩
    obtain ⟨h1, h2⟩ := hc i x hx
    exact ⟨(World.cell?_setCell_far _ _ _ _ (by show b ≠ b'; exact hne.symm)).trans h1, (World.cell?_setCell_far _ _ _ _ (by show b ≠ b'; exact hne.symm)).trans h2⟩⟩
theorem Hs.set {w : World} {b k : Nat} {l : List Ext} {A0 : Option Addr} {n0 c0 : Nat} {v : Value} (h : Hs w k l) (hb : w.heap[b]? = some (.cells #[.slice A0 n0 c0] 38)) (hk : k ≠ b) : Hs (Go.Proofs.YtbfblckgcefaaaaGreatDoor.set1 w b v) k l := by
  obtain ⟨A, c, h1, h2⟩ := h
  exact ⟨A, c, (set1_other hk).trans h1, h2.set1 hb⟩
end Go.Proofs.YtbfblckgcefaaaaGreatDoor
