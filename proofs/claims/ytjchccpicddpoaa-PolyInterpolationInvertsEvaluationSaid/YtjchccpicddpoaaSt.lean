/- What is known of a world, in one row: structs in blocks of their own; told anew of each world that grows out of it. -/
import Derived.Test.YtjchccpicddpoaaEr1
import Derived.Test.YtjchccpicddpoaaLex
import Derived.Test.YtjchccpicddpoaaFlow
namespace Go.Proofs.Ytjchccpicddpoaa
open Go.RowKit Att Att.CRing

theorem hnew (w : World) (o : Obj) : (w.alloc o).heap[w.heap.size]? = some o := by unfold World.alloc; simp
/-- w2 has grown out of w1 -/
def Gn (w1 w2 : World) : Prop := ∃ g, w2 = gr w1 g
theorem Gn.below {w1 w2 : World} (h : Gn w1 w2) : Below w1.heap.size w1 w2 := by obtain ⟨g, rfl⟩ := h; exact gr_below _ g
theorem Gn.of {w1 w2 : World} (h : Below w1.heap.size w1 w2) : Gn w1 w2 := to_gr h
theorem Gn.refl (w : World) : Gn w w := ⟨Grow.refl w, rfl⟩
theorem Gn.trans {a b c : World} (h : Gn a b) (k : Gn b c) : Gn a c := Gn.of (Up.trans h.below k.below)
theorem Gn.al {w : World} (o : Obj) : Gn w (w.alloc o) := Gn.of ((Below.refl _ _).alloc (Nat.le_refl _) _)
theorem Gn.size {a b : World} (h : Gn a b) : a.heap.size ≤ b.heap.size := h.below.size
theorem Gn.block {a b : World} (h : Gn a b) {k : Nat} {o : Obj} (ho : a.heap[k]? = some o) : b.heap[k]? = some o :=
  (h.below.block k (Array.getElem?_eq_some_iff.1 ho).1).trans ho

inductive Fact where
  /-- a struct of two numbers in a block of its own -/
  | box (b : Nat) (x : Ext)
  /-- any block -/
  | obj (b : Nat) (o : Obj)
def Fact.At (w : World) : Fact → Prop
  | .box b x => w.heap[b]? = some (.cells #[.int .u64 (Zm.i (Ext.a x)), .int .u64 (Zm.i (Ext.b x))] 25)
  | .obj b o => w.heap[b]? = some o
theorem Fact.At.up {a b : World} (h : Gn a b) : ∀ {f : Fact}, f.At a → f.At b
  | .box _ _, hf => h.block hf
  | .obj _ _, hf => h.block hf
def Holds (w : World) : List Fact → Prop
  | [] => True
  | f :: l => f.At w ∧ Holds w l
theorem Holds.up {a b : World} (h : Gn a b) : ∀ {l : List Fact}, Holds a l → Holds b l
  | [], _ => trivial
  | _ :: _, ⟨h1, h2⟩ => ⟨h1.up h, h2.up h⟩
theorem Holds.nil (w : World) : Holds w [] := trivial
/-- a struct is boxed -/
theorem Holds.box {w : World} {l : List Fact} (h : Holds w l) (x : Ext) : Holds (w.alloc (.cells #[.int .u64 (Zm.i (Ext.a x)), .int .u64 (Zm.i (Ext.b x))] 25)) (.box w.heap.size x :: l) :=
  ⟨hnew w _, h.up (Gn.al _)⟩
theorem Holds.al {w : World} {l : List Fact} (h : Holds w l) (o : Obj) : Holds (w.alloc o) (.obj w.heap.size o :: l) :=
  ⟨hnew w _, h.up (Gn.al _)⟩
theorem Holds.tail {w : World} {f : Fact} {l : List Fact} (h : Holds w (f :: l)) : Holds w l := h.2

theorem box_a {w : World} {b : Nat} {p q : Value} {T : TypeId} (h : w.heap[b]? = some (.cells #[p, q] T)) : w.cell? ⟨b, 0, none⟩ = some p := by
  simp [World.cell?, h]
theorem box_b {w : World} {b : Nat} {p q : Value} {T : TypeId} (h : w.heap[b]? = some (.cells #[p, q] T)) : w.cell? ⟨b, 1, none⟩ = some q := by
  simp [World.cell?, h]
theorem blk_lt {w : World} {b : Nat} {o : Obj} (h : w.heap[b]? = some o) : b < w.heap.size := (Array.getElem?_eq_some_iff.1 h).1
theorem obj_cell {w : World} {b : Nat} {cs : Array Value} {T : TypeId} (h : w.heap[b]? = some (.cells cs T)) (i : Nat) {v : Value} (hv : cs[i]? = some v) : w.cell? ⟨b, i, none⟩ = some v := by
  simp [World.cell?, h, hv]
/-- what the walk needs of a box -/
theorem open_box {w : World} {b : Nat} {x : Ext} (h : (Fact.box b x).At w) : w.cell? ⟨b, 0, none⟩ = some (.int .u64 (Zm.i (Ext.a x))) ∧ w.cell? ⟨b, 1, none⟩ = some (.int .u64 (Zm.i (Ext.b x))) ∧ b < w.heap.size :=
  ⟨box_a h, box_b h, blk_lt h⟩

/- ───── a box is made, and written ───── -/
theorem box_fz {w : World} {b i : Nat} {cs : Array Value} {T : TypeId} (h : w.heap[b]? = some (.cells cs T)) : w.frozen? ⟨b, i, none⟩ = false := by
  simp [World.frozen?, h]
theorem box_set0 {w : World} {b : Nat} {p q p' : Value} {T : TypeId} (h : w.heap[b]? = some (.cells #[p, q] T)) : (w.setCell ⟨b, 0, none⟩ p').heap[b]? = some (.cells #[p', q] T) := by
  simp [World.setCell, Array.getElem?_modify, h]
theorem box_set1 {w : World} {b : Nat} {p q q' : Value} {T : TypeId} (h : w.heap[b]? = some (.cells #[p, q] T)) : (w.setCell ⟨b, 1, none⟩ q').heap[b]? = some (.cells #[p, q'] T) := by
  simp [World.setCell, Array.getElem?_modify, h]
/-- the world behind a struct's store into its box -/
def set2 (w : World) (b : Nat) (x : Ext) : World := (w.setCell ⟨b, 0, none⟩ (.int .u64 (Zm.i (Ext.a x)))).setCell ⟨b, 1, none⟩ (.int .u64 (Zm.i (Ext.b x)))
theorem set2_same {w : World} {b : Nat} {p q : Value} {T : TypeId} (h : w.heap[b]? = some (.cells #[p, q] T)) (x : Ext) : (set2 w b x).heap[b]? = some (.cells #[.int .u64 (Zm.i (Ext.a x)), .int .u64 (Zm.i (Ext.b x))] T) :=
  box_set1 (box_set0 h)
theorem set2_other {w : World} {b c : Nat} (h : c ≠ b) (x : Ext) : (set2 w b x).heap[c]? = w.heap[c]? :=
  (Below.heap_setCell _ _ _ c h).trans (Below.heap_setCell _ _ _ c h)
theorem set2_keep {w : World} {b c : Nat} {o : Obj} (x : Ext) (h : w.heap[c]? = some o) (hn : c ≠ b) : (set2 w b x).heap[c]? = some o := (set2_other hn x).trans h
theorem set2_below {W w : World} {b : Nat} (h : Gn W w) (hb : W.heap.size ≤ b) (x : Ext) : Gn W (set2 w b x) :=
  Gn.of ((h.below.setCell hb _).setCell hb _)
def zeroExt : Obj := .cells #[.int .u64 0, .int .u64 0] 25
/-- what is known of a new box -/
def newBox : Rel := fun v n x => ∃ b, v = .pointer (some ⟨b, 0, none⟩) ∧ n ≤ b ∧ x.heap[b]? = some zeroExt
theorem up_comp {W : World} (g : Grow W) (h : Grow (gr W g)) : Up (gr W g) (gr W (g.comp h)) := gr_below _ _
theorem run_allocExt (ρ : Operand → Value) (d : Option Nat) (ty : TypeId) (pos : String) (aft : Array Edge) (w : World) :
    (execOp ρ ⟨d, .alloc 25, ty, pos, aft, none⟩).run Try.prog w = .ok (.value (.pointer (some ⟨w.heap.size, 0, none⟩))) (w.alloc zeroExt) := by kernel_rfl
theorem ex_alloc {ops : Array Oper} {W : World} {Γ : List Ent} {a : Act} (d : Nat) (ty : TypeId) (pos : String) (aft : Array Edge) : ExStep Try.prog ops W ⟨some d, .alloc 25, ty, pos, aft, none⟩ Γ a newBox := by
  intro V N X hΓ g hX K hK
  simp only [wpList, Region.wanted, if_true]
  left
  unfold Oper.wp
  rw [run_allocExt]
  exact hK _ _ (Gn.al _).below ⟨_, rfl, Nat.le_refl _, hnew _ _⟩
/-- at the end of a flow: a new box -/
theorem end_box {W : World} {Γ : List Ent} {V : Nat → Value} {N : Nat → Nat} {X : Nat → World} (h : ∀ e ∈ Γ, e.rel (V e.slot) (N e.slot) (X e.slot) ∧ Up W (X e.slot) ∧ W.heap.size ≤ N e.slot)
    {w : World} (hX : ∀ e ∈ Γ, Up (X e.slot) w) {s : Nat} (hs : ⟨s, newBox⟩ ∈ Γ) :
    ∃ b, V s = .pointer (some ⟨b, 0, none⟩) ∧ W.heap.size ≤ b ∧ w.heap[b]? = some zeroExt ∧ N s ≤ b ∧ b < (X s).heap.size := by
  obtain ⟨⟨b, h1, h2, h3⟩, _, h4⟩ := h _ hs
  exact ⟨b, h1, Nat.le_trans h4 h2, Gn.block (Gn.of (hX _ hs)) h3, h2, blk_lt h3⟩
/-- two boxes of a flow -/
theorem end_boxes2 {W : World} {Γ : List Ent} {V : Nat → Value} {N : Nat → Nat} {X : Nat → World} (h : ∀ e ∈ Γ, e.rel (V e.slot) (N e.slot) (X e.slot) ∧ Up W (X e.slot) ∧ W.heap.size ≤ N e.slot)
    (hd : ∀ e ∈ Γ, ∀ e' ∈ Γ, e.slot ≠ e'.slot → (X e.slot).heap.size ≤ N e'.slot ∨ (X e'.slot).heap.size ≤ N e.slot)
    {w : World} (hX : ∀ e ∈ Γ, Up (X e.slot) w) (s t : Nat) (hs : ⟨s, newBox⟩ ∈ Γ) (ht : ⟨t, newBox⟩ ∈ Γ) (hne : s ≠ t) :
    ∃ b c, (V s = .pointer (some ⟨b, 0, none⟩) ∧ V t = .pointer (some ⟨c, 0, none⟩)) ∧ b ≠ c ∧ W.heap.size ≤ b ∧ W.heap.size ≤ c ∧ w.heap[b]? = some zeroExt ∧ w.heap[c]? = some zeroExt := by
  obtain ⟨b, b1, b2, b3, b4, b5⟩ := end_box h hX hs
  obtain ⟨c, c1, c2, c3, c4, c5⟩ := end_box h hX ht
  refine ⟨b, c, ⟨b1, c1⟩, ?_, b2, c2, b3, c3⟩
  have := hd _ hs _ ht hne
  simp only at this
  omega
theorem end_boxes3 {W : World} {Γ : List Ent} {V : Nat → Value} {N : Nat → Nat} {X : Nat → World} (h : ∀ e ∈ Γ, e.rel (V e.slot) (N e.slot) (X e.slot) ∧ Up W (X e.slot) ∧ W.heap.size ≤ N e.slot)
    (hd : ∀ e ∈ Γ, ∀ e' ∈ Γ, e.slot ≠ e'.slot → (X e.slot).heap.size ≤ N e'.slot ∨ (X e'.slot).heap.size ≤ N e.slot)
    {w : World} (hX : ∀ e ∈ Γ, Up (X e.slot) w) (s t u : Nat) (hs : ⟨s, newBox⟩ ∈ Γ) (ht : ⟨t, newBox⟩ ∈ Γ) (hu : ⟨u, newBox⟩ ∈ Γ) (h1 : s ≠ t) (h2 : s ≠ u) (h3 : t ≠ u) :
    ∃ b c d, (V s = .pointer (some ⟨b, 0, none⟩) ∧ V t = .pointer (some ⟨c, 0, none⟩) ∧ V u = .pointer (some ⟨d, 0, none⟩)) ∧ (b ≠ c ∧ b ≠ d ∧ c ≠ d) ∧ (W.heap.size ≤ b ∧ W.heap.size ≤ c ∧ W.heap.size ≤ d) ∧
      w.heap[b]? = some zeroExt ∧ w.heap[c]? = some zeroExt ∧ w.heap[d]? = some zeroExt := by
  obtain ⟨b, b1, b2, b3, b4, b5⟩ := end_box h hX hs
  obtain ⟨c, c1, c2, c3, c4, c5⟩ := end_box h hX ht
  obtain ⟨d, d1, d2, d3, d4, d5⟩ := end_box h hX hu
  have e1 := hd _ hs _ ht h1
  have e2 := hd _ hs _ hu h2
  have e3 := hd _ ht _ hu h3
  simp only at e1 e2 e3
  exact ⟨b, c, d, ⟨b1, c1, d1⟩, ⟨by omega, by omega, by omega⟩, ⟨b2, c2, d2⟩, b3, c3, d3⟩
theorem freeB_spec {ops : Array Oper} {o : Oper} {Γ : List Ent} (h : (Γ.all fun e => !(o.looksAt ops).contains e.slot) = true) : ∀ e ∈ Γ, e.slot ∉ o.looksAt ops := by
  intro e he hc
  have := List.all_eq_true.1 h e he
  simp at this
  exact this hc
theorem wpList_act {P : Program} {ops : Array Oper} {Q : Exit → Act → World → Prop} {l : List Oper} {a a' : Act} {w : World} (h : a = a') (k : wpList P ops Q l a' w) : wpList P ops Q l a w := h ▸ k
/- ───── stores ───── -/
theorem run_store2 {b : Nat} {x : Ext} {p q : Value} {T : TypeId} {w : World} (h : w.heap[b]? = some (.cells #[p, q] T)) :
    (Instr.storeAt 25 (.pointer (some ⟨b, 0, none⟩)) (.agg #[.int .u64 (Zm.i (Ext.a (x))), .int .u64 (Zm.i (Ext.b (x)))])).run Try.prog w = .ok () (set2 w b x) := by
  have c0 := box_a h
  have c1 := box_b h
  have f0 := box_fz (i := 0) h
  have f1 := box_fz (i := 1) h
  simp [go_sem, c0, c1, f0, f1]
  rfl
theorem tail_store {ops : Array Oper} {Q : Exit → Act → World → Prop} {l : List Oper} {a : Act} {w : World} {s t : Operand} {ty : TypeId} {pos : String} {aft : Array Edge} {b : Nat} {x : Ext} {p q : Value} {T : TypeId}
    (hs : a.eval s = .pointer (some ⟨b, 0, none⟩)) (ht : a.eval t = .agg #[.int .u64 (Zm.i (Ext.a (x))), .int .u64 (Zm.i (Ext.b (x)))]) (h : w.heap[b]? = some (.cells #[p, q] T)) (k : wpList Try.prog ops Q l a (set2 w b x)) :
    wpList Try.prog ops Q (⟨none, .store 25 s t, ty, pos, aft, none⟩ :: l) a w := by
  simp only [wpList, Region.wanted, if_true]
  left
  unfold Oper.wp
  have e : (execOp a.eval ⟨none, .store 25 s t, ty, pos, aft, none⟩).run Try.prog w = .ok .skip (set2 w b x) := by
    simp only [execOp, hs, ht]
    simp only [Sem.run_bind, run_store2 h]
    rfl
  rw [e]
  exact k

/-- an arbitrary pair made an element -/
def mk (p q : Int) : Ext := ⟨int p, int q⟩
theorem x_mk (p q : Int) [In64 p] [In64 q] (w : World) :
    Calls Try.prog 13 #[.agg #[.int .u64 p, .int .u64 q]] w fun e w' => e = .returned (.agg #[.int .u64 (Zm.i (Ext.a (mk p q))), .int .u64 (Zm.i (Ext.b (mk p q)))]) ∧ ∃ g, w' = gr w g := x_made p q w
theorem Holds.set {W w : World} {b : Nat} {x : Ext} : ∀ {l : List Fact}, Holds W l → Gn W w → W.heap.size ≤ b → Holds (set2 w b x) l
  | _, h, hg, hb => h.up (set2_below hg hb x)
end Go.Proofs.Ytjchccpicddpoaa
