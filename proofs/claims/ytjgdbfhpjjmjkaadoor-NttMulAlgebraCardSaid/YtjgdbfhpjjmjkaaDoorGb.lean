/- Growth of the world, blocks and cells. -/
import Derived.Test.YtjgdbfhpjjmjkaaDoorGr
import Derived.Test.YtjgdbfhpjjmjkaaDoorLex
import Derived.Test.YtjgdbfhpjjmjkaaDoorFlow
import Derived.Test.YtjgdbfhpjjmjkaaDoorFw3
namespace Go.Proofs.YtjgdbfhpjjmjkaaDoor
open Go.RowKit Att Att.CRing
theorem hnew (w : World) (o : Obj) : (w.alloc o).heap[w.heap.size]? = some o := by unfold World.alloc; simp
/-- w2 has grown out of w1 -/
def Gn (w1 w2 : World) : Prop := ∃ g, w2 = gr w1 g
theorem Gn.below {w1 w2 : World} (h : Gn w1 w2) : Below w1.heap.size w1 w2 := by obtain ⟨g, rfl⟩ := h; exact gr_below _ g
theorem Gn.of {w1 w2 : World} (h : Below w1.heap.size w1 w2) : Gn w1 w2 := to_gr h
theorem Gn.refl (w : World) : Gn w w := ⟨Grow.refl w, rfl⟩
theorem Gn.trans {a b c : World} (h : Gn a b) (k : Gn b c) : Gn a c := Gn.of (Up.trans h.below k.below)
theorem Gn.al {w : World} (o : Obj) : Gn w (w.alloc o) := Gn.of ((Below.refl _ _).alloc (Nat.le_refl _) _)
theorem Gn.size {a b : World} (h : Gn a b) : a.heap.size ≤ b.heap.size := h.below.size
theorem Gn.block {a b : World} (h : Gn a b) {k : Nat} {o : Obj} (ho : a.heap[k]? = some o) : b.heap[k]? = some o :=
  (h.below.block k (Array.getElem?_eq_some_iff.1 ho).1).trans ho

theorem box_a {w : World} {b : Nat} {p q : Value} {T : TypeId} (h : w.heap[b]? = some (.cells #[p, q] T)) : w.cell? ⟨b, 0, none⟩ = some p := by
  simp [World.cell?, h]
theorem box_b {w : World} {b : Nat} {p q : Value} {T : TypeId} (h : w.heap[b]? = some (.cells #[p, q] T)) : w.cell? ⟨b, 1, none⟩ = some q := by
  simp [World.cell?, h]
theorem blk_lt {w : World} {b : Nat} {o : Obj} (h : w.heap[b]? = some o) : b < w.heap.size := (Array.getElem?_eq_some_iff.1 h).1
theorem obj_cell {w : World} {b : Nat} {cs : Array Value} {T : TypeId} (h : w.heap[b]? = some (.cells cs T)) (i : Nat) {v : Value} (hv : cs[i]? = some v) : w.cell? ⟨b, i, none⟩ = some v := by
  simp [World.cell?, h, hv]
theorem box_fz {w : World} {b i : Nat} {cs : Array Value} {T : TypeId} (h : w.heap[b]? = some (.cells cs T)) : w.frozen? ⟨b, i, none⟩ = false := by
  simp [World.frozen?, h]
theorem up_comp {W : World} (g : Grow W) (h : Grow (gr W g)) : Up (gr W g) (gr W (g.comp h)) := gr_below _ _
theorem freeB_spec {ops : Array Oper} {o : Oper} {Γ : List Ent} (h : (Γ.all fun e => !(o.looksAt ops).contains e.slot) = true) : ∀ e ∈ Γ, e.slot ∉ o.looksAt ops := by
  intro e he hc
  have := List.all_eq_true.1 h e he
  simp at this
  exact this hc
theorem wpList_act {P : Program} {ops : Array Oper} {Q : Exit → Act → World → Prop} {l : List Oper} {a a' : Act} {w : World} (h : a = a') (k : wpList P ops Q l a' w) : wpList P ops Q l a w := h ▸ k
end Go.Proofs.YtjgdbfhpjjmjkaaDoor
