/- A world that has grown: below its old size nothing has turned. As a function of the growth, so that the walk reads through it as it reads through draws; and a region that draws its order and whose callees make memory, walked once. -/
import Derived.Test.YtjgdbfhpjjmjkaaDoorFrm
import Derived.Lib.Hide
namespace Go.RowKit

@[simp, go_sem] theorem lt_up2 (n : Nat) : (n < n + 1 + 1) = True := by simp only [eq_iff_iff, iff_true]; omega
@[simp, go_sem] theorem le_up2 (n : Nat) : (n ≤ n + 1 + 1) = True := by simp only [eq_iff_iff, iff_true]; omega
@[simp, go_sem] theorem lt_up3 (n : Nat) : (n < n + 1 + 1 + 1) = True := by simp only [eq_iff_iff, iff_true]; omega
@[simp, go_sem] theorem le_up3 (n : Nat) : (n ≤ n + 1 + 1 + 1) = True := by simp only [eq_iff_iff, iff_true]; omega
@[simp, go_sem] theorem lt_up4 (n : Nat) : (n < n + 1 + 1 + 1 + 1) = True := by simp only [eq_iff_iff, iff_true]; omega
@[simp, go_sem] theorem le_up4 (n : Nat) : (n ≤ n + 1 + 1 + 1 + 1) = True := by simp only [eq_iff_iff, iff_true]; omega
@[simp, go_sem] theorem lt_up5 (n : Nat) : (n < n + 1 + 1 + 1 + 1 + 1) = True := by simp only [eq_iff_iff, iff_true]; omega
@[simp, go_sem] theorem le_up5 (n : Nat) : (n ≤ n + 1 + 1 + 1 + 1 + 1) = True := by simp only [eq_iff_iff, iff_true]; omega
@[simp, go_sem] theorem lt_up6 (n : Nat) : (n < n + 1 + 1 + 1 + 1 + 1 + 1) = True := by simp only [eq_iff_iff, iff_true]; omega
@[simp, go_sem] theorem le_up6 (n : Nat) : (n ≤ n + 1 + 1 + 1 + 1 + 1 + 1) = True := by simp only [eq_iff_iff, iff_true]; omega
@[simp, go_sem] theorem lt_up7 (n : Nat) : (n < n + 1 + 1 + 1 + 1 + 1 + 1 + 1) = True := by simp only [eq_iff_iff, iff_true]; omega
@[simp, go_sem] theorem le_up7 (n : Nat) : (n ≤ n + 1 + 1 + 1 + 1 + 1 + 1 + 1) = True := by simp only [eq_iff_iff, iff_true]; omega
@[simp, go_sem] theorem lt_up8 (n : Nat) : (n < n + 1 + 1 + 1 + 1 + 1 + 1 + 1 + 1) = True := by simp only [eq_iff_iff, iff_true]; omega
@[simp, go_sem] theorem le_up8 (n : Nat) : (n ≤ n + 1 + 1 + 1 + 1 + 1 + 1 + 1 + 1) = True := by simp only [eq_iff_iff, iff_true]; omega

@[simp, go_sem] theorem ne_up1 (n : Nat) : (n + 1 = n) = False := by simp only [eq_iff_iff, iff_false]; omega
@[simp, go_sem] theorem ne_dn1 (n : Nat) : (n = n + 1) = False := by simp only [eq_iff_iff, iff_false]; omega
@[simp, go_sem] theorem ne_up2 (n : Nat) : (n + 1 + 1 = n) = False := by simp only [eq_iff_iff, iff_false]; omega
@[simp, go_sem] theorem ne_dn2 (n : Nat) : (n = n + 1 + 1) = False := by simp only [eq_iff_iff, iff_false]; omega
@[simp, go_sem] theorem ne_up3 (n : Nat) : (n + 1 + 1 + 1 = n) = False := by simp only [eq_iff_iff, iff_false]; omega
@[simp, go_sem] theorem ne_dn3 (n : Nat) : (n = n + 1 + 1 + 1) = False := by simp only [eq_iff_iff, iff_false]; omega
@[simp, go_sem] theorem ne_up4 (n : Nat) : (n + 1 + 1 + 1 + 1 = n) = False := by simp only [eq_iff_iff, iff_false]; omega
@[simp, go_sem] theorem ne_dn4 (n : Nat) : (n = n + 1 + 1 + 1 + 1) = False := by simp only [eq_iff_iff, iff_false]; omega
@[simp, go_sem] theorem ne_up5 (n : Nat) : (n + 1 + 1 + 1 + 1 + 1 = n) = False := by simp only [eq_iff_iff, iff_false]; omega
@[simp, go_sem] theorem ne_dn5 (n : Nat) : (n = n + 1 + 1 + 1 + 1 + 1) = False := by simp only [eq_iff_iff, iff_false]; omega
@[simp, go_sem] theorem ne_up6 (n : Nat) : (n + 1 + 1 + 1 + 1 + 1 + 1 = n) = False := by simp only [eq_iff_iff, iff_false]; omega
@[simp, go_sem] theorem ne_dn6 (n : Nat) : (n = n + 1 + 1 + 1 + 1 + 1 + 1) = False := by simp only [eq_iff_iff, iff_false]; omega
@[simp, go_sem] theorem ne_up7 (n : Nat) : (n + 1 + 1 + 1 + 1 + 1 + 1 + 1 = n) = False := by simp only [eq_iff_iff, iff_false]; omega
@[simp, go_sem] theorem ne_dn7 (n : Nat) : (n = n + 1 + 1 + 1 + 1 + 1 + 1 + 1) = False := by simp only [eq_iff_iff, iff_false]; omega
@[simp, go_sem] theorem ne_up8 (n : Nat) : (n + 1 + 1 + 1 + 1 + 1 + 1 + 1 + 1 = n) = False := by simp only [eq_iff_iff, iff_false]; omega
@[simp, go_sem] theorem ne_dn8 (n : Nat) : (n = n + 1 + 1 + 1 + 1 + 1 + 1 + 1 + 1) = False := by simp only [eq_iff_iff, iff_false]; omega

/-- the worlds that W may have grown to -/
structure Grow (W : World) where
  w : World
  below : Below W.heap.size W w
def gr (W : World) (g : Grow W) : World := g.w
theorem gr_below (W : World) (g : Grow W) : Below W.heap.size W (gr W g) := g.below
theorem to_gr {W w' : World} (h : Below W.heap.size W w') : ∃ g, w' = gr W g := ⟨⟨w', h⟩, rfl⟩
instance (W : World) : Nonempty (Grow W) := ⟨⟨W, Below.refl _ _⟩⟩
def Grow.refl (W : World) : Grow W := ⟨W, Below.refl _ _⟩
def Grow.comp {W : World} (g : Grow W) (h : Grow (gr W g)) : Grow W := ⟨gr (gr W g) h, g.below.trans (h.below.mono g.below.size)⟩
def Grow.draws {W : World} (g : Grow W) (n : Nat) : Grow W := ⟨(gr W g).drewN n, ⟨g.below.os, g.below.tape, g.below.output, g.below.size, g.below.block⟩⟩
@[simp, go_sem] theorem gr_refl (W : World) : gr W (Grow.refl W) = W := rfl
@[simp, go_sem] theorem gr_gr (W : World) (g : Grow W) (h : Grow (gr W g)) : gr (gr W g) h = gr W (g.comp h) := rfl
@[simp, go_sem] theorem gr_drewN (W : World) (g : Grow W) (n : Nat) : (gr W g).drewN n = gr W (g.draws n) := rfl
@[simp, go_sem] theorem gr_drew (W : World) (g : Grow W) : (gr W g).drew = gr W (g.draws 1) := rfl
@[simp, go_sem] theorem gr_tape (W : World) (g : Grow W) : (gr W g).tape = W.tape := g.below.tape
@[simp, go_sem] theorem gr_cell (W : World) (g : Grow W) (b i : Nat) (h : b < W.heap.size) : (gr W g).cell? ⟨b, i, none⟩ = W.cell? ⟨b, i, none⟩ := g.below.cell h
@[simp, go_sem] theorem gr_frozen (W : World) (g : Grow W) (b i : Nat) (h : b < W.heap.size) : (gr W g).frozen? ⟨b, i, none⟩ = W.frozen? ⟨b, i, none⟩ := g.below.frozen h
theorem gr_size (W : World) (g : Grow W) : W.heap.size ≤ (gr W g).heap.size := g.below.size
@[simp, go_sem] theorem gr_lt (W : World) (g : Grow W) (n : Nat) (h : n < W.heap.size) : (n < (gr W g).heap.size) = True := by
  have := g.below.size
  simp only [eq_iff_iff, iff_true]
  show n < g.w.heap.size
  omega
@[simp, go_sem] theorem gr_le (W : World) (g : Grow W) (n : Nat) (h : n ≤ W.heap.size) : (n ≤ (gr W g).heap.size) = True := by
  have := g.below.size
  simp only [eq_iff_iff, iff_true]
  show n ≤ g.w.heap.size
  omega
@[simp, go_sem] theorem gr_lt_1 (W : World) (g : Grow W) (n : Nat) (h : n < W.heap.size) : (n < (gr W g).heap.size + 1) = True := by
  have := gr_size W g
  simp only [eq_iff_iff, iff_true]
  omega
@[simp, go_sem] theorem gr_le_1 (W : World) (g : Grow W) (n : Nat) (h : n ≤ W.heap.size) : (n ≤ (gr W g).heap.size + 1) = True := by
  have := gr_size W g
  simp only [eq_iff_iff, iff_true]
  omega
@[simp, go_sem] theorem gr_lt_2 (W : World) (g : Grow W) (n : Nat) (h : n < W.heap.size) : (n < (gr W g).heap.size + 1 + 1) = True := by
  have := gr_size W g
  simp only [eq_iff_iff, iff_true]
  omega
@[simp, go_sem] theorem gr_le_2 (W : World) (g : Grow W) (n : Nat) (h : n ≤ W.heap.size) : (n ≤ (gr W g).heap.size + 1 + 1) = True := by
  have := gr_size W g
  simp only [eq_iff_iff, iff_true]
  omega
@[simp, go_sem] theorem gr_lt_3 (W : World) (g : Grow W) (n : Nat) (h : n < W.heap.size) : (n < (gr W g).heap.size + 1 + 1 + 1) = True := by
  have := gr_size W g
  simp only [eq_iff_iff, iff_true]
  omega
@[simp, go_sem] theorem gr_le_3 (W : World) (g : Grow W) (n : Nat) (h : n ≤ W.heap.size) : (n ≤ (gr W g).heap.size + 1 + 1 + 1) = True := by
  have := gr_size W g
  simp only [eq_iff_iff, iff_true]
  omega
@[simp, go_sem] theorem gr_lt_4 (W : World) (g : Grow W) (n : Nat) (h : n < W.heap.size) : (n < (gr W g).heap.size + 1 + 1 + 1 + 1) = True := by
  have := gr_size W g
  simp only [eq_iff_iff, iff_true]
  omega
@[simp, go_sem] theorem gr_le_4 (W : World) (g : Grow W) (n : Nat) (h : n ≤ W.heap.size) : (n ≤ (gr W g).heap.size + 1 + 1 + 1 + 1) = True := by
  have := gr_size W g
  simp only [eq_iff_iff, iff_true]
  omega
@[simp, go_sem] theorem gr_ne_0 (W : World) (g : Grow W) (n : Nat) (h : n < W.heap.size) : (n = (gr W g).heap.size) = False := by
  have := gr_size W g
  simp only [eq_iff_iff, iff_false]
  omega
@[simp, go_sem] theorem gr_ne'_0 (W : World) (g : Grow W) (n : Nat) (h : n < W.heap.size) : ((gr W g).heap.size = n) = False := by
  have := gr_size W g
  simp only [eq_iff_iff, iff_false]
  omega
@[simp, go_sem] theorem gr_ne_1 (W : World) (g : Grow W) (n : Nat) (h : n < W.heap.size) : (n = (gr W g).heap.size + 1) = False := by
  have := gr_size W g
  simp only [eq_iff_iff, iff_false]
  omega
@[simp, go_sem] theorem gr_ne'_1 (W : World) (g : Grow W) (n : Nat) (h : n < W.heap.size) : ((gr W g).heap.size + 1 = n) = False := by
  have := gr_size W g
  simp only [eq_iff_iff, iff_false]
  omega
@[simp, go_sem] theorem gr_ne_2 (W : World) (g : Grow W) (n : Nat) (h : n < W.heap.size) : (n = (gr W g).heap.size + 1 + 1) = False := by
  have := gr_size W g
  simp only [eq_iff_iff, iff_false]
  omega
@[simp, go_sem] theorem gr_ne'_2 (W : World) (g : Grow W) (n : Nat) (h : n < W.heap.size) : ((gr W g).heap.size + 1 + 1 = n) = False := by
  have := gr_size W g
  simp only [eq_iff_iff, iff_false]
  omega
@[simp, go_sem] theorem gr_ne_3 (W : World) (g : Grow W) (n : Nat) (h : n < W.heap.size) : (n = (gr W g).heap.size + 1 + 1 + 1) = False := by
  have := gr_size W g
  simp only [eq_iff_iff, iff_false]
  omega
@[simp, go_sem] theorem gr_ne'_3 (W : World) (g : Grow W) (n : Nat) (h : n < W.heap.size) : ((gr W g).heap.size + 1 + 1 + 1 = n) = False := by
  have := gr_size W g
  simp only [eq_iff_iff, iff_false]
  omega

theorem below_gr {B : Nat} {a w : World} (h : Below B a w) (hB : B ≤ w.heap.size) (g : Grow w) : Below B a (gr w g) := h.trans (g.below.mono hB)

theorem up_gr {w v : World} (h : Below w.heap.size w v) (g : Grow v) : Below w.heap.size w (gr v g) := below_gr h h.size g
/- several growths and allocs in one step: simp's discharger goes only two deep -/
theorem below_al {W V : World} (hb : Below W.heap.size W V) (o : Obj) : Below W.heap.size W (V.alloc o) := hb.alloc hb.size _
@[simp, go_sem] theorem gr2_cell (W : World) (g : Grow W) (o : Obj) (h : Grow ((gr W g).alloc o)) (b i : Nat) (hn : b < W.heap.size) : (gr ((gr W g).alloc o) h).cell? ⟨b, i, none⟩ = W.cell? ⟨b, i, none⟩ :=
  (below_gr (below_al (gr_below W g) o) (by have := gr_size W g; simp only [World.size_alloc]; omega) h).cell hn
@[simp, go_sem] theorem gr3_cell (W : World) (g : Grow W) (o o2 : Obj) (h : Grow (((gr W g).alloc o).alloc o2)) (b i : Nat) (hn : b < W.heap.size) : (gr (((gr W g).alloc o).alloc o2) h).cell? ⟨b, i, none⟩ = W.cell? ⟨b, i, none⟩ :=
  (below_gr (below_al (below_al (gr_below W g) o) o2) (by have := gr_size W g; simp only [World.size_alloc]; omega) h).cell hn
@[simp, go_sem] theorem gr4_cell (W : World) (g : Grow W) (o o2 : Obj) (h : Grow ((gr W g).alloc o)) (k : Grow ((gr ((gr W g).alloc o) h).alloc o2)) (b i : Nat) (hn : b < W.heap.size) :
    (gr ((gr ((gr W g).alloc o) h).alloc o2) k).cell? ⟨b, i, none⟩ = W.cell? ⟨b, i, none⟩ :=
  (below_gr (below_al (below_gr (below_al (gr_below W g) o) (by have := gr_size W g; simp only [World.size_alloc]; omega) h) o2) (by have := gr_size W g; have := gr_size _ h; simp only [World.size_alloc] at *; omega) k).cell hn

/-- a contract that only grows, told with a growth -/
theorem calls_gr {P : Program} {f : FuncId} {args : Array Value} {w : World} {R : Ending → Prop} (h : Calls P f args w fun e w' => R e ∧ Below w.heap.size w w') :
    Calls P f args w fun e w' => R e ∧ ∃ g, w' = gr w g :=
  h.mono fun _ _ ⟨he, hb⟩ => ⟨he, to_gr hb⟩

section
variable {P : Program} {ops : Array Oper} {C : World → Prop}
/-- a region that draws, whose operations read and whose callees make memory: one walk -/
theorem wp_region_gr {id : Nat} {Q : Exit → Act → World → Prop} {a : Act} {w : World} {l : List Oper} (hm : P.follows .mixedOrders = true) (hB : Region.lexB .any l.toArray = true)
    (h : wpQuiet P l.toArray (fun w' => ∃ g, w' = gr w g) (fun a' => ∀ w', (∃ g, w' = gr w g) → Q .normal a' w') l a) : (Code.region id l.toArray true).wp P Q a w :=
  wp_region_quiet (C := fun w' => ∃ g, w' = gr w g) hm hB ⟨(Grow.refl w).draws 1, rfl⟩ (by simpa using h)

theorem wpList_of_quiet {Q : Exit → Act → World → Prop} : ∀ (l : List Oper) (a : Act) (w : World), C w → wpQuiet P ops C (fun a' => ∀ w', C w' → Q .normal a' w') l a → wpList P ops Q l a w
  | [], a, w, hw, h => h w hw
  | o :: l, a, w, hw, h => by
    unfold wpQuiet at h
    refine wpList_step fun K hK => ?_
    split at h
    · rename_i hg
      rw [if_pos hg]
      exact Oper.wp_of_quiet hw (fun a' w' hw' hk => hK a' w' (wpList_of_quiet l a' w' hw' hk)) h
    · rename_i hg
      rw [if_neg hg]
      exact hK _ _ (wpList_of_quiet l _ _ hw h)
/-- the same where the region does not draw -/
theorem wp_region_gr0 {id : Nat} {Q : Exit → Act → World → Prop} {a : Act} {w : World} {l : List Oper}
    (h : wpQuiet P l.toArray (fun w' => ∃ g, w' = gr w g) (fun a' => ∀ w', (∃ g, w' = gr w g) → Q .normal a' w') l a) : (Code.region id l.toArray false).wp P Q a w :=
  wp_region_lit (wpList_of_quiet l a w ⟨Grow.refl w, rfl⟩ h)

/-- a callee inside such a region: one that leaves the world alone, that draws, that grows -/
theorem qa {f : FuncId} {args : Array Value} {w W : World} {g : Grow W} {v : Value} (h : Calls P f args w fun e w' => e = .returned v ∧ w = w') (hw : w = gr W g) :
    Calls P f args w fun e w'' => e = .returned v ∧ ∃ g, w'' = gr W g := h.mono fun _ _ ⟨he, hm⟩ => ⟨he, g, hm.symm.trans hw⟩
theorem qd {f : FuncId} {args : Array Value} {w W : World} {g : Grow W} {v : Value} (h : Calls P f args w fun e w' => e = .returned v ∧ ∃ n, w' = w.drewN n) (hw : w = gr W g) :
    Calls P f args w fun e w'' => e = .returned v ∧ ∃ g, w'' = gr W g := h.mono fun _ _ ⟨he, n, hm⟩ => ⟨he, g.draws n, by rw [hm, hw]; rfl⟩
theorem qg {f : FuncId} {args : Array Value} {w W : World} {g : Grow W} {v : Value} (h : Calls P f args w fun e w' => e = .returned v ∧ ∃ g, w' = gr w g) (hw : w = gr W g) :
    Calls P f args w fun e w'' => e = .returned v ∧ ∃ g, w'' = gr W g := by subst hw; exact h.mono fun _ _ ⟨he, g', hm⟩ => ⟨he, g.comp g', hm⟩
end
end Go.RowKit
