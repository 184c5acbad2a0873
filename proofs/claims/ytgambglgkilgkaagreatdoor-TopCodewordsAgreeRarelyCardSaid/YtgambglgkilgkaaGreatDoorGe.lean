/- The walks of package ext, but for Pow. -/
import Derived.Test.YtgambglgkilgkaaGreatDoorGa
import Derived.Test.YtgambglgkilgkaaGreatDoorGf
import Derived.Test.YtgambglgkilgkaaGreatDoorGw
import Derived.Deep.RegionHeld3
import Derived.LoopTactic
import Derived.OwnWalk
import Derived.Maps.AppendAt
import Derived.Deep.AppendLies
import Derived.Great.BuildSlice
namespace Go.Proofs.YtgambglgkilgkaaGreatDoor
open Go.RowKit Att Att.CRing

theorem agg_ret {x : Ext} {p q : Int} (h : p = x.a.i) (k : q = x.b.i) : Ending.returned (.agg #[.int .u64 p, .int .u64 q]) = .returned (.agg #[.int .u64 (Zm.i (Ext.a (x))), .int .u64 (Zm.i (Ext.b (x)))]) := by rw [h, k]

/- IsZero -/
theorem dec_zero (x : Ext) : decide (x = 0) = (decide (x.a.i = 0) && decide (x.b.i = 0)) := by
  have h1 : x.a.i = 0 ↔ x.a = 0 := ⟨fun h => i_inj h, fun h => by rw [h]; rfl⟩
  have h2 : x.b.i = 0 ↔ x.b = 0 := ⟨fun h => i_inj h, fun h => by rw [h]; rfl⟩
  by_cases hx : x = 0
  · rw [decide_eq_true hx]
    subst hx
    rfl
  · rw [decide_eq_false hx]
    by_cases ha : x.a = 0
    · have hb : ¬ x.b = 0 := fun hb => hx (Ext.ext ha hb)
      rw [decide_eq_false (fun h => hb (h2.1 h)), Bool.and_false]
    · rw [decide_eq_false (fun h => ha (h1.1 h)), Bool.false_and]
theorem e_isZero (x : Ext) (w : World) :
    Calls Tryz.prog 71 #[.agg #[.int .u64 (Zm.i (Ext.a (x))), .int .u64 (Zm.i (Ext.b (x)))]] w fun e w' => e = .returned (.bool (decide (x = 0))) ∧ ∃ g, w' = gr w g := by
  refine calls_gr ?_
  rw [dec_zero]
  by_cases ha : x.a.i = 0 <;> by_cases hb : x.b.i = 0
  all_goals
    go_enter Tryz.func71, Tryz.ntmps71
    go_wp2_with fail
    go_ret
    exact ⟨by simp [*], (by repeat (first | assumption | exact Below.refl _ _ | apply Below.drew | apply below_drewN | apply up_gr | apply below_al | (refine below_gr ?_ (by first | (simp; done) | (simp; omega)) _) | (refine Below.alloc ?_ (by first | (simp; done) | (simp; omega)) _) | (refine Below.setCell ?_ (by first | (simp; done) | (simp; omega)) _)))⟩

/- Inv -/
theorem i_pos {a : F} (h : a ≠ 0) : 0 < a.i := by
  have h0 := i_nn a
  have h1 : a.i ≠ (0 : F).i := fun e => h (i_inj e)
  have h2 : (0 : F).i = 0 := rfl
  omega
theorem norm_zero : (Ext.norm 0).i = 0 := rfl
/- Add, Sub: the closure, then the function -/
theorem e_compAdd (x y : Ext) (b : Nat) (w : World) (h : w.cell? ⟨b, 0, none⟩ = some (.func (Fn.func 95) #[] #[])) (hb : b < w.heap.size) :
    Calls Tryz.prog 73 #[.agg #[.int .u64 (Zm.i (Ext.a (x))), .int .u64 (Zm.i (Ext.b (x)))], .agg #[.int .u64 (Zm.i (Ext.a (y))), .int .u64 (Zm.i (Ext.b (y)))], .pointer (some ⟨b, 0, none⟩)] w fun e w' => e = .returned (.agg #[.int .u64 (Zm.i (Ext.a (x + y))), .int .u64 (Zm.i (Ext.b (x + y)))]) ∧ ∃ g, w' = gr w g := by
  refine calls_gr ?_
  have hb1 : b < w.heap.size + 1 := by omega
  have hb2 : b < w.heap.size + 1 + 1 := by omega
  go_enter Tryz.func73, Tryz.ntmps73
  go_wp2_with fail
  go_region_held3 (fun w' => w'.cell? ⟨w.heap.size, 0, none⟩ = some (.int .u64 (Zm.i (Ext.a x))) ∧ w'.cell? ⟨w.heap.size, 1, none⟩ = some (.int .u64 (Zm.i (Ext.b x))) ∧ w'.cell? ⟨w.heap.size + 1, 0, none⟩ = some (.int .u64 (Zm.i (Ext.a y))) ∧ w'.cell? ⟨w.heap.size + 1, 1, none⟩ = some (.int .u64 (Zm.i (Ext.b y))) ∧
     w'.cell? ⟨b, 0, none⟩ = some (.func (Fn.func 95) #[] #[])) (((try dsimp only); (repeat' apply And.intro) <;> first | (simp [*, World.cell?_alloc_past]; done) | go_keep)) (first | (go_at_call 95; refine (f_add _ _ _).mono ?_; rintro e w' ⟨rfl, rfl⟩))
  go_wp2_with fail
  exact bodyPost_ret (v := .agg #[.int .u64 (Zm.i (Ext.a x + Ext.a y)), .int .u64 (Zm.i (Ext.b x + Ext.b y))]) (by simp [results, Tryz.results73, go_sem]) rfl ⟨rfl, (by repeat (first | assumption | exact Below.refl _ _ | apply Below.drew | apply below_drewN | apply up_gr | apply below_al | (refine below_gr ?_ (by first | (simp; done) | (simp; omega)) _) | (refine Below.alloc ?_ (by first | (simp; done) | (simp; omega)) _) | (refine Below.setCell ?_ (by first | (simp; done) | (simp; omega)) _)))⟩
theorem e_compSub (x y : Ext) (b : Nat) (w : World) (h : w.cell? ⟨b, 0, none⟩ = some (.func (Fn.func 35) #[] #[])) (hb : b < w.heap.size) :
    Calls Tryz.prog 73 #[.agg #[.int .u64 (Zm.i (Ext.a (x))), .int .u64 (Zm.i (Ext.b (x)))], .agg #[.int .u64 (Zm.i (Ext.a (y))), .int .u64 (Zm.i (Ext.b (y)))], .pointer (some ⟨b, 0, none⟩)] w fun e w' => e = .returned (.agg #[.int .u64 (Zm.i (Ext.a (x - y))), .int .u64 (Zm.i (Ext.b (x - y)))]) ∧ ∃ g, w' = gr w g := by
  refine calls_gr ?_
  have hb1 : b < w.heap.size + 1 := by omega
  have hb2 : b < w.heap.size + 1 + 1 := by omega
  go_enter Tryz.func73, Tryz.ntmps73
  go_wp2_with fail
  go_region_held3 (fun w' => w'.cell? ⟨w.heap.size, 0, none⟩ = some (.int .u64 (Zm.i (Ext.a x))) ∧ w'.cell? ⟨w.heap.size, 1, none⟩ = some (.int .u64 (Zm.i (Ext.b x))) ∧ w'.cell? ⟨w.heap.size + 1, 0, none⟩ = some (.int .u64 (Zm.i (Ext.a y))) ∧ w'.cell? ⟨w.heap.size + 1, 1, none⟩ = some (.int .u64 (Zm.i (Ext.b y))) ∧
     w'.cell? ⟨b, 0, none⟩ = some (.func (Fn.func 35) #[] #[])) (((try dsimp only); (repeat' apply And.intro) <;> first | (simp [*, World.cell?_alloc_past]; done) | go_keep)) (first | (go_at_call 35; refine (f_sub _ _ _).mono ?_; rintro e w' ⟨rfl, rfl⟩))
  go_wp2_with fail
  exact bodyPost_ret (v := .agg #[.int .u64 (Zm.i (Ext.a x - Ext.a y)), .int .u64 (Zm.i (Ext.b x - Ext.b y))]) (by simp [results, Tryz.results73, go_sem]) rfl ⟨rfl, (by repeat (first | assumption | exact Below.refl _ _ | apply Below.drew | apply below_drewN | apply up_gr | apply below_al | (refine below_gr ?_ (by first | (simp; done) | (simp; omega)) _) | (refine Below.alloc ?_ (by first | (simp; done) | (simp; omega)) _) | (refine Below.setCell ?_ (by first | (simp; done) | (simp; omega)) _)))⟩

theorem e_sub (x y : Ext) (w : World) :
    Calls Tryz.prog 18 #[.agg #[.int .u64 (Zm.i (Ext.a (x))), .int .u64 (Zm.i (Ext.b (x)))], .agg #[.int .u64 (Zm.i (Ext.a (y))), .int .u64 (Zm.i (Ext.b (y)))]] w fun e w' => e = .returned (.agg #[.int .u64 (Zm.i (Ext.a (x - y))), .int .u64 (Zm.i (Ext.b (x - y)))]) ∧ ∃ g, w' = gr w g := by
  refine calls_gr ?_
  go_enter Tryz.func18, Tryz.ntmps18
  go_wp2_with fail
  go_region_held3 (fun w' => w'.cell? ⟨w.heap.size, 0, none⟩ = some (.int .u64 (Zm.i (Ext.a x))) ∧ w'.cell? ⟨w.heap.size, 1, none⟩ = some (.int .u64 (Zm.i (Ext.b x))) ∧ w'.cell? ⟨w.heap.size + 1, 0, none⟩ = some (.int .u64 (Zm.i (Ext.a y))) ∧ w'.cell? ⟨w.heap.size + 1, 1, none⟩ = some (.int .u64 (Zm.i (Ext.b y))))
    (((try dsimp only); (repeat' apply And.intro) <;> first | (simp [*, World.cell?_alloc_past, World.cell?_setCell_far]; done) | go_keep))
    (first | (go_at_call 34; go_in) | (go_at_call 73; refine (e_compSub _ _ _ _ (by simp [go_sem]) (by simp)).mono ?_; rintro e w' ⟨rfl, g, rfl⟩))
  go_wp2_with fail
  exact bodyPost_ret (v := .agg #[.int .u64 (Zm.i (Ext.a (x - y))), .int .u64 (Zm.i (Ext.b (x - y)))]) (by simp [results, Tryz.results18, go_sem]) rfl ⟨rfl, (by repeat (first | assumption | exact Below.refl _ _ | apply Below.drew | apply below_drewN | apply up_gr | apply below_al | (refine below_gr ?_ (by first | (simp; done) | (simp; omega)) _) | (refine Below.alloc ?_ (by first | (simp; done) | (simp; omega)) _) | (refine Below.setCell ?_ (by first | (simp; done) | (simp; omega)) _)))⟩
end Go.Proofs.YtgambglgkilgkaaGreatDoor

/- The walks of the reference of package ext, but for Pow. -/
namespace Go.Proofs.YtgambglgkilgkaaGreatDoor
open Go.RowKit Att Att.CRing

@[simp, go_sem] theorem run_field_a (a b : Int) (w : World) : (Instr.field 30 (.agg #[.int .u64 a, .int .u64 b]) 0).run Tryz.prog w = .ok (.int .u64 a) w := by kernel_rfl
@[simp, go_sem] theorem run_field_b (a b : Int) (w : World) : (Instr.field 30 (.agg #[.int .u64 a, .int .u64 b]) 1).run Tryz.prog w = .ok (.int .u64 b) w := by kernel_rfl


theorem mul_conj_a (x : Ext) : (x * Ext.conj x).a = Ext.norm x := congrArg Ext.a (Ext.mul_conj x)
theorem x_made (p q : Int) [In64 p] [In64 q] (w : World) :
    Calls Tryz.prog 30 #[.agg #[.int .u64 p, .int .u64 q]] w fun e w' => e = .returned (.agg #[.int .u64 (Zm.i (Ext.a ((⟨int p, int q⟩ : Ext)))), .int .u64 (Zm.i (Ext.b ((⟨int p, int q⟩ : Ext))))]) ∧ ∃ g, w' = gr w g := by
  refine calls_gr ?_
  go_enter Tryz.func30, Tryz.ntmps30
  go_wp2_with fail
  go_region_held3 (fun w' => w'.cell? ⟨w.heap.size, 0, none⟩ = some (.int .u64 p) ∧ w'.cell? ⟨w.heap.size, 1, none⟩ = some (.int .u64 q)) (go_keep)
    (first | (go_at_call 65; refine (r_reduce _ _).mono ?_; rintro e w' ⟨rfl, rfl⟩))
  go_wp2_with fail
  exact bodyPost_ret (v := .agg #[.int .u64 (Zm.i ((int p : F))), .int .u64 (Zm.i ((int q : F)))]) (by simp [results, Tryz.results30, go_sem]) rfl ⟨rfl, (by repeat (first | assumption | exact Below.refl _ _ | apply Below.drew | apply below_drewN | apply up_gr | apply below_al | (refine below_gr ?_ (by first | (simp; done) | (simp; omega)) _) | (refine Below.alloc ?_ (by first | (simp; done) | (simp; omega)) _) | (refine Below.setCell ?_ (by first | (simp; done) | (simp; omega)) _)))⟩
end Go.Proofs.YtgambglgkilgkaaGreatDoor

/- What is known of a world, in one row: structs in blocks of their own; told anew of each world that grows out of it. -/
namespace Go.Proofs.YtgambglgkilgkaaGreatDoor
open Go.RowKit Att Att.CRing

inductive Fact where
  /-- a struct of two numbers in a block of its own -/
  | box (b : Nat) (x : Ext)
  /-- any block -/
  | obj (b : Nat) (o : Obj)
def Fact.At (w : World) : Fact → Prop
  | .box b x => w.heap[b]? = some (.cells #[.int .u64 (Zm.i (Ext.a x)), .int .u64 (Zm.i (Ext.b x))] 30)
  | .obj b o => w.heap[b]? = some o
theorem Fact.At.up {a b : World} (h : Gn a b) : ∀ {f : Fact}, f.At a → f.At b
  | .box _ _, hf => h.block hf
  | .obj _ _, hf => h.block hf
def Holds (w : World) : List Fact → Prop
  | [] => True
  | f :: l => f.At w ∧ Holds w l
theorem Holds.up {a b : World} (h : Gn a b) : ∀ {l : List Fact}, Holds a l → Holds b l
  | [], _ => trivial
  | _ :: _, ⟨h1, h2⟩ => ⟨h1.up h, h2.up h⟩
theorem Holds.nil (w : World) : Holds w [] := trivial
/-- a struct is boxed -/
theorem Holds.box {w : World} {l : List Fact} (h : Holds w l) (x : Ext) : Holds (w.alloc (.cells #[.int .u64 (Zm.i (Ext.a x)), .int .u64 (Zm.i (Ext.b x))] 30)) (.box w.heap.size x :: l) :=
  ⟨hnew w _, h.up (Gn.al _)⟩
theorem Holds.al {w : World} {l : List Fact} (h : Holds w l) (o : Obj) : Holds (w.alloc o) (.obj w.heap.size o :: l) :=
  ⟨hnew w _, h.up (Gn.al _)⟩
theorem Holds.tail {w : World} {f : Fact} {l : List Fact} (h : Holds w (f :: l)) : Holds w l := h.2

/-- what the walk needs of a box -/
theorem open_box {w : World} {b : Nat} {x : Ext} (h : (Fact.box b x).At w) : w.cell? ⟨b, 0, none⟩ = some (.int .u64 (Zm.i (Ext.a x))) ∧ w.cell? ⟨b, 1, none⟩ = some (.int .u64 (Zm.i (Ext.b x))) ∧ b < w.heap.size :=
  ⟨box_a h, box_b h, blk_lt h⟩

/- ───── a box is made, and written ───── -/
theorem box_set0 {w : World} {b : Nat} {p q p' : Value} {T : TypeId} (h : w.heap[b]? = some (.cells #[p, q] T)) : (w.setCell ⟨b, 0, none⟩ p').heap[b]? = some (.cells #[p', q] T) := by
  simp [World.setCell, Array.getElem?_modify, h]
theorem box_set1 {w : World} {b : Nat} {p q q' : Value} {T : TypeId} (h : w.heap[b]? = some (.cells #[p, q] T)) : (w.setCell ⟨b, 1, none⟩ q').heap[b]? = some (.cells #[p, q'] T) := by
  simp [World.setCell, Array.getElem?_modify, h]
/-- the world behind a struct's store into its box -/
def set2 (w : World) (b : Nat) (x : Ext) : World := (w.setCell ⟨b, 0, none⟩ (.int .u64 (Zm.i (Ext.a x)))).setCell ⟨b, 1, none⟩ (.int .u64 (Zm.i (Ext.b x)))
theorem set2_same {w : World} {b : Nat} {p q : Value} {T : TypeId} (h : w.heap[b]? = some (.cells #[p, q] T)) (x : Ext) : (set2 w b x).heap[b]? = some (.cells #[.int .u64 (Zm.i (Ext.a x)), .int .u64 (Zm.i (Ext.b x))] T) :=
  box_set1 (box_set0 h)
theorem set2_other {w : World} {b c : Nat} (h : c ≠ b) (x : Ext) : (set2 w b x).heap[c]? = w.heap[c]? :=
  (Below.heap_setCell _ _ _ c h).trans (Below.heap_setCell _ _ _ c h)
theorem set2_keep {w : World} {b c : Nat} {o : Obj} (x : Ext) (h : w.heap[c]? = some o) (hn : c ≠ b) : (set2 w b x).heap[c]? = some o := (set2_other hn x).trans h
theorem set2_below {W w : World} {b : Nat} (h : Gn W w) (hb : W.heap.size ≤ b) (x : Ext) : Gn W (set2 w b x) :=
  Gn.of ((h.below.setCell hb _).setCell hb _)
def zeroExt : Obj := .cells #[.int .u64 0, .int .u64 0] 30
/-- what is known of a new box -/
def newBox : Rel := fun v n x => ∃ b, v = .pointer (some ⟨b, 0, none⟩) ∧ n ≤ b ∧ x.heap[b]? = some zeroExt
theorem run_allocExt (ρ : Operand → Value) (d : Option Nat) (ty : TypeId) (pos : String) (aft : Array Edge) (w : World) :
    (execOp ρ ⟨d, .alloc 30, ty, pos, aft, none⟩).run Tryz.prog w = .ok (.value (.pointer (some ⟨w.heap.size, 0, none⟩))) (w.alloc zeroExt) := by kernel_rfl
theorem ex_alloc {ops : Array Oper} {W : World} {Γ : List Ent} {a : Act} (d : Nat) (ty : TypeId) (pos : String) (aft : Array Edge) : ExStep Tryz.prog ops W ⟨some d, .alloc 30, ty, pos, aft, none⟩ Γ a newBox := by
  intro V N X hΓ g hX K hK
  simp only [wpList, Region.wanted, if_true]
  left
  unfold Oper.wp
  rw [run_allocExt]
  exact hK _ _ (Gn.al _).below ⟨_, rfl, Nat.le_refl _, hnew _ _⟩
/-- at the end of a flow: a new box -/
theorem end_box {W : World} {Γ : List Ent} {V : Nat → Value} {N : Nat → Nat} {X : Nat → World} (h : ∀ e ∈ Γ, e.rel (V e.slot) (N e.slot) (X e.slot) ∧ Up W (X e.slot) ∧ W.heap.size ≤ N e.slot)
    {w : World} (hX : ∀ e ∈ Γ, Up (X e.slot) w) {s : Nat} (hs : ⟨s, newBox⟩ ∈ Γ) :
    ∃ b, V s = .pointer (some ⟨b, 0, none⟩) ∧ W.heap.size ≤ b ∧ w.heap[b]? = some zeroExt ∧ N s ≤ b ∧ b < (X s).heap.size := by
  obtain ⟨⟨b, h1, h2, h3⟩, _, h4⟩ := h _ hs
  exact ⟨b, h1, Nat.le_trans h4 h2, Gn.block (Gn.of (hX _ hs)) h3, h2, blk_lt h3⟩
/-- two boxes of a flow -/
theorem end_boxes2 {W : World} {Γ : List Ent} {V : Nat → Value} {N : Nat → Nat} {X : Nat → World} (h : ∀ e ∈ Γ, e.rel (V e.slot) (N e.slot) (X e.slot) ∧ Up W (X e.slot) ∧ W.heap.size ≤ N e.slot)
    (hd : ∀ e ∈ Γ, ∀ e' ∈ Γ, e.slot ≠ e'.slot → (X e.slot).heap.size ≤ N e'.slot ∨ (X e'.slot).heap.size ≤ N e.slot)
    {w : World} (hX : ∀ e ∈ Γ, Up (X e.slot) w) (s t : Nat) (hs : ⟨s, newBox⟩ ∈ Γ) (ht : ⟨t, newBox⟩ ∈ Γ) (hne : s ≠ t) :
    ∃ b c, (V s = .pointer (some ⟨b, 0, none⟩) ∧ V t = .pointer (some ⟨c, 0, none⟩)) ∧ b ≠ c ∧ W.heap.size ≤ b ∧ W.heap.size ≤ c ∧ w.heap[b]? = some zeroExt ∧ w.heap[c]? = some zeroExt := by
  obtain ⟨b, b1, b2, b3, b4, b5⟩ := end_box h hX hs
  obtain ⟨c, c1, c2, c3, c4, c5⟩ := end_box h hX ht
  refine ⟨b, c, ⟨b1, c1⟩, ?_, b2, c2, b3, c3⟩
  have := hd _ hs _ ht hne
  simp only at this
  omega
theorem end_boxes3 {W : World} {Γ : List Ent} {V : Nat → Value} {N : Nat → Nat} {X : Nat → World} (h : ∀ e ∈ Γ, e.rel (V e.slot) (N e.slot) (X e.slot) ∧ Up W (X e.slot) ∧ W.heap.size ≤ N e.slot)
    (hd : ∀ e ∈ Γ, ∀ e' ∈ Γ, e.slot ≠ e'.slot → (X e.slot).heap.size ≤ N e'.slot ∨ (X e'.slot).heap.size ≤ N e.slot)
    {w : World} (hX : ∀ e ∈ Γ, Up (X e.slot) w) (s t u : Nat) (hs : ⟨s, newBox⟩ ∈ Γ) (ht : ⟨t, newBox⟩ ∈ Γ) (hu : ⟨u, newBox⟩ ∈ Γ) (h1 : s ≠ t) (h2 : s ≠ u) (h3 : t ≠ u) :
    ∃ b c d, (V s = .pointer (some ⟨b, 0, none⟩) ∧ V t = .pointer (some ⟨c, 0, none⟩) ∧ V u = .pointer (some ⟨d, 0, none⟩)) ∧ (b ≠ c ∧ b ≠ d ∧ c ≠ d) ∧ (W.heap.size ≤ b ∧ W.heap.size ≤ c ∧ W.heap.size ≤ d) ∧
      w.heap[b]? = some zeroExt ∧ w.heap[c]? = some zeroExt ∧ w.heap[d]? = some zeroExt := by
  obtain ⟨b, b1, b2, b3, b4, b5⟩ := end_box h hX hs
  obtain ⟨c, c1, c2, c3, c4, c5⟩ := end_box h hX ht
  obtain ⟨d, d1, d2, d3, d4, d5⟩ := end_box h hX hu
  have e1 := hd _ hs _ ht h1
  have e2 := hd _ hs _ hu h2
  have e3 := hd _ ht _ hu h3
  simp only at e1 e2 e3
  exact ⟨b, c, d, ⟨b1, c1, d1⟩, ⟨by omega, by omega, by omega⟩, ⟨b2, c2, d2⟩, b3, c3, d3⟩
/- ───── stores ───── -/
theorem run_store2 {b : Nat} {x : Ext} {p q : Value} {T : TypeId} {w : World} (h : w.heap[b]? = some (.cells #[p, q] T)) :
    (Instr.storeAt 30 (.pointer (some ⟨b, 0, none⟩)) (.agg #[.int .u64 (Zm.i (Ext.a (x))), .int .u64 (Zm.i (Ext.b (x)))])).run Tryz.prog w = .ok () (set2 w b x) := by
  have c0 := box_a h
  have c1 := box_b h
  have f0 := box_fz (i := 0) h
  have f1 := box_fz (i := 1) h
  simp [go_sem, c0, c1, f0, f1]
  rfl
theorem tail_store {ops : Array Oper} {Q : Exit → Act → World → Prop} {l : List Oper} {a : Act} {w : World} {s t : Operand} {ty : TypeId} {pos : String} {aft : Array Edge} {b : Nat} {x : Ext} {p q : Value} {T : TypeId}
    (hs : a.eval s = .pointer (some ⟨b, 0, none⟩)) (ht : a.eval t = .agg #[.int .u64 (Zm.i (Ext.a (x))), .int .u64 (Zm.i (Ext.b (x)))]) (h : w.heap[b]? = some (.cells #[p, q] T)) (k : wpList Tryz.prog ops Q l a (set2 w b x)) :
    wpList Tryz.prog ops Q (⟨none, .store 30 s t, ty, pos, aft, none⟩ :: l) a w := by
  simp only [wpList, Region.wanted, if_true]
  left
  unfold Oper.wp
  have e : (execOp a.eval ⟨none, .store 30 s t, ty, pos, aft, none⟩).run Tryz.prog w = .ok .skip (set2 w b x) := by
    simp only [execOp, hs, ht]
    simp only [Sem.run_bind, run_store2 h]
    rfl
  rw [e]
  exact k

/-- an arbitrary pair made an element -/
def mk (p q : Int) : Ext := ⟨int p, int q⟩
theorem x_mk (p q : Int) [In64 p] [In64 q] (w : World) :
    Calls Tryz.prog 30 #[.agg #[.int .u64 p, .int .u64 q]] w fun e w' => e = .returned (.agg #[.int .u64 (Zm.i (Ext.a (mk p q))), .int .u64 (Zm.i (Ext.b (mk p q)))]) ∧ ∃ g, w' = gr w g := x_made p q w
theorem Holds.set {W w : World} {b : Nat} {x : Ext} : ∀ {l : List Fact}, Holds W l → Gn W w → W.heap.size ≤ b → Holds (set2 w b x) l
  | _, h, hg, hb => h.up (set2_below hg hb x)
end Go.Proofs.YtgambglgkilgkaaGreatDoor

/- Slices of elements: what they read as; told anew of each world that grows. -/
namespace Go.Proofs.YtgambglgkilgkaaGreatDoor
open Go.RowKit Att Att.CRing

/-- the slice value '.slice A n c' reads as the list l -/
structure Sl (w : World) (A : Option Addr) (n c : Nat) (l : List Ext) : Prop where
  len : l.length = n
  le : n ≤ c
  small : c ≤ 9223372036854775807
  cells : 0 < n → ∃ b o, A = some ⟨b, o, none⟩ ∧ b < w.heap.size ∧ ∀ i x, l[i]? = some x → w.cell? ⟨b, o + i * 2, none⟩ = some (.int .u64 (Zm.i (Ext.a x))) ∧ w.cell? ⟨b, o + i * 2 + 1, none⟩ = some (.int .u64 (Zm.i (Ext.b x)))
theorem Sl.up {a b : World} {A : Option Addr} {n c : Nat} {l : List Ext} (h : Sl a A n c l) (g : Gn a b) : Sl b A n c l :=
  ⟨h.len, h.le, h.small, fun hn => by
    obtain ⟨k, o, e, hk, hc⟩ := h.cells hn
    exact ⟨k, o, e, Nat.lt_of_lt_of_le hk g.size, fun i x hx => ⟨(g.below.cell (p := ⟨k, _, none⟩) hk).trans (hc i x hx).1, (g.below.cell (p := ⟨k, _, none⟩) hk).trans (hc i x hx).2⟩⟩⟩
theorem Sl.nil (w : World) : Sl w none 0 0 [] := ⟨rfl, Nat.le_refl _, by omega, fun h => absurd h (by omega)⟩
theorem Sl.at_ {w : World} {A : Option Addr} {n c : Nat} {l : List Ext} (h : Sl w A n c l) {j : Nat} (hj : j < n) :
    ∃ b o x, A = some ⟨b, o, none⟩ ∧ l[j]? = some x ∧ b < w.heap.size ∧ w.cell? ⟨b, o + j * 2, none⟩ = some (.int .u64 (Zm.i (Ext.a x))) ∧ w.cell? ⟨b, o + j * 2 + 1, none⟩ = some (.int .u64 (Zm.i (Ext.b x))) := by
  obtain ⟨b, o, e, hb, hc⟩ := h.cells (by omega)
  have hl : j < l.length := by rw [h.len]; exact hj
  exact ⟨b, o, l[j], e, List.getElem?_eq_getElem hl, hb, hc j _ (List.getElem?_eq_getElem hl)⟩
theorem ext_eq (x y : Ext) : x = y ↔ x.a.i = y.a.i ∧ x.b.i = y.b.i := ⟨fun h => by rw [h]; exact ⟨rfl, rfl⟩, fun h => Ext.ext (i_inj h.1) (i_inj h.2)⟩
/-- whether two elements are equal, as the walk asks -/
theorem eqs (x y : Ext) : (x = y ∧ (Zm.i (Ext.a x) == Zm.i (Ext.a y)) = true ∧ (Zm.i (Ext.b x) == Zm.i (Ext.b y)) = true) ∨ (x ≠ y ∧ (Zm.i (Ext.a x) == Zm.i (Ext.a y)) = false ∧ True) ∨ (x ≠ y ∧ (Zm.i (Ext.a x) == Zm.i (Ext.a y)) = true ∧ (Zm.i (Ext.b x) == Zm.i (Ext.b y)) = false) := by
  by_cases h1 : x.a.i = y.a.i
  · by_cases h2 : x.b.i = y.b.i
    · exact .inl ⟨Ext.ext (i_inj h1) (i_inj h2), by simp [h1], by simp [h2]⟩
    · exact .inr (.inr ⟨fun h => h2 (by rw [h]), by simp [h1], by simp [h2]⟩)
  · exact .inr (.inl ⟨fun h => h1 (by rw [h]), by simp [h1], trivial⟩)
theorem take_step {α : Type} {l k : List α} {j : Nat} {x : α} (h : l.take j = k.take j) (hx : l[j]? = some x) (hy : k[j]? = some x) : l.take (j + 1) = k.take (j + 1) := by
  rw [List.take_add_one, List.take_add_one, h, hx, hy]

/- ───── the cells of a row of elements ───── -/
def fl : List Ext → List Value
  | [] => []
  | x :: l => .int .u64 (Zm.i (Ext.a x)) :: .int .u64 (Zm.i (Ext.b x)) :: fl l
theorem fl_length : ∀ l : List Ext, (fl l).length = l.length * 2
  | [] => rfl
  | _ :: l => by simp [fl, fl_length l]; omega
theorem fl_append : ∀ l k : List Ext, fl (l ++ k) = fl l ++ fl k
  | [], _ => rfl
  | _ :: l, k => by simp [fl, fl_append l k]
theorem fl_get : ∀ (l : List Ext) (i : Nat) (x : Ext), l[i]? = some x → (fl l)[i * 2]? = some (.int .u64 (Zm.i (Ext.a x))) ∧ (fl l)[i * 2 + 1]? = some (.int .u64 (Zm.i (Ext.b x)))
  | [], i, x, h => by simp at h
  | y :: l, 0, x, h => by simp at h; subst h; exact ⟨rfl, rfl⟩
  | y :: l, i + 1, x, h => by
    have := fl_get l i x (by simpa using h)
    rw [show (i + 1) * 2 = i * 2 + 2 from by omega]
    exact this
theorem fl_set : ∀ (l : List Ext) (i : Nat) (x : Ext), i < l.length → fl (l.set i x) = ((fl l).set (i * 2) (.int .u64 (Zm.i (Ext.a x)))).set (i * 2 + 1) (.int .u64 (Zm.i (Ext.b x)))
  | [], i, x, h => by simp at h
  | y :: l, 0, x, h => rfl
  | y :: l, i + 1, x, h => by
    have := fl_set l i x (by simpa using h)
    rw [show (i + 1) * 2 = i * 2 + 2 from by omega]
    simp only [List.set_cons_succ, fl, this]
theorem fl_one : ∀ (l : List Ext), ∀ u ∈ fl l, u.oneCell' = true
  | [], _, h => by simp [fl] at h
  | x :: l, u, h => by
    simp only [fl, List.mem_cons] at h
    rcases h with rfl | rfl | h
    · rfl
    · rfl
    · exact fl_one l u h
theorem fl_zero : ∀ n : Nat, fl (List.replicate n 0) = List.replicate (n * 2) (.int .u64 0)
  | 0 => rfl
  | n + 1 => by
    rw [show (n + 1) * 2 = n * 2 + 1 + 1 from by omega]
    simp only [List.replicate_succ, fl, fl_zero n]
    rfl
/-- a block that holds just the elements l -/
def Blk (w : World) (g : Nat) (l : List Ext) : Prop := w.heap[g]? = some (.cells (fl l).toArray 30)
theorem Blk.sl {w : World} {g : Nat} {l : List Ext} (h : Blk w g l) (hs : l.length ≤ 9223372036854775807) : Sl w (some ⟨g, 0, none⟩) l.length l.length l :=
  ⟨rfl, Nat.le_refl _, hs, fun _ => ⟨g, 0, rfl, blk_lt h, fun i x hx => by
    have := fl_get l i x hx
    rw [Nat.zero_add]
    exact ⟨obj_cell h _ (by simpa using this.1), obj_cell h _ (by simpa using this.2)⟩⟩⟩
theorem Blk.up {a b : World} {g : Nat} {l : List Ext} (h : Blk a g l) (k : Gn a b) : Blk b g l := k.block h
theorem Blk.cell {w : World} {g : Nat} {l : List Ext} (h : Blk w g l) {i : Nat} {x : Ext} (hx : l[i]? = some x) : w.cell? ⟨g, i * 2, none⟩ = some (.int .u64 (Zm.i (Ext.a x))) ∧ w.cell? ⟨g, i * 2 + 1, none⟩ = some (.int .u64 (Zm.i (Ext.b x))) := by
  have := fl_get l i x hx
  exact ⟨obj_cell h _ (by simpa using this.1), obj_cell h _ (by simpa using this.2)⟩
/-- the world behind a store into a row -/
def setE (w : World) (g i : Nat) (x : Ext) : World := (w.setCell ⟨g, i * 2, none⟩ (.int .u64 (Zm.i (Ext.a x)))).setCell ⟨g, i * 2 + 1, none⟩ (.int .u64 (Zm.i (Ext.b x)))
theorem Blk.set {w : World} {g i : Nat} {l : List Ext} (h : Blk w g l) (hi : i < l.length) (x : Ext) : Blk (setE w g i x) g (l.set i x) := by
  unfold Blk at h ⊢
  rw [fl_set l i x hi]
  simp [setE, World.setCell, Array.getElem?_modify, h]
theorem setE_below {W w : World} {g i : Nat} (h : Gn W w) (hb : W.heap.size ≤ g) (x : Ext) : Gn W (setE w g i x) := Gn.of ((h.below.setCell hb _).setCell hb _)
theorem setE_other {w : World} {g i c : Nat} (hc : c ≠ g) (x : Ext) : (setE w g i x).heap[c]? = w.heap[c]? :=
  (Below.heap_setCell _ _ _ c hc).trans (Below.heap_setCell _ _ _ c hc)
theorem fl_new (n : Nat) : madeCells #[.int .u64 0, .int .u64 0] (n * 2) = (fl (List.replicate n 0)).toArray := by
  rw [fl_zero]
  apply Array.ext
  · simp [madeCells]
  · intro i h1 h2
    have h3 : i % 2 = 0 ∨ i % 2 = 1 := by omega
    rcases h3 with h3 | h3 <;> simp [madeCells, h3]
theorem extInfo : (Tryz.prog.info? 30).map (fun i => (i.zero, i.size, i.bytes)) = some (some (.agg #[.int .u64 0, .int .u64 0]), 2, 16) := by kernel_rfl
/-- make of n zero elements -/
theorem wpList_mk {ops : Array Oper} {rest : List Oper} {a : Act} {w : World} {Q : Exit → Act → World → Prop} {d : Option Nat} {ty : TypeId} {pos : String} {aft : Array Edge} (l c : Operand) (n : Nat)
    (hl : a.eval l = .int .i64 n) (hc : a.eval c = .int .i64 n) (hn : n ≤ 1099511627776)
    (hK : wpList Tryz.prog ops Q rest (a.put d (.slice (some ⟨w.heap.size, 0, none⟩) n n)) (w.alloc (.cells (fl (List.replicate n 0)).toArray 30))) :
    wpList Tryz.prog ops Q (⟨d, .makeSlice 22 l c, ty, pos, aft, none⟩ :: rest) a w := by
  obtain ⟨i0, hi, hz0, hz1, hz2⟩ := info_parts extInfo
  have hrun := run_make (P := Tryz.prog) w 22 30 i0 _ Tryz.underlying22 hi hz0 .i64 .i64 n n (by omega) (by omega) (by rw [hz2]; omega) (by omega)
  refine wpList_plain rfl fun K hK' => ?_
  unfold Oper.wp
  simp only [execOp, hl, hc, Sem.run_bind, hrun]
  simp only [Result.andThen, Oper.upon, Sem.run_pure]
  refine hK' _ _ ?_
  have e : madeCells (Value.cells (.agg #[.int .u64 0, .int .u64 0])) ((n : Int).toNat * i0.size) = (fl (List.replicate n 0)).toArray := by
    rw [hz1, Int.toNat_natCast]; exact fl_new n
  rw [e, Int.toNat_natCast]
  exact hK

/- ───── a row that grows by append ───── -/
/-- v is a slice of this call's own, with the elements l -/
def Ow (w : World) (base : Nat) (v : Value) (l : List Ext) : Prop := w.ownsRow base 30 2 v l.length (fl l)
theorem Ow.nil (w : World) (base : Nat) : Ow w base (.slice none 0 0) [] := ⟨rfl, .inl ⟨rfl, rfl⟩⟩
theorem Ow.empty (w : World) {base : Nat} (hb : base ≤ w.heap.size) : Ow (w.alloc (.cells #[] 30)) base (.slice (some ⟨w.heap.size, 0, none⟩) 0 0) [] :=
  ⟨rfl, .inr ⟨_, 0, #[], rfl, hb, hnew w _, Nat.le_refl _, by unfold maxLen; omega, rfl, rfl⟩⟩
theorem Ow.sl {w : World} {base : Nat} {v : Value} {l : List Ext} (h : Ow w base v l) : ∃ A c, v = .slice A l.length c ∧ Sl w A l.length c l := by
  rcases h.2 with ⟨rfl, h0⟩ | ⟨g, cap, cur, rfl, hb, hg, hn, hc, hsz, htake⟩
  · have hl : l = [] := List.eq_nil_of_length_eq_zero h0
    subst hl
    exact ⟨none, 0, rfl, Sl.nil w⟩
  · refine ⟨_, cap, rfl, rfl, hn, by unfold maxLen at hc; omega, fun _ => ⟨g, 0, rfl, blk_lt hg, fun i x hx => ?_⟩⟩
    have hf := fl_get l i x hx
    have hil : i < l.length := (List.getElem?_eq_some_iff.1 hx).1
    have key : ∀ j u, (fl l)[j]? = some u → j < l.length * 2 → cur[j]? = some u := by
      intro j u hu hj
      rw [← htake, List.getElem?_take_of_lt hj] at hu
      simpa using hu
    rw [Nat.zero_add]
    exact ⟨obj_cell hg _ (key _ _ hf.1 (by omega)), obj_cell hg _ (key _ _ hf.2 (by omega))⟩
theorem Ow.up {a b : World} {base : Nat} {v : Value} {l : List Ext} (h : Ow a base v l) (k : Gn a b) : Ow b base v l := by
  rcases h with ⟨h1, h2 | ⟨g, cap, cur, hv, hb, hg, hn, hc, hsz, htake⟩⟩
  · exact ⟨h1, .inl h2⟩
  · exact ⟨h1, .inr ⟨g, cap, cur, hv, hb, k.block hg, hn, hc, hsz, htake⟩⟩
theorem grown_gn {W a b : World} {v : Value} {base : Nat} {l : List Ext} (h : Gn W a) (ho : Ow a base v l) (hb : W.heap.size ≤ base) (hg : a.grownBy b v.ownBlock) : Gn W b := by
  refine Gn.of (h.below.grown hg h.size ?_)
  intro k hk
  rcases ho.2 with ⟨rfl, _⟩ | ⟨g, cap, cur, rfl, hbb, _⟩
  · simp [Value.ownBlock] at hk
  · simp [Value.ownBlock] at hk; omega
/-- append of a slice -/
theorem run_app {w : World} {ty : TypeId} {base : Nat} {v : Value} {l : List Ext} (ho : Ow w base v l) (hbase : base ≤ w.heap.size) {A : Option Addr} {m c : Nat} {k : List Ext} (hs : Sl w A m c k) (hn : l.length + m ≤ 1099511627776) :
    ∃ v' w', (Builtin.append_ #[22, 22] ty #[v, .slice A m c]).run Tryz.prog w = .ok v' w' ∧ Ow w' base v' (l ++ k) ∧ w.grownBy w' v.ownBlock := by
  obtain ⟨i0, hi, hz0, hz1, hz2⟩ := info_parts extInfo
  have hfix : ∀ {v' w'}, w'.ownsRow base 30 2 v' (l.length + m) (fl l ++ fl k) → Ow w' base v' (l ++ k) := by
    intro v' w' h
    unfold Ow
    rw [List.length_append, hs.len, fl_append]; exact h
  rcases Nat.eq_zero_or_pos m with h0 | h0
  · subst h0
    have hk : k = [] := List.eq_nil_of_length_eq_zero hs.len
    subst hk
    cases A with
    | none =>
      refine ⟨v, w, ?_, by simpa using ho, World.grownBy.refl w _⟩
      rcases ho.2 with ⟨rfl, _⟩ | ⟨g, cap, cur, rfl, _, _, hnc, _⟩
      · simp [Builtin.append_, run_underlying Tryz.underlying22, sizeOf, typeInfo, hi, Builtin.lenOf, Builtin.firstCells]
      · simp [Builtin.append_, run_underlying Tryz.underlying22, sizeOf, typeInfo, hi, Builtin.lenOf, Builtin.firstCells, hnc, storeCells]
    | some ad =>
      obtain ⟨v', w', hrun, h2, h3, _, _⟩ := run_append_own_at (P := Tryz.prog) w base 22 ty 30 i0 _ 2 16 Tryz.underlying22 hi hz0 hz1 hz2 rfl (by omega) v l.length (fl l) ho ad 0 c [] rfl (by simp) (by simp)
        (by unfold maxLen; omega) (by omega) hbase
      exact ⟨v', w', hrun, by simpa [Ow] using h2, h3⟩
  · obtain ⟨b, o, rfl, hb, hc⟩ := hs.cells h0
    obtain ⟨v', w', hrun, h2, h3, _, _⟩ := run_append_own_at (P := Tryz.prog) w base 22 ty 30 i0 _ 2 16 Tryz.underlying22 hi hz0 hz1 hz2 rfl (by omega) v l.length (fl l) ho ⟨b, o, none⟩ m c (fl k)
      (by rw [fl_length, hs.len]) (by
        intro j u hu
        have hj : j < k.length * 2 := by rw [← fl_length]; exact (List.getElem?_eq_some_iff.1 hu).1
        have hx : k[j / 2]? = some k[j / 2] := List.getElem?_eq_getElem (by omega)
        have h4 := fl_get k (j / 2) _ hx
        have h5 := hc _ _ hx
        have hadd : (⟨b, o, none⟩ : Addr).add j = ⟨b, o + j, none⟩ := by unfold Addr.add; split <;> simp_all
        rw [hadd]
        rcases Nat.mod_two_eq_zero_or_one j with h6 | h6
        · have e : j / 2 * 2 = j := by omega
          rw [e] at h4 h5
          rw [hu] at h4
          rw [h5.1, ← h4.1]
        · have e : j / 2 * 2 + 1 = j := by omega
          rw [Nat.add_assoc, e] at h5
          rw [e, hu] at h4
          rw [h5.2, ← h4.2]) (fl_one k) (by unfold maxLen; omega) (by omega) hbase
    exact ⟨v', w', hrun, hfix h2, h3⟩
theorem wpList_app {ops : Array Oper} {rest : List Oper} {a : Act} {w : World} {Q : Exit → Act → World → Prop} {d : Option Nat} {ty : TypeId} {pos : String} {aft : Array Edge} (s x : Operand)
    {base : Nat} {v : Value} {l : List Ext} (hs : a.eval s = v) (ho : Ow w base v l) (hbase : base ≤ w.heap.size) {A : Option Addr} {m c : Nat} {k : List Ext} (hx : a.eval x = .slice A m c) (hk : Sl w A m c k) (hn : l.length + m ≤ 1099511627776)
    (hK : ∀ v' w', Ow w' base v' (l ++ k) → w.grownBy w' v.ownBlock → wpList Tryz.prog ops Q rest (a.put d v') w') :
    wpList Tryz.prog ops Q (⟨d, .call { callee := .builtin .append, args := #[s, x], argTypes := #[22, 22] }, ty, pos, aft, none⟩ :: rest) a w := by
  obtain ⟨v', w', hrun, h2, h3⟩ := run_app (ty := ty) ho hbase hk hn
  refine wpList_plain rfl fun K hK' => ?_
  unfold Oper.wp execOp
  simp only [resolve, invoke, builtin, Sem.run_bind, Sem.run_pure, Result.andThen_ok, List.map_toArray, List.map_cons, List.map_nil, hs, hx, hrun]
  exact hK' _ _ (hK v' w' h2 h3)

/- ───── slices of raw pairs, of integers ───── -/
def mkP (p : Int × Int) : Ext := mk p.1 p.2
structure SlR (w : World) (A : Option Addr) (n c : Nat) (l : List (Int × Int)) : Prop where
  len : l.length = n
  le : n ≤ c
  small : c ≤ 9223372036854775807
  rng : ∀ p ∈ l, In64 p.1 ∧ In64 p.2
  cells : 0 < n → ∃ b o, A = some ⟨b, o, none⟩ ∧ b < w.heap.size ∧ ∀ i (p : Int × Int), l[i]? = some p → w.cell? ⟨b, o + i * 2, none⟩ = some (.int .u64 p.1) ∧ w.cell? ⟨b, o + i * 2 + 1, none⟩ = some (.int .u64 p.2)
theorem SlR.up {a b : World} {A : Option Addr} {n c : Nat} {l : List (Int × Int)} (h : SlR a A n c l) (g : Gn a b) : SlR b A n c l :=
  ⟨h.len, h.le, h.small, h.rng, fun hn => by
    obtain ⟨k, o, e, hk, hc⟩ := h.cells hn
    exact ⟨k, o, e, Nat.lt_of_lt_of_le hk g.size, fun i x hx => ⟨(g.below.cell (p := ⟨k, _, none⟩) hk).trans (hc i x hx).1, (g.below.cell (p := ⟨k, _, none⟩) hk).trans (hc i x hx).2⟩⟩⟩
theorem SlR.at_ {w : World} {A : Option Addr} {n c : Nat} {l : List (Int × Int)} (h : SlR w A n c l) {j : Nat} (hj : j < n) :
    ∃ b o p q, A = some ⟨b, o, none⟩ ∧ l[j]? = some (p, q) ∧ b < w.heap.size ∧ w.cell? ⟨b, o + j * 2, none⟩ = some (.int .u64 p) ∧ w.cell? ⟨b, o + j * 2 + 1, none⟩ = some (.int .u64 q) ∧ In64 p ∧ In64 q := by
  obtain ⟨b, o, e, hb, hc⟩ := h.cells (by omega)
  have hl : j < l.length := by rw [h.len]; exact hj
  have hg : l[j]? = some l[j] := List.getElem?_eq_getElem hl
  have hr := h.rng _ (List.getElem_mem hl)
  exact ⟨b, o, l[j].1, l[j].2, e, hg, hb, (hc j _ hg).1, (hc j _ hg).2, hr.1, hr.2⟩
structure SlI (w : World) (A : Option Addr) (n c : Nat) (l : List Int) : Prop where
  len : l.length = n
  le : n ≤ c
  small : c ≤ 9223372036854775807
  rng : ∀ z ∈ l, -9223372036854775808 ≤ z ∧ z ≤ 9223372036854775807
  cells : 0 < n → ∃ b o, A = some ⟨b, o, none⟩ ∧ b < w.heap.size ∧ ∀ i (z : Int), l[i]? = some z → w.cell? ⟨b, o + i, none⟩ = some (.int .i64 z)
theorem SlI.up {a b : World} {A : Option Addr} {n c : Nat} {l : List Int} (h : SlI a A n c l) (g : Gn a b) : SlI b A n c l :=
  ⟨h.len, h.le, h.small, h.rng, fun hn => by
    obtain ⟨k, o, e, hk, hc⟩ := h.cells hn
    exact ⟨k, o, e, Nat.lt_of_lt_of_le hk g.size, fun i x hx => (g.below.cell (p := ⟨k, _, none⟩) hk).trans (hc i x hx)⟩⟩
theorem SlI.at_ {w : World} {A : Option Addr} {n c : Nat} {l : List Int} (h : SlI w A n c l) {j : Nat} (hj : j < n) :
    ∃ b o z, A = some ⟨b, o, none⟩ ∧ l[j]? = some z ∧ b < w.heap.size ∧ w.cell? ⟨b, o + j, none⟩ = some (.int .i64 z) ∧ -9223372036854775808 ≤ z ∧ z ≤ 9223372036854775807 := by
  obtain ⟨b, o, e, hb, hc⟩ := h.cells (by omega)
  have hl : j < l.length := by rw [h.len]; exact hj
  have hg : l[j]? = some l[j] := List.getElem?_eq_getElem hl
  have hr := h.rng _ (List.getElem_mem hl)
  exact ⟨b, o, l[j], e, hg, hb, hc j _ hg, hr.1, hr.2⟩
theorem Blk.one {w : World} (x : Ext) : Blk (w.alloc (.cells #[.int .u64 (Zm.i (Ext.a x)), .int .u64 (Zm.i (Ext.b x))] 30)) w.heap.size [x] := hnew w _
theorem take_snoc' {α : Type} {l : List α} {j : Nat} {x : α} (h : l[j]? = some x) : l.take (j + 1) = l.take j ++ [x] := by
  rw [List.take_add_one, h]; rfl

/- ───── a row that is filled from its head ───── -/
def Fi (res : List Ext) (i : Nat) : List Ext := res.take i ++ List.replicate (res.length - i) 0
theorem Fi_zero (res : List Ext) : Fi res 0 = List.replicate res.length 0 := by simp [Fi]
theorem Fi_length (res : List Ext) {i : Nat} (h : i ≤ res.length) : (Fi res i).length = res.length := by simp [Fi]; omega
theorem Fi_end (res : List Ext) : Fi res res.length = res := by simp [Fi]
theorem Fi_get (res : List Ext) {i : Nat} (h : i < res.length) : (Fi res i)[i]? = some 0 := by
  unfold Fi
  rw [List.getElem?_append_right (by simp; omega), List.getElem?_replicate, if_pos (by simp; omega)]
theorem Fi_set {res : List Ext} {i : Nat} {x : Ext} (h : res[i]? = some x) : (Fi res i).set i x = Fi res (i + 1) := by
  have hi : i < res.length := (List.getElem?_eq_some_iff.1 h).1
  unfold Fi
  rw [take_snoc' h, show res.length - i = (res.length - (i + 1)) + 1 from by omega, List.replicate_succ, List.set_append_right _ _ (by simp; omega)]
  simp [Nat.min_eq_left (Nat.le_of_lt hi)]
theorem Fi_set2 {res : List Ext} {i : Nat} {x y : Ext} (h : res[i]? = some y) : ((Fi res i).set i x).set i y = Fi res (i + 1) := by
  rw [List.set_set]; exact Fi_set h

/- ───── stores into a row; a made row in a flow ───── -/
theorem run_storeE {b i : Nat} {x : Ext} {l : List Ext} {w : World} (h : Blk w b l) (hi : i < l.length) :
    (Instr.storeAt 30 (.pointer (some ⟨b, i * 2, none⟩)) (.agg #[.int .u64 (Zm.i (Ext.a (x))), .int .u64 (Zm.i (Ext.b (x)))])).run Tryz.prog w = .ok () (setE w b i x) := by
  obtain ⟨c0, c1⟩ := h.cell (List.getElem?_eq_getElem hi)
  have f0 := box_fz (i := i * 2) h
  have f1 := box_fz (i := i * 2 + 1) h
  simp [go_sem, c0, c1, f0, f1]
  rfl
theorem tail_storeE {ops : Array Oper} {Q : Exit → Act → World → Prop} {l : List Oper} {a : Act} {w : World} {s t : Operand} {ty : TypeId} {pos : String} {aft : Array Edge} {b i : Nat} {x : Ext} {k : List Ext}
    (hs : a.eval s = .pointer (some ⟨b, i * 2, none⟩)) (ht : a.eval t = .agg #[.int .u64 (Zm.i (Ext.a (x))), .int .u64 (Zm.i (Ext.b (x)))]) (h : Blk w b k) (hi : i < k.length) (kk : wpList Tryz.prog ops Q l a (setE w b i x)) :
    wpList Tryz.prog ops Q (⟨none, .store 30 s t, ty, pos, aft, none⟩ :: l) a w := by
  simp only [wpList, Region.wanted, if_true]
  left
  unfold Oper.wp
  have e : (execOp a.eval ⟨none, .store 30 s t, ty, pos, aft, none⟩).run Tryz.prog w = .ok .skip (setE w b i x) := by
    simp only [execOp, hs, ht]
    simp only [Sem.run_bind, run_storeE h hi]
    rfl
  rw [e]
  exact kk
/-- what is known of a slice of one element that a flow made -/
def oneSl (x : Ext) : Rel := fun v n y => ∃ b, v = .slice (some ⟨b, 0, none⟩) 1 1 ∧ n ≤ b ∧ Blk y b [x]
theorem run_one (ρ : Operand → Value) (d : Option Nat) (s : Operand) (ty : TypeId) (pos : String) (aft : Array Edge) (x : Ext) (h : ρ s = .agg #[.int .u64 (Zm.i (Ext.a (x))), .int .u64 (Zm.i (Ext.b (x)))]) (w : World) :
    (execOp ρ ⟨d, .buildSlice 22 1 #[(0, s)], ty, pos, aft, none⟩).run Tryz.prog w = .ok (.value (.slice (some ⟨w.heap.size, 0, none⟩) 1 1)) (w.alloc (.cells #[.int .u64 (Zm.i (Ext.a x)), .int .u64 (Zm.i (Ext.b x))] 30)) := by
  obtain ⟨i0, hi, hz0, hz1, hz2⟩ := info_parts extInfo
  have hr := run_buildSlice (P := Tryz.prog) w 22 30 1 #[(0, .agg #[.int .u64 (Zm.i (Ext.a (x))), .int .u64 (Zm.i (Ext.b (x)))])] #[.int .u64 (Zm.i (Ext.a x)), .int .u64 (Zm.i (Ext.b x))] i0 _ Tryz.underlying22 hi hz0 (by rw [hz1]; decide) (by rw [hz1]; decide) (by rw [hz1]; kernel_rfl)
  simp [execOp, h, hr]
theorem ex_one {ops : Array Oper} {W : World} {Γ : List Ent} {a : Act} (d : Nat) (s : Operand) (ty : TypeId) (pos : String) (aft : Array Edge) (x : Ext) (h : ∀ V, (fill Γ V a).eval s = .agg #[.int .u64 (Zm.i (Ext.a (x))), .int .u64 (Zm.i (Ext.b (x)))]) :
    ExStep Tryz.prog ops W ⟨some d, .buildSlice 22 1 #[(0, s)], ty, pos, aft, none⟩ Γ a (oneSl x) := by
  intro V N X hΓ g hX K hK
  simp only [wpList, Region.wanted, if_true]
  left
  unfold Oper.wp
  rw [run_one _ _ _ _ _ _ x (h V)]
  exact hK _ _ (Gn.al _).below ⟨_, rfl, Nat.le_refl _, hnew _ _⟩
theorem end_one {W : World} {Γ : List Ent} {V : Nat → Value} {N : Nat → Nat} {X : Nat → World} (h : ∀ e ∈ Γ, e.rel (V e.slot) (N e.slot) (X e.slot) ∧ Up W (X e.slot) ∧ W.heap.size ≤ N e.slot)
    {w : World} (hX : ∀ e ∈ Γ, Up (X e.slot) w) {s : Nat} {x : Ext} (hs : ⟨s, oneSl x⟩ ∈ Γ) : ∃ b, V s = .slice (some ⟨b, 0, none⟩) 1 1 ∧ W.heap.size ≤ b ∧ Blk w b [x] := by
  obtain ⟨⟨b, h1, h2, h3⟩, _, h4⟩ := h _ hs
  exact ⟨b, h1, Nat.le_trans h4 h2, h3.up (Gn.of (hX _ hs))⟩
end Go.Proofs.YtgambglgkilgkaaGreatDoor
