/- What the frames of all laws share: arguments opened to their numbers, the post of a law out of 'nothing that was there has turned'. -/
import Derived.Test.YtgambglgkilgkaaGreatDoorRows
import Derived.WalkKit
import Derived.ProofKit
import Derived.Below
import Derived.Carry
import Derived.ChangeOld
import Derived.Deep.Draws
import Derived.BigQuiet
import Derived.Deep.QuietTactic
import Derived.Lib.Hide
import Derived.RangeFuncNested
import Derived.RangeFuncBound
import Derived.RangeFuncCalls
import Derived.RangeFuncLeaves
import Derived.Shelf.Abstract
import Derived.Shelf.RegionOpen
import Derived.OwnWalkIn
import Derived.TacticsInMore
import Derived.LoopNIn
import Derived.LoopIn
import Derived.OrdersIn
namespace Go.Proofs.YtgambglgkilgkaaGreatDoor
open Go.ChangeShapes Go.WideShapes Go.ChangeAt Go.RowKit

theorem own : ownKnob Tryz.prog.godebug = none := by kernel_rfl
theorem laidOut : laidOutB Tryz.prog = true := by kernel_rfl

section
variable {P : Program} {w : World} {r : Reach} {base : Nat} {t : TypeId} {v : Value}
theorem int_open {k : IntKind} (ht : P.underlying t = some (.int k)) (h : Value.okWide P w r base t v) : ∃ n, v = .int k n ∧ k.has n := by
  simp only [Value.okWide, ht, Cell.okWide] at h
  cases v <;> simp_all [Cell.ok]
def aggB (P : Program) (t : TypeId) : Bool := match P.underlying t with | some (.struct _) => true | some (.array _ _) => true | _ => false
def intB (P : Program) (k : IntKind) (t : TypeId) : Bool := match P.underlying t with | some (.int k') => k' == k | _ => false
theorem intB_eq {k : IntKind} (h : intB P k t = true) : P.underlying t = some (.int k) := by
  unfold intB at h
  split at h
  · rename_i k' e; rw [e]; simp at h; rw [h]
  · cases h
theorem list_vals {k : IntKind} : ∀ (l : List Value), (∀ v ∈ l, ∃ z, v = .int k z ∧ k.has z) → ∃ zs : List Int, l = zs.map (Value.int k) ∧ ∀ z ∈ zs, k.has z
  | [], _ => ⟨[], rfl, by simp⟩
  | v :: l, h => by
    obtain ⟨z, rfl, hz⟩ := h v (by simp)
    obtain ⟨zs, rfl, hzs⟩ := list_vals l (fun u hu => h u (by simp [hu]))
    exact ⟨z :: zs, rfl, by simpa using ⟨hz, hzs⟩⟩
/-- a struct or an array, all of whose cells are integers of one kind -/
theorem aggs_open {k : IntKind} {ts : List TypeId} {n : Nat} (ha : aggB P t = true) (hts : P.cellTypes P.depth t = some ts) (hall : ts.all (intB P k) = true) (hc : P.cellsOf t = n)
    (h : Value.okWide P w r base t v) : ∃ zs : List Int, zs.length = n ∧ v = .agg (zs.map (Value.int k)).toArray ∧ ∀ z ∈ zs, k.has z := by
  have h' : ∃ cs, v = .agg cs ∧ cs.size = P.cellsOf t ∧ Row.okWide P w r base t cs := by
    unfold Value.okWide at h
    unfold aggB at ha
    split at ha
    · rename_i e; simp only [e] at h; exact h
    · rename_i e; simp only [e] at h; exact h
    · cases ha
  obtain ⟨cs, rfl, hsz, ts', hts', _, hrow⟩ := h'
  rw [hts] at hts'
  obtain rfl := Option.some.inj hts'
  obtain ⟨zs, hz, hzs⟩ := list_vals (k := k) cs.toList (by
    intro u hu
    obtain ⟨i, hi, e⟩ := List.getElem_of_mem hu
    have hi' : cs[i]? = some u := by rw [← Array.getElem?_toList, List.getElem?_eq_getElem hi, e]
    obtain ⟨x, hx, hok⟩ := hrow i u hi'
    have hxm : x ∈ ts := by
      obtain ⟨hl, he⟩ := List.getElem?_eq_some_iff.1 hx
      exact he ▸ List.getElem_mem hl
    have hxi := intB_eq (List.all_eq_true.1 hall x hxm)
    simp only [Cell.okWide, hxi] at hok
    cases u <;> simp_all [Cell.ok])
  refine ⟨zs, ?_, ?_, hzs⟩
  · have := congrArg List.length hz
    simp at this; omega
  · rw [← hz]
end

theorem has_u64 {n : Int} (h : IntKind.u64.has n) : 0 ≤ n ∧ n < 18446744073709551616 := by
  have := h; simp only [IntKind.has, IntKind.min, IntKind.max, IntKind.signed, IntKind.bits] at this; simp at this; omega
theorem has_i64 {n : Int} (h : IntKind.i64.has n) : -9223372036854775808 ≤ n ∧ n ≤ 9223372036854775807 := by
  have := h; simp only [IntKind.has, IntKind.min, IntKind.max, IntKind.signed, IntKind.bits] at this; simp at this; omega
theorem has_u32 {n : Int} (h : IntKind.u32.has n) : 0 ≤ n ∧ n < 4294967296 := by
  have := h; simp only [IntKind.has, IntKind.min, IntKind.max, IntKind.signed, IntKind.bits] at this; simp at this; omega
theorem has_i32 {n : Int} (h : IntKind.i32.has n) : -2147483648 ≤ n ∧ n ≤ 2147483647 := by
  have := h; simp only [IntKind.has, IntKind.min, IntKind.max, IntKind.signed, IntKind.bits] at this; simp at this; omega
theorem has_u8 {n : Int} (h : IntKind.u8.has n) : 0 ≤ n ∧ n ≤ 255 := by
  have := h; simp only [IntKind.has, IntKind.min, IntKind.max, IntKind.signed, IntKind.bits] at this; simp at this; omega
theorem has_u16 {n : Int} (h : IntKind.u16.has n) : 0 ≤ n ∧ n ≤ 65535 := by
  have := h; simp only [IntKind.has, IntKind.min, IntKind.max, IntKind.signed, IntKind.bits] at this; simp at this; omega

section
variable {H : Type} {enc : TypeId × Value → H} {P : Program} {W W' : World}
theorem trodAll_below (hl : laidOutB P = true) : ∀ (ts : List TypeId) (vs : List Value) (ds : List (DataW H)) (ps : List MemPlace), (ts.all fun t => P.readableRec t && decide (t < P.types.size)) = true →
    DataW.TrodAll enc P W 0 (fun _ => true) true ts vs ds ps → Below W.heap.size W W' → DataW.TrodAll enc P W' 0 (fun b => decide (b < W.heap.size)) true ts vs ds ps
  | [], [], [], _, _, h, _ => h
  | t :: ts, v :: vs, d :: ds, ps, hr, h, hb => by
    obtain ⟨p, q, h1, h2, e⟩ := h
    simp only [List.all_cons, Bool.and_eq_true, decide_eq_true_eq] at hr
    refine ⟨p, q, Below.trod hl hr.1.1 hr.1.2 h1 hb ?_, trodAll_below hl ts vs ds q hr.2 h2 hb, e⟩
    obtain ⟨m, hm⟩ := h1
    exact DataW.trod_lt m _ _ _ hm
  | [], [], _ :: _, _, _, h, _ => h.elim
  | [], _ :: _, _, _, _, h, _ => h.elim
  | _ :: _, [], _, _, _, h, _ => h.elim
  | _ :: _, _ :: _, [], _, _, h, _ => h.elim

/-- the post of a law: it returned true, and nothing that was there has turned -/
theorem law_post {f : Func} {s : ChangeSpec} {args : Array Value} {ds gs : List (DataW H)} {before : List MemPlace} {tb : TypeId} (hl : laidOutB P = true)
    (hW : DataW.Whole enc P f.params.toList s.vars false W args.toList ds gs before) (hv : s.vars = []) (hr : (f.params.toList.all fun t => P.readableRec t && decide (t < P.types.size)) = true)
    (hres : f.resultTypes = #[tb]) (hb : P.underlying tb = some .bool)
    (hs : s.fn H (ds ++ gs) = { results := [.lit (.bool true)], args := ds }) (bel : Below W.heap.size W W') :
    s.post enc P f false true false false W args (.bool true) W' := by
  have hW' := hW
  obtain ⟨p, q, hA, hV, rfl, hfz, hnd⟩ := hW
  rw [hv] at hV
  obtain ⟨rfl, rfl⟩ := trodVars_none hV
  refine ⟨_, _, _, [], p, [], hW', ?_, ?_, ?_, bel.frame _, fun h => by cases h⟩
  · rw [hs, hres]
    exact trodAll_mk1 (shut_bool hb true)
  · rw [hs]
    exact trodAll_below hl _ _ _ _ hr hA bel
  · rw [hs, hv]; rfl
end

/- a callee that leaves the world alone, inside a region that draws -/
theorem qs {P : Program} {f : FuncId} {args : Array Value} {w w0 : World} {n : Nat} {v : Value}
    (h : Calls P f args w fun e w' => e = .returned v ∧ w = w') (hw : w = w0.drewN n) : Calls P f args w fun e w'' => e = .returned v ∧ ∃ m, w'' = w0.drewN m :=
  h.mono fun _ _ ⟨he, hm⟩ => ⟨he, n, hm.symm.trans hw⟩
theorem qs2 {P : Program} {f : FuncId} {args : Array Value} {w w0 : World} {n k : Nat} {v : Value}
    (h : Calls P f args w fun e w' => e = .returned v ∧ w = w') (hw : w = w0.drewN (k + n)) : Calls P f args w fun e w'' => e = .returned v ∧ ∃ m, w'' = w0.drewN (k + m) :=
  h.mono fun _ _ ⟨he, hm⟩ => ⟨he, n, hm.symm.trans hw⟩

theorem list1 {α : Type} : ∀ (l : List α), l.length = 1 → ∃ a, l = [a]
  | [a], _ => ⟨a, rfl⟩
theorem list2 {α : Type} : ∀ (l : List α), l.length = 2 → ∃ a b, l = [a, b]
  | [a, b], _ => ⟨a, b, rfl⟩
theorem list3 {α : Type} : ∀ (l : List α), l.length = 3 → ∃ a b c, l = [a, b, c]
  | [a, b, c], _ => ⟨a, b, c, rfl⟩
theorem list4 {α : Type} : ∀ (l : List α), l.length = 4 → ∃ a b c d, l = [a, b, c, d]
  | [a, b, c, d], _ => ⟨a, b, c, d, rfl⟩
theorem list6 {α : Type} : ∀ (l : List α), l.length = 6 → ∃ a b c d e f, l = [a, b, c, d, e, f]
  | [a, b, c, d, e, f], _ => ⟨a, b, c, d, e, f, rfl⟩

/- worlds -/
theorem below_drewN {w w' : World} (h : Below w.heap.size w w') (n : Nat) : Below w.heap.size w (w'.drewN n) := ⟨h.os, h.tape, h.output, h.size, h.block⟩
end Go.Proofs.YtgambglgkilgkaaGreatDoor

/- A world that has grown: below its old size nothing has turned. As a function of the growth, so that the walk reads through it as it reads through draws; and a region that draws its order and whose callees make memory, walked once. -/
namespace Go.RowKit

@[simp, go_sem] theorem lt_up2 (n : Nat) : (n < n + 1 + 1) = True := by simp only [eq_iff_iff, iff_true]; omega
@[simp, go_sem] theorem le_up2 (n : Nat) : (n ≤ n + 1 + 1) = True := by simp only [eq_iff_iff, iff_true]; omega
@[simp, go_sem] theorem lt_up3 (n : Nat) : (n < n + 1 + 1 + 1) = True := by simp only [eq_iff_iff, iff_true]; omega
@[simp, go_sem] theorem le_up3 (n : Nat) : (n ≤ n + 1 + 1 + 1) = True := by simp only [eq_iff_iff, iff_true]; omega
@[simp, go_sem] theorem lt_up4 (n : Nat) : (n < n + 1 + 1 + 1 + 1) = True := by simp only [eq_iff_iff, iff_true]; omega
@[simp, go_sem] theorem le_up4 (n : Nat) : (n ≤ n + 1 + 1 + 1 + 1) = True := by simp only [eq_iff_iff, iff_true]; omega
@[simp, go_sem] theorem lt_up5 (n : Nat) : (n < n + 1 + 1 + 1 + 1 + 1) = True := by simp only [eq_iff_iff, iff_true]; omega
@[simp, go_sem] theorem le_up5 (n : Nat) : (n ≤ n + 1 + 1 + 1 + 1 + 1) = True := by simp only [eq_iff_iff, iff_true]; omega
@[simp, go_sem] theorem lt_up6 (n : Nat) : (n < n + 1 + 1 + 1 + 1 + 1 + 1) = True := by simp only [eq_iff_iff, iff_true]; omega
@[simp, go_sem] theorem le_up6 (n : Nat) : (n ≤ n + 1 + 1 + 1 + 1 + 1 + 1) = True := by simp only [eq_iff_iff, iff_true]; omega
@[simp, go_sem] theorem lt_up7 (n : Nat) : (n < n + 1 + 1 + 1 + 1 + 1 + 1 + 1) = True := by simp only [eq_iff_iff, iff_true]; omega
@[simp, go_sem] theorem le_up7 (n : Nat) : (n ≤ n + 1 + 1 + 1 + 1 + 1 + 1 + 1) = True := by simp only [eq_iff_iff, iff_true]; omega
@[simp, go_sem] theorem lt_up8 (n : Nat) : (n < n + 1 + 1 + 1 + 1 + 1 + 1 + 1 + 1) = True := by simp only [eq_iff_iff, iff_true]; omega
@[simp, go_sem] theorem le_up8 (n : Nat) : (n ≤ n + 1 + 1 + 1 + 1 + 1 + 1 + 1 + 1) = True := by simp only [eq_iff_iff, iff_true]; omega

@[simp, go_sem] theorem ne_up1 (n : Nat) : (n + 1 = n) = False := by simp only [eq_iff_iff, iff_false]; omega
@[simp, go_sem] theorem ne_dn1 (n : Nat) : (n = n + 1) = False := by simp only [eq_iff_iff, iff_false]; omega
@[simp, go_sem] theorem ne_up2 (n : Nat) : (n + 1 + 1 = n) = False := by simp only [eq_iff_iff, iff_false]; omega
@[simp, go_sem] theorem ne_dn2 (n : Nat) : (n = n + 1 + 1) = False := by simp only [eq_iff_iff, iff_false]; omega
@[simp, go_sem] theorem ne_up3 (n : Nat) : (n + 1 + 1 + 1 = n) = False := by simp only [eq_iff_iff, iff_false]; omega
@[simp, go_sem] theorem ne_dn3 (n : Nat) : (n = n + 1 + 1 + 1) = False := by simp only [eq_iff_iff, iff_false]; omega
@[simp, go_sem] theorem ne_up4 (n : Nat) : (n + 1 + 1 + 1 + 1 = n) = False := by simp only [eq_iff_iff, iff_false]; omega
@[simp, go_sem] theorem ne_dn4 (n : Nat) : (n = n + 1 + 1 + 1 + 1) = False := by simp only [eq_iff_iff, iff_false]; omega
@[simp, go_sem] theorem ne_up5 (n : Nat) : (n + 1 + 1 + 1 + 1 + 1 = n) = False := by simp only [eq_iff_iff, iff_false]; omega
@[simp, go_sem] theorem ne_dn5 (n : Nat) : (n = n + 1 + 1 + 1 + 1 + 1) = False := by simp only [eq_iff_iff, iff_false]; omega
@[simp, go_sem] theorem ne_up6 (n : Nat) : (n + 1 + 1 + 1 + 1 + 1 + 1 = n) = False := by simp only [eq_iff_iff, iff_false]; omega
@[simp, go_sem] theorem ne_dn6 (n : Nat) : (n = n + 1 + 1 + 1 + 1 + 1 + 1) = False := by simp only [eq_iff_iff, iff_false]; omega
@[simp, go_sem] theorem ne_up7 (n : Nat) : (n + 1 + 1 + 1 + 1 + 1 + 1 + 1 = n) = False := by simp only [eq_iff_iff, iff_false]; omega
@[simp, go_sem] theorem ne_dn7 (n : Nat) : (n = n + 1 + 1 + 1 + 1 + 1 + 1 + 1) = False := by simp only [eq_iff_iff, iff_false]; omega
@[simp, go_sem] theorem ne_up8 (n : Nat) : (n + 1 + 1 + 1 + 1 + 1 + 1 + 1 + 1 = n) = False := by simp only [eq_iff_iff, iff_false]; omega
@[simp, go_sem] theorem ne_dn8 (n : Nat) : (n = n + 1 + 1 + 1 + 1 + 1 + 1 + 1 + 1) = False := by simp only [eq_iff_iff, iff_false]; omega

/-- the worlds that W may have grown to -/
structure Grow (W : World) where
  w : World
  below : Below W.heap.size W w
def gr (W : World) (g : Grow W) : World := g.w
theorem gr_below (W : World) (g : Grow W) : Below W.heap.size W (gr W g) := g.below
theorem to_gr {W w' : World} (h : Below W.heap.size W w') : ∃ g, w' = gr W g := ⟨⟨w', h⟩, rfl⟩
instance (W : World) : Nonempty (Grow W) := ⟨⟨W, Below.refl _ _⟩⟩
def Grow.refl (W : World) : Grow W := ⟨W, Below.refl _ _⟩
def Grow.comp {W : World} (g : Grow W) (h : Grow (gr W g)) : Grow W := ⟨gr (gr W g) h, g.below.trans (h.below.mono g.below.size)⟩
def Grow.draws {W : World} (g : Grow W) (n : Nat) : Grow W := ⟨(gr W g).drewN n, ⟨g.below.os, g.below.tape, g.below.output, g.below.size, g.below.block⟩⟩
@[simp, go_sem] theorem gr_refl (W : World) : gr W (Grow.refl W) = W := rfl
@[simp, go_sem] theorem gr_gr (W : World) (g : Grow W) (h : Grow (gr W g)) : gr (gr W g) h = gr W (g.comp h) := rfl
@[simp, go_sem] theorem gr_drewN (W : World) (g : Grow W) (n : Nat) : (gr W g).drewN n = gr W (g.draws n) := rfl
@[simp, go_sem] theorem gr_drew (W : World) (g : Grow W) : (gr W g).drew = gr W (g.draws 1) := rfl
@[simp, go_sem] theorem gr_tape (W : World) (g : Grow W) : (gr W g).tape = W.tape := g.below.tape
@[simp, go_sem] theorem gr_cell (W : World) (g : Grow W) (b i : Nat) (h : b < W.heap.size) : (gr W g).cell? ⟨b, i, none⟩ = W.cell? ⟨b, i, none⟩ := g.below.cell h
@[simp, go_sem] theorem gr_frozen (W : World) (g : Grow W) (b i : Nat) (h : b < W.heap.size) : (gr W g).frozen? ⟨b, i, none⟩ = W.frozen? ⟨b, i, none⟩ := g.below.frozen h
theorem gr_size (W : World) (g : Grow W) : W.heap.size ≤ (gr W g).heap.size := g.below.size
@[simp, go_sem] theorem gr_lt (W : World) (g : Grow W) (n : Nat) (h : n < W.heap.size) : (n < (gr W g).heap.size) = True := by
  have := g.below.size
  simp only [eq_iff_iff, iff_true]
  show n < g.w.heap.size
  omega
@[simp, go_sem] theorem gr_le (W : World) (g : Grow W) (n : Nat) (h : n ≤ W.heap.size) : (n ≤ (gr W g).heap.size) = True := by
  have := g.below.size
  simp only [eq_iff_iff, iff_true]
  show n ≤ g.w.heap.size
  omega
@[simp, go_sem] theorem gr_lt_1 (W : World) (g : Grow W) (n : Nat) (h : n < W.heap.size) : (n < (gr W g).heap.size + 1) = True := by
  have := gr_size W g
  simp only [eq_iff_iff, iff_true]
  omega
@[simp, go_sem] theorem gr_le_1 (W : World) (g : Grow W) (n : Nat) (h : n ≤ W.heap.size) : (n ≤ (gr W g).heap.size + 1) = True := by
  have := gr_size W g
  simp only [eq_iff_iff, iff_true]
  omega
@[simp, go_sem] theorem gr_lt_2 (W : World) (g : Grow W) (n : Nat) (h : n < W.heap.size) : (n < (gr W g).heap.size + 1 + 1) = True := by
  have := gr_size W g
  simp only [eq_iff_iff, iff_true]
  omega
@[simp, go_sem] theorem gr_le_2 (W : World) (g : Grow W) (n : Nat) (h : n ≤ W.heap.size) : (n ≤ (gr W g).heap.size + 1 + 1) = True := by
  have := gr_size W g
  simp only [eq_iff_iff, iff_true]
  omega
@[simp, go_sem] theorem gr_lt_3 (W : World) (g : Grow W) (n : Nat) (h : n < W.heap.size) : (n < (gr W g).heap.size + 1 + 1 + 1) = True := by
  have := gr_size W g
  simp only [eq_iff_iff, iff_true]
  omega
@[simp, go_sem] theorem gr_le_3 (W : World) (g : Grow W) (n : Nat) (h : n ≤ W.heap.size) : (n ≤ (gr W g).heap.size + 1 + 1 + 1) = True := by
  have := gr_size W g
  simp only [eq_iff_iff, iff_true]
  omega
@[simp, go_sem] theorem gr_lt_4 (W : World) (g : Grow W) (n : Nat) (h : n < W.heap.size) : (n < (gr W g).heap.size + 1 + 1 + 1 + 1) = True := by
  have := gr_size W g
  simp only [eq_iff_iff, iff_true]
  omega
@[simp, go_sem] theorem gr_le_4 (W : World) (g : Grow W) (n : Nat) (h : n ≤ W.heap.size) : (n ≤ (gr W g).heap.size + 1 + 1 + 1 + 1) = True := by
  have := gr_size W g
  simp only [eq_iff_iff, iff_true]
  omega
@[simp, go_sem] theorem gr_ne_0 (W : World) (g : Grow W) (n : Nat) (h : n < W.heap.size) : (n = (gr W g).heap.size) = False := by
  have := gr_size W g
  simp only [eq_iff_iff, iff_false]
  omega
@[simp, go_sem] theorem gr_ne'_0 (W : World) (g : Grow W) (n : Nat) (h : n < W.heap.size) : ((gr W g).heap.size = n) = False := by
  have := gr_size W g
  simp only [eq_iff_iff, iff_false]
  omega
@[simp, go_sem] theorem gr_ne_1 (W : World) (g : Grow W) (n : Nat) (h : n < W.heap.size) : (n = (gr W g).heap.size + 1) = False := by
  have := gr_size W g
  simp only [eq_iff_iff, iff_false]
  omega
@[simp, go_sem] theorem gr_ne'_1 (W : World) (g : Grow W) (n : Nat) (h : n < W.heap.size) : ((gr W g).heap.size + 1 = n) = False := by
  have := gr_size W g
  simp only [eq_iff_iff, iff_false]
  omega
@[simp, go_sem] theorem gr_ne_2 (W : World) (g : Grow W) (n : Nat) (h : n < W.heap.size) : (n = (gr W g).heap.size + 1 + 1) = False := by
  have := gr_size W g
  simp only [eq_iff_iff, iff_false]
  omega
@[simp, go_sem] theorem gr_ne'_2 (W : World) (g : Grow W) (n : Nat) (h : n < W.heap.size) : ((gr W g).heap.size + 1 + 1 = n) = False := by
  have := gr_size W g
  simp only [eq_iff_iff, iff_false]
  omega
@[simp, go_sem] theorem gr_ne_3 (W : World) (g : Grow W) (n : Nat) (h : n < W.heap.size) : (n = (gr W g).heap.size + 1 + 1 + 1) = False := by
  have := gr_size W g
  simp only [eq_iff_iff, iff_false]
  omega
@[simp, go_sem] theorem gr_ne'_3 (W : World) (g : Grow W) (n : Nat) (h : n < W.heap.size) : ((gr W g).heap.size + 1 + 1 + 1 = n) = False := by
  have := gr_size W g
  simp only [eq_iff_iff, iff_false]
  omega

theorem below_gr {B : Nat} {a w : World} (h : Below B a w) (hB : B ≤ w.heap.size) (g : Grow w) : Below B a (gr w g) := h.trans (g.below.mono hB)

theorem up_gr {w v : World} (h : Below w.heap.size w v) (g : Grow v) : Below w.heap.size w (gr v g) := below_gr h h.size g
/- several growths and allocs in one step: simp's discharger goes only two deep -/
theorem below_al {W V : World} (hb : Below W.heap.size W V) (o : Obj) : Below W.heap.size W (V.alloc o) := hb.alloc hb.size _
@[simp, go_sem] theorem gr2_cell (W : World) (g : Grow W) (o : Obj) (h : Grow ((gr W g).alloc o)) (b i : Nat) (hn : b < W.heap.size) : (gr ((gr W g).alloc o) h).cell? ⟨b, i, none⟩ = W.cell? ⟨b, i, none⟩ :=
  (below_gr (below_al (gr_below W g) o) (by have := gr_size W g; simp only [World.size_alloc]; omega) h).cell hn
@[simp, go_sem] theorem gr3_cell (W : World) (g : Grow W) (o o2 : Obj) (h : Grow (((gr W g).alloc o).alloc o2)) (b i : Nat) (hn : b < W.heap.size) : (gr (((gr W g).alloc o).alloc o2) h).cell? ⟨b, i, none⟩ = W.cell? ⟨b, i, none⟩ :=
  (below_gr (below_al (below_al (gr_below W g) o) o2) (by have := gr_size W g; simp only [World.size_alloc]; omega) h).cell hn
@[simp, go_sem] theorem gr4_cell (W : World) (g : Grow W) (o o2 : Obj) (h : Grow ((gr W g).alloc o)) (k : Grow ((gr ((gr W g).alloc o) h).alloc o2)) (b i : Nat) (hn : b < W.heap.size) :
    (gr ((gr ((gr W g).alloc o) h).alloc o2) k).cell? ⟨b, i, none⟩ = W.cell? ⟨b, i, none⟩ :=
  (below_gr (below_al (below_gr (below_al (gr_below W g) o) (by have := gr_size W g; simp only [World.size_alloc]; omega) h) o2) (by have := gr_size W g; have := gr_size _ h; simp only [World.size_alloc] at *; omega) k).cell hn

/-- a contract that only grows, told with a growth -/
theorem calls_gr {P : Program} {f : FuncId} {args : Array Value} {w : World} {R : Ending → Prop} (h : Calls P f args w fun e w' => R e ∧ Below w.heap.size w w') :
    Calls P f args w fun e w' => R e ∧ ∃ g, w' = gr w g :=
  h.mono fun _ _ ⟨he, hb⟩ => ⟨he, to_gr hb⟩

section
variable {P : Program} {ops : Array Oper} {C : World → Prop}
/-- a region that draws, whose operations read and whose callees make memory: one walk -/
theorem wp_region_gr {id : Nat} {Q : Exit → Act → World → Prop} {a : Act} {w : World} {l : List Oper} (hm : P.follows .mixedOrders = true) (hB : Region.lexB .any l.toArray = true)
    (h : wpQuiet P l.toArray (fun w' => ∃ g, w' = gr w g) (fun a' => ∀ w', (∃ g, w' = gr w g) → Q .normal a' w') l a) : (Code.region id l.toArray true).wp P Q a w :=
  wp_region_quiet (C := fun w' => ∃ g, w' = gr w g) hm hB ⟨(Grow.refl w).draws 1, rfl⟩ (by simpa using h)

theorem wpList_of_quiet {Q : Exit → Act → World → Prop} : ∀ (l : List Oper) (a : Act) (w : World), C w → wpQuiet P ops C (fun a' => ∀ w', C w' → Q .normal a' w') l a → wpList P ops Q l a w
  | [], a, w, hw, h => h w hw
  | o :: l, a, w, hw, h => by
    unfold wpQuiet at h
    refine wpList_step fun K hK => ?_
    split at h
    · rename_i hg
      rw [if_pos hg]
      exact Oper.wp_of_quiet hw (fun a' w' hw' hk => hK a' w' (wpList_of_quiet l a' w' hw' hk)) h
    · rename_i hg
      rw [if_neg hg]
      exact hK _ _ (wpList_of_quiet l _ _ hw h)
/-- the same where the region does not draw -/
theorem wp_region_gr0 {id : Nat} {Q : Exit → Act → World → Prop} {a : Act} {w : World} {l : List Oper}
    (h : wpQuiet P l.toArray (fun w' => ∃ g, w' = gr w g) (fun a' => ∀ w', (∃ g, w' = gr w g) → Q .normal a' w') l a) : (Code.region id l.toArray false).wp P Q a w :=
  wp_region_lit (wpList_of_quiet l a w ⟨Grow.refl w, rfl⟩ h)

/-- a callee inside such a region: one that leaves the world alone, that draws, that grows -/
theorem qa {f : FuncId} {args : Array Value} {w W : World} {g : Grow W} {v : Value} (h : Calls P f args w fun e w' => e = .returned v ∧ w = w') (hw : w = gr W g) :
    Calls P f args w fun e w'' => e = .returned v ∧ ∃ g, w'' = gr W g := h.mono fun _ _ ⟨he, hm⟩ => ⟨he, g, hm.symm.trans hw⟩
theorem qd {f : FuncId} {args : Array Value} {w W : World} {g : Grow W} {v : Value} (h : Calls P f args w fun e w' => e = .returned v ∧ ∃ n, w' = w.drewN n) (hw : w = gr W g) :
    Calls P f args w fun e w'' => e = .returned v ∧ ∃ g, w'' = gr W g := h.mono fun _ _ ⟨he, n, hm⟩ => ⟨he, g.draws n, by rw [hm, hw]; rfl⟩
theorem qg {f : FuncId} {args : Array Value} {w W : World} {g : Grow W} {v : Value} (h : Calls P f args w fun e w' => e = .returned v ∧ ∃ g, w' = gr w g) (hw : w = gr W g) :
    Calls P f args w fun e w'' => e = .returned v ∧ ∃ g, w'' = gr W g := by subst hw; exact h.mono fun _ _ ⟨he, g', hm⟩ => ⟨he, g.comp g', hm⟩
end
end Go.RowKit

/- The lexical order's Bool of a region ('Region.lexB'), by a check that the kernel reckons quickly: each operation's edges lead back, and each later one waits for it or is apart from it. -/
namespace Go

/-- what the check sees of an operation: its slot, the slots that it looks at, the operations that it waits for -/
structure Lx where
  dst : Option Nat
  looks : List Nat
  deps : List Nat
def Lx.of (ops : Array Oper) (o : Oper) : Lx := ⟨o.dst, o.looksAt ops, (o.after.toList.filter (Region.binds .any ·)).map (·.on)⟩
def Lx.apart (x y : Lx) : Bool :=
  (match x.dst with
   | some d => !y.looks.contains d && y.dst != some d
   | none => true) &&
  (match y.dst with
   | some d => !x.looks.contains d
   | none => true)
def Lx.chk : Nat → List Lx → Bool
  | _, [] => true
  | k, s :: rest => s.deps.all (fun d => Nat.blt d k) && rest.all (fun t => t.deps.contains k || s.apart t) && Lx.chk (k + 1) rest

theorem Lx.apart_of (ops : Array Oper) (x y : Oper) : (Lx.of ops x).apart (Lx.of ops y) = x.apart ops y := rfl

theorem getD_lt {listed : Array Bool} {k j : Nat} (hl : ∀ j, j < listed.size → listed[j]? = some (decide (j < k))) (d : Bool) (hj : j < listed.size) : listed.getD j d = decide (j < k) := by
  rw [Array.getD_eq_getD_getElem?, hl j hj]; rfl

theorem lexFrom_of_chk (ops : Array Oper) : ∀ (fuel k : Nat) (listed : Array Bool), k + fuel = ops.size → listed.size = ops.size → (∀ j, j < listed.size → listed[j]? = some (decide (j < k))) →
    Lx.chk k ((ops.toList.drop k).map (Lx.of ops)) = true → Region.lexFrom .any ops fuel k listed = true
  | 0, k, listed, hk, hs, hl, _ => by
    unfold Region.lexFrom Region.ready
    rw [List.isEmpty_iff, List.filter_eq_nil_iff]
    intro i hi
    have hi' := List.mem_range.1 hi
    rw [getD_lt hl true (by omega)]
    simp; omega
  | fuel + 1, k, listed, hk, hs, hl, hc => by
    have hkl : k < ops.size := by omega
    have hdrop : ops.toList.drop k = ops[k] :: ops.toList.drop (k + 1) := by
      rw [List.drop_eq_getElem_cons (by simpa using hkl)]; simp
    rw [hdrop, List.map_cons] at hc
    simp only [Lx.chk, Bool.and_eq_true, List.all_eq_true] at hc
    obtain ⟨⟨hd, hf⟩, hr⟩ := hc
    have hko : ops[k]? = some ops[k] := by simp [hkl]
    unfold Region.lexFrom
    simp only [Bool.and_eq_true]
    refine ⟨⟨?_, ?_⟩, ?_⟩
    · rw [List.contains_iff_mem]
      unfold Region.ready
      rw [List.mem_filter]
      refine ⟨List.mem_range.2 hkl, ?_⟩
      rw [getD_lt hl true (by omega), hko]
      simp only [Nat.lt_irrefl, decide_false, Bool.not_false, Option.map_some, Option.getD_some, Bool.true_and]
      rw [Array.all_eq_true_iff_forall_mem]
      intro e he
      by_cases hb : Region.binds .any e = true
      · have h1 : e.on ∈ (Lx.of ops ops[k]).deps := List.mem_map.2 ⟨e, List.mem_filter.2 ⟨by simpa using he, hb⟩, rfl⟩
        have h2 : e.on < k := by simpa [Nat.blt_eq] using hd _ h1
        rw [getD_lt hl false (by omega), decide_eq_true h2]; simp
      · simp [hb]
    · unfold Region.free
      simp only [hko, List.all_eq_true, List.mem_range]
      intro j hj
      by_cases hjk : j = k
      · simp [hjk]
      · by_cases hlt : j < k
        · rw [getD_lt hl true (by omega), decide_eq_true hlt]; simp
        · have hjo : ops[j]? = some ops[j] := by simp [hj]
          simp only [hjo]
          have hm : Lx.of ops ops[j] ∈ (ops.toList.drop (k + 1)).map (Lx.of ops) := by
            refine List.mem_map.2 ⟨ops[j], ?_, rfl⟩
            rw [List.mem_iff_getElem]
            refine ⟨j - (k + 1), by simp; omega, ?_⟩
            rw [List.getElem_drop]
            simp only [Array.getElem_toList]
            congr 1; omega
          have h1 := hf _ hm
          rw [Bool.or_eq_true] at h1
          rcases h1 with h1 | h1
          · rw [List.contains_iff_mem] at h1
            obtain ⟨e, he, heq⟩ := List.mem_map.1 h1
            obtain ⟨he1, he2⟩ := List.mem_filter.1 he
            have h3 : (ops[j].after.any fun e => Region.binds .any e && e.on == k) = true := by
              rw [Array.any_eq_true']
              exact ⟨e, by simpa using he1, by simp only [he2, Bool.true_and, beq_iff_eq]; exact heq⟩
            rw [h3]; simp
          · rw [Lx.apart_of] at h1
            rw [h1]; simp
    · refine lexFrom_of_chk ops fuel (k + 1) _ (by omega) (by simpa using hs) ?_ hr
      intro j hj
      simp only [Array.size_setIfInBounds] at hj
      by_cases hjk : j = k
      · subst hjk
        rw [Array.getElem?_setIfInBounds_self_of_lt hj]
        simp
      · rw [Array.getElem?_setIfInBounds_ne (Ne.symm hjk), hl j hj]
        congr 1
        simp only [decide_eq_decide]; omega

theorem lex_of_chk {l : List Oper} (hs : Region.noSelect l.toArray = true) (h : Lx.chk 0 (l.map (Lx.of l.toArray)) = true) : Region.lexB .any l.toArray = true := by
  unfold Region.lexB
  rw [hs, Bool.true_and]
  refine lexFrom_of_chk l.toArray l.toArray.size 0 _ (by simp) (by simp) ?_ (by simpa using h)
  intro j hj
  simp at hj
  simp [hj]
end Go

/- A region that draws its order, of two parts: operations that leave what lay in memory alone (loads, arithmetic, calls and makes whose values are told by a property), each slot written once; and a forced rest that waits for all of them. One walk in the order of the text serves every order. -/
namespace Go
open Go.RowKit

/-- w has grown out of x -/
def Up (x w : World) : Prop := Below x.heap.size x w
theorem Up.refl (w : World) : Up w w := Below.refl _ _
theorem Up.trans {a b c : World} (h : Up a b) (k : Up b c) : Up a c := Below.trans h (k.mono h.size)
theorem Up.size {a b : World} (h : Up a b) : a.heap.size ≤ b.heap.size := Below.size h
theorem Up.gr (w : World) (g : Grow w) : Up w (RowKit.gr w g) := gr_below w g
theorem Up.of_gr {x W : World} (h : Up x W) (g : Grow W) : Up x (RowKit.gr W g) := h.trans (Up.gr W g)
theorem Up.to_gr {W w : World} (h : Up W w) : ∃ g, w = RowKit.gr W g := RowKit.to_gr h
theorem Up.draws {a b : World} (h : Up a b) (n : Nat) : Up a (b.drewN n) := ⟨h.os, h.tape, h.output, h.size, h.block⟩

/-- what is known of an operation's value: the value, the heap's size ahead of it, the world right behind it -/
abbrev Rel := Value → Nat → World → Prop

/-- only an end as usual lets on -/
def nrm (K : Act → World → Prop) : Exit → Act → World → Prop
  | .normal, a, w => K a w
  | _, _, _ => False
theorem nrm_out {K : Act → World → Prop} : ¬ LetsOut (nrm K) := fun ⟨_, _, h⟩ => h

structure Ent where
  slot : Nat
  rel : Rel
def fill : List Ent → (Nat → Value) → Act → Act
  | [], _, a => a
  | e :: Γ, V, a => (fill Γ V a).put (some e.slot) (V e.slot)

/-- the operations that neither call nor make memory -/
def plainB : Op → Bool
  | .move _ | .assign _ | .pick _ _ _ | .load _ _ | .binOp _ _ _ _ _ | .unOp _ _ _ | .convert _ _ _ | .field _ _ _ | .fieldAddr _ _ _ | .index _ _ _ | .indexAddr _ _ _ | .extract _ _ | .build _ _ => true
  | _ => false

section
variable (P : Program) (ops : Array Oper) (W : World)

/-- an operation whose value is told by a property -/
def ExStep (o : Oper) (Γ : List Ent) (a : Act) (φ : Rel) : Prop :=
  ∀ (V : Nat → Value) (N : Nat → Nat) (X : Nat → World), (∀ e ∈ Γ, e.rel (V e.slot) (N e.slot) (X e.slot) ∧ Up W (X e.slot)) →
    ∀ g : Grow W, (∀ e ∈ Γ, e.slot ∈ o.looksAt ops → Up (X e.slot) (gr W g)) →
      ∀ K : Act → World → Prop, (∀ v w', Up (gr W g) w' → φ v (gr W g).heap.size w' → K ((fill Γ V a).put o.dst v) w') → wpList P ops (nrm K) [o] (fill Γ V a) (gr W g)
/-- an operation whose value is known -/
def IsStep (o : Oper) (a a' : Act) : Prop :=
  ∀ g : Grow W, ∀ K : Act → World → Prop, (∀ w', Up (gr W g) w' → K a' w') → wpList P ops (nrm K) [o] a (gr W g)

def Flow (End : List Oper → List Ent → Act → Prop) : Nat → List Oper → List Ent → Act → Prop
  | 0, l, Γ, a => End l Γ a
  | _ + 1, [], _, _ => False
  | n + 1, o :: l, Γ, a =>
    ((∀ e ∈ Γ, e.slot ∉ o.looksAt ops) ∧
      (if Region.wanted o (yielded ops a.tmps) then plainB o.op = true ∧ o.quiet P a (fun w => ∃ g, w = gr W g) (Flow End n l Γ) else Flow End n l Γ (a.put o.dst undef))) ∨
    (∃ c, (∀ e ∈ Γ, e.slot ∉ o.looksAt ops) ∧ IsStep P ops W o a (a.put o.dst c) ∧ Flow End n l Γ (a.put o.dst c)) ∨
    (∃ d φ, o.dst = some d ∧ ExStep P ops W o Γ a φ ∧ Flow End n l (⟨d, φ⟩ :: Γ) a)

def flowEnd (Q : Exit → Act → World → Prop) (l : List Oper) (Γ : List Ent) (a : Act) : Prop :=
  ∀ (V : Nat → Value) (N : Nat → Nat) (X : Nat → World), (∀ e ∈ Γ, e.rel (V e.slot) (N e.slot) (X e.slot) ∧ Up W (X e.slot) ∧ W.heap.size ≤ N e.slot) →
    (∀ e ∈ Γ, ∀ e' ∈ Γ, e.slot ≠ e'.slot → (X e.slot).heap.size ≤ N e'.slot ∨ (X e'.slot).heap.size ≤ N e.slot) →
    ∀ g : Grow W, (∀ e ∈ Γ, Up (X e.slot) (gr W g)) → wpList P ops Q l (fill Γ V a) (gr W g)
end

/- ───── the tactic's steps ───── -/
section
variable {P : Program} {ops : Array Oper} {W : World} {End : List Oper → List Ent → Act → Prop} {n : Nat} {o : Oper} {l : List Oper} {Γ : List Ent} {a : Act}
theorem flow_one (hp : plainB o.op = true) (hΓ : ∀ e ∈ Γ, e.slot ∉ o.looksAt ops) (h : wpQuiet P ops (fun w => ∃ g, w = gr W g) (Flow P ops W End n l Γ) [o] a) : Flow P ops W End (n + 1) (o :: l) Γ a := by
  refine .inl ⟨hΓ, ?_⟩
  simp only [wpQuiet] at h
  split
  · rename_i hw; rw [if_pos hw] at h; exact ⟨hp, h⟩
  · rename_i hw; rw [if_neg hw] at h; exact h
theorem flow_is {a' : Act} {c : Value} (hΓ : ∀ e ∈ Γ, e.slot ∉ o.looksAt ops) (hs : IsStep P ops W o a a') (hc : a' = a.put o.dst c) (h : Flow P ops W End n l Γ a') : Flow P ops W End (n + 1) (o :: l) Γ a := by
  subst hc
  exact .inr (.inl ⟨c, hΓ, hs, h⟩)
theorem flow_ex {d : Nat} (φ : Rel) (hd : o.dst = some d) (hs : ExStep P ops W o Γ a φ) (h : Flow P ops W End n l (⟨d, φ⟩ :: Γ) a) : Flow P ops W End (n + 1) (o :: l) Γ a :=
  .inr (.inr ⟨d, φ, hd, hs, h⟩)
end

/- ───── the checks ───── -/
def dstAt (ops : Array Oper) (i : Nat) : Option Nat := (ops[i]?).bind (·.dst)
inductive WaitsFor (ops : Array Oper) (i : Nat) : Nat → Prop
  | here {j : Nat} {oj : Oper} {e : Edge} (hj : ops[j]? = some oj) (he : e ∈ oj.after) (hb : Region.binds .any e = true) (heq : e.on = i) : WaitsFor ops i j
  | there {j k : Nat} {oj : Oper} {e : Edge} (hj : ops[j]? = some oj) (he : e ∈ oj.after) (hb : Region.binds .any e = true) (heq : e.on = k) (hk : WaitsFor ops i k) : WaitsFor ops i j

/-- the operations that one waits for, as bits -/
def maskOf (ms : List Nat) : List Edge → Nat
  | [] => 0
  | e :: es => if Region.binds .any e then (1 <<< e.on) ||| (ms.getD e.on 0) ||| maskOf ms es else maskOf ms es
def masks : List Oper → List Nat → List Nat
  | [], ms => ms
  | o :: l, ms => masks l (ms ++ [maskOf ms o.after.toList])
def tailB (N : Nat) (ms : List Nat) : Nat → Bool
  | 0 => true
  | k + 1 => (Nat.blt k N || (ms.getD k 0) &&& (2 ^ k - 1) == 2 ^ k - 1) && tailB N ms k
def looksB (ops : Array Oper) (ds : List (Option Nat)) (i : Nat) (o : Oper) : Bool :=
  (o.looksAt ops).all fun s => (List.range ds.length).all fun j => (ds.getD j none != some s) || (Nat.blt j i && o.after.any fun e => Region.binds .any e && e.on == j)
def distinctB : List (Option Nat) → Bool
  | [] => true
  | d :: ds => d.isSome && ds.all (· != d) && distinctB ds
def looksAllB (ops : Array Oper) (ds : List (Option Nat)) : Nat → List Oper → Bool
  | _, [] => true
  | i, o :: l => looksB ops ds i o && looksAllB ops ds (i + 1) l
def backB : Nat → List Oper → Bool
  | _, [] => true
  | i, o :: l => o.after.toList.all (fun e => !Region.binds .any e || Nat.blt e.on i) && backB (i + 1) l
def flowB (N : Nat) (l : List Oper) : Bool :=
  backB 0 l && Region.noSelect l.toArray && Nat.ble N l.length && distinctB ((l.take N).map (·.dst)) && looksAllB l.toArray ((l.take N).map (·.dst)) 0 (l.take N) && tailB N (masks l []) l.length

section
variable {ops : Array Oper}
theorem maskOf_bit {j : Nat} (ms : List Nat) (hms : ∀ i, (ms.getD i 0).testBit j = true → WaitsFor ops j i) {k : Nat} {o : Oper} (ho : ops[k]? = some o) :
    ∀ (es : List Edge), (∀ e ∈ es, e ∈ o.after) → (maskOf ms es).testBit j = true → WaitsFor ops j k
  | [], _, h => by simp [maskOf] at h
  | e :: es, hes, h => by
    unfold maskOf at h
    split at h
    · rename_i hb
      rw [Nat.testBit_or, Nat.testBit_or, Bool.or_eq_true, Bool.or_eq_true] at h
      rcases h with (h | h) | h
      · rw [Nat.testBit_shiftLeft] at h
        simp only [ge_iff_le, Bool.and_eq_true, decide_eq_true_eq] at h
        obtain ⟨h1, h2⟩ := h
        have h3 : j - e.on = 0 := by
          rcases Nat.eq_zero_or_pos (j - e.on) with h0 | h0
          · exact h0
          · rw [Nat.testBit_one_eq_true_iff_self_eq_zero] at h2; omega
        exact .here ho (hes e (by simp)) hb (by omega)
      · exact .there ho (hes e (by simp)) hb rfl (hms _ h)
      · exact maskOf_bit ms hms ho es (fun e he => hes e (by simp [he])) h
    · exact maskOf_bit ms hms ho es (fun e he => hes e (by simp [he])) h
theorem masks_bit {j : Nat} : ∀ (l : List Oper) (ms : List Nat), (∀ i, l[i]? = ops[ms.length + i]?) → (∀ i, (ms.getD i 0).testBit j = true → WaitsFor ops j i) →
    ∀ i, ((masks l ms).getD i 0).testBit j = true → WaitsFor ops j i
  | [], _, _, h, i, hi => h i hi
  | o :: l, ms, hl, h, i, hi => by
    refine masks_bit l (ms ++ [maskOf ms o.after.toList]) ?_ ?_ i hi
    · intro i
      have := hl (i + 1)
      simp only [List.length_append, List.length_cons, List.length_nil]
      rw [show ms.length + (0 + 1) + i = ms.length + (i + 1) from by omega, ← this]; rfl
    · intro i hi
      have ho : ops[ms.length]? = some o := by have := hl 0; simpa using this.symm
      rcases Nat.lt_trichotomy i ms.length with h1 | h1 | h1
      · refine h i ?_
        rw [List.getD_eq_getElem?_getD, List.getElem?_append_left h1, ← List.getD_eq_getElem?_getD] at hi
        exact hi
      · subst h1
        rw [List.getD_eq_getElem?_getD, List.getElem?_append_right (Nat.le_refl _)] at hi
        simp at hi
        exact maskOf_bit ms h ho o.after.toList (fun e he => by simpa using he) hi
      · rw [List.getD_eq_getElem?_getD, List.getElem?_eq_none (by simp; omega)] at hi
        simp at hi
theorem tailB_bit {N : Nat} {ms : List Nat} : ∀ (n : Nat), tailB N ms n = true → ∀ k, N ≤ k → k < n → ∀ j, j < k → (ms.getD k 0).testBit j = true
  | 0, _, k, _, hk, _, _ => by omega
  | n + 1, h, k, hN, hk, j, hj => by
    simp only [tailB, Bool.and_eq_true, Bool.or_eq_true, beq_iff_eq] at h
    rcases Nat.lt_or_ge k n with h1 | h1
    · exact tailB_bit n h.2 k hN h1 j hj
    · have e : k = n := by omega
      subst e
      rcases h.1 with h2 | h2
      · have : k < N := by simpa using h2
        omega
      · have e1 : ((ms.getD k 0) &&& (2 ^ k - 1)).testBit j = (2 ^ k - 1).testBit j := by rw [h2]
        rw [Nat.testBit_and, Nat.testBit_two_pow_sub_one] at e1
        simp only [hj, decide_true, Bool.and_true] at e1
        exact e1
theorem distinctB_spec : ∀ (ds : List (Option Nat)), distinctB ds = true → (∀ d ∈ ds, d.isSome = true) ∧ ∀ (i j : Nat), i < ds.length → j < ds.length → i ≠ j → ds[i]? ≠ ds[j]?
  | [], _ => ⟨by simp, by simp⟩
  | d :: ds, h => by
    simp only [distinctB, Bool.and_eq_true, List.all_eq_true, bne_iff_ne, ne_eq] at h
    obtain ⟨⟨h1, h2⟩, h3⟩ := h
    obtain ⟨h4, h5⟩ := distinctB_spec ds h3
    refine ⟨by intro x hx; rcases List.mem_cons.1 hx with rfl | hx; exact h1; exact h4 x hx, ?_⟩
    intro i j hi hj hne
    cases i with
    | zero => cases j with
      | zero => exact absurd rfl hne
      | succ j =>
        intro e
        simp only [List.getElem?_cons_zero, List.getElem?_cons_succ] at e
        exact h2 d (List.mem_of_getElem? e.symm) rfl
    | succ i => cases j with
      | zero =>
        intro e
        simp only [List.getElem?_cons_zero, List.getElem?_cons_succ] at e
        exact h2 d (List.mem_of_getElem? e) rfl
      | succ j =>
        simp only [List.getElem?_cons_succ]
        simp only [List.length_cons] at hi hj
        exact h5 i j (by omega) (by omega) (by omega)
theorem looksAllB_spec {ds : List (Option Nat)} : ∀ (l : List Oper) (i : Nat), looksAllB ops ds i l = true → ∀ k o, l[k]? = some o → looksB ops ds (i + k) o = true
  | [], _, _, k, o, h => by simp at h
  | o :: l, i, h, k, o', hk => by
    simp only [looksAllB, Bool.and_eq_true] at h
    cases k with
    | zero => simp at hk; subst hk; exact h.1
    | succ k =>
      simp at hk
      have := looksAllB_spec l (i + 1) h.2 k o' hk
      rwa [show i + 1 + k = i + (k + 1) from by omega] at this

theorem backB_spec : ∀ (l : List Oper) (i : Nat), backB i l = true → ∀ k o, l[k]? = some o → ∀ e ∈ o.after, Region.binds .any e = true → e.on < i + k
  | [], _, _, k, o, h => by simp at h
  | o :: l, i, h, k, o', hk => by
    simp only [backB, Bool.and_eq_true, List.all_eq_true] at h
    cases k with
    | zero =>
      simp at hk; subst hk
      intro e he hb
      have := h.1 e (by simpa using he)
      rw [hb] at this
      simpa using this
    | succ k =>
      simp at hk
      intro e he hb
      have := backB_spec l (i + 1) h.2 k o' hk e he hb
      omega

/-- what the checks say -/
structure FlowOk (N : Nat) (ops : Array Oper) : Prop where
  back : ∀ k o, ops[k]? = some o → ∀ e ∈ o.after, Region.binds .any e = true → e.on < k
  sel : Region.noSelect ops = true
  le : N ≤ ops.size
  dsts : ∀ i, i < N → ∃ d, dstAt ops i = some d
  inj : ∀ i j d, i < N → j < N → dstAt ops i = some d → dstAt ops j = some d → i = j
  looks : ∀ i o j d, i < N → j < N → ops[i]? = some o → dstAt ops j = some d → d ∈ o.looksAt ops → j < i ∧ ∃ e ∈ o.after, Region.binds .any e = true ∧ e.on = j
  tail : ∀ k j, N ≤ k → k < ops.size → j < k → WaitsFor ops j k
theorem flowB_spec {N : Nat} {l : List Oper} (h : flowB N l = true) : FlowOk N l.toArray := by
  simp only [flowB, Bool.and_eq_true] at h
  obtain ⟨⟨⟨⟨⟨h0, h1⟩, h2⟩, h3⟩, h4⟩, h5⟩ := h
  have hN : N ≤ l.length := Nat.le_of_ble_eq_true h2
  have hlen : ((l.take N).map (·.dst)).length = N := by simp; omega
  have hds : ∀ i, i < N → ((l.take N).map (·.dst))[i]? = some (dstAt l.toArray i) := by
    intro i hi
    have : i < l.length := by omega
    simp [dstAt, hi, this]
  obtain ⟨d1, d2⟩ := distinctB_spec _ h3
  refine ⟨fun k o ho e he hb => by have := backB_spec l 0 h0 k o (by simpa using ho) e he hb; omega, h1, by simpa using hN, ?_, ?_, ?_, ?_⟩
  · intro i hi
    have := d1 _ (List.mem_of_getElem? (hds i hi))
    exact Option.isSome_iff_exists.1 this
  · intro i j d hi hj e1 e2
    by_cases hne : i = j
    · exact hne
    · exact absurd (by rw [hds i hi, hds j hj, e1, e2]) (d2 i j (by omega) (by omega) hne)
  · intro i o j d hi hj ho hd hlk
    have h6 := looksAllB_spec _ 0 h4 i o (by rw [List.getElem?_take_of_lt hi]; simpa using ho)
    simp only [looksB, List.all_eq_true, Bool.or_eq_true, Nat.zero_add] at h6
    have h7 := h6 d hlk j (by rw [hlen]; exact List.mem_range.2 hj)
    rw [List.getD_eq_getElem?_getD, hds j hj, hd] at h7
    simp only [Option.getD_some, bne_self_eq_false, Bool.false_eq_true, false_or, Bool.and_eq_true] at h7
    obtain ⟨e, he, hb⟩ := Array.any_eq_true'.1 h7.2
    simp only [Bool.and_eq_true, beq_iff_eq] at hb
    exact ⟨by simpa using h7.1, e, he, hb.1, hb.2⟩
  · intro k j hk hk2 hj
    have h6 := tailB_bit l.length h5 k hk (by simpa using hk2) j hj
    exact masks_bit l [] (by intro i; simp) (by intro i hi; simp at hi) k h6
end

/- ───── frames ───── -/
open Classical in
/-- the frame a holds, at the slots of the operations of S, the values V, and elsewhere what a0 holds -/
def Fits (N : Nat) (ops : Array Oper) (a0 : Act) (S : Nat → Bool) (V : Nat → Value) (a : Act) : Prop :=
  a.defers = a0.defers ∧ ∀ s, a.tmps[s]? = (a0.tmps[s]?).map (fun u => if ∃ i, i < N ∧ S i = true ∧ dstAt ops i = some s then V s else u)
section
variable {N : Nat} {ops : Array Oper} {a0 : Act}
theorem Fits.none (V : Nat → Value) : Fits N ops a0 (fun _ => false) V a0 := ⟨rfl, fun s => by simp⟩
theorem Fits.put {S S' : Nat → Bool} {V V' : Nat → Value} {a : Act} (h : Fits N ops a0 S V a) {i d : Nat} (hi : i < N) (hd : dstAt ops i = some d) (hS : ∀ j, S' j = true ↔ S j = true ∨ j = i)
    (hV : ∀ s, s ≠ d → V' s = V s) : Fits N ops a0 S' V' (a.put (some d) (V' d)) := by
  refine ⟨h.1, fun s => ?_⟩
  show (a.tmps.setIfInBounds d (V' d))[s]? = _
  by_cases hs : s = d
  · subst hs
    have hf : (fun u => if ∃ i, i < N ∧ S' i = true ∧ dstAt ops i = some s then V' s else u) = fun _ => V' s := funext fun u => if_pos ⟨i, hi, (hS i).2 (.inr rfl), hd⟩
    unfold Fits at h
    rw [hf, Array.getElem?_setIfInBounds_self]
    have hsz : (s < a.tmps.size) ↔ (a0.tmps[s]?).isSome = true := by
      have := congrArg Option.isSome (h.2 s)
      rw [Option.isSome_map] at this
      rw [← this]; simp
    cases e : a0.tmps[s]? with
    | none => rw [e] at hsz; simp at hsz; simp; omega
    | some u => rw [e] at hsz; simp at hsz; simp [hsz]
  · rw [Array.getElem?_setIfInBounds_ne (Ne.symm hs), h.2 s]
    have hex : (∃ j, j < N ∧ S' j = true ∧ dstAt ops j = some s) ↔ (∃ j, j < N ∧ S j = true ∧ dstAt ops j = some s) := by
      constructor
      · rintro ⟨j, h1, h2, h3⟩
        rcases (hS j).1 h2 with h2 | rfl
        · exact ⟨j, h1, h2, h3⟩
        · rw [hd] at h3; exact absurd (Option.some.inj h3).symm hs
      · rintro ⟨j, h1, h2, h3⟩
        exact ⟨j, h1, (hS j).2 (.inl h2), h3⟩
    simp only [hex, hV s hs]
theorem Fits.uniq {S : Nat → Bool} {V : Nat → Value} {a a' : Act} (h : Fits N ops a0 S V a) (k : Fits N ops a0 S V a') : a = a' := by
  have e1 : a.tmps = a'.tmps := Array.ext_getElem? fun s => (h.2 s).trans (k.2 s).symm
  have e2 := h.1.trans k.1.symm
  cases a; cases a'; cases e1; cases e2; rfl
theorem Fits.congr {S : Nat → Bool} {V V' : Nat → Value} {a : Act} (h : Fits N ops a0 S V a) (hV : ∀ i d, i < N → S i = true → dstAt ops i = some d → V d = V' d) : Fits N ops a0 S V' a := by
  refine ⟨h.1, fun s => (h.2 s).trans ?_⟩
  congr 1
  funext u
  split
  · rename_i hx
    obtain ⟨i, h1, h2, h3⟩ := hx
    exact hV i s h1 h2 h3
  · rfl
/-- an operation sees only the slots that it looks at -/
theorem Fits.sees {S S' : Nat → Bool} {V : Nat → Value} {a a' : Act} (h : Fits N ops a0 S V a) (k : Fits N ops a0 S' V a') {o : Oper} (hs : ∀ cs b, o.op ≠ .select cs b)
    (hl : ∀ i d, i < N → dstAt ops i = some d → d ∈ o.looksAt ops → (S i = true ↔ S' i = true)) :
    execOp a.eval o = execOp a'.eval o ∧ Region.wanted o (yielded ops a.tmps) = Region.wanted o (yielded ops a'.tmps) := by
  have key : ∀ s, s ∈ o.looksAt ops → a.tmps[s]? = a'.tmps[s]? := by
    intro s hsl
    rw [h.2 s, k.2 s]
    have hex : (∃ j, j < N ∧ S j = true ∧ dstAt ops j = some s) ↔ (∃ j, j < N ∧ S' j = true ∧ dstAt ops j = some s) := by
      constructor
      · rintro ⟨j, h1, h2, h3⟩; exact ⟨j, h1, (hl j s h1 h3 hsl).1 h2, h3⟩
      · rintro ⟨j, h1, h2, h3⟩; exact ⟨j, h1, (hl j s h1 h3 hsl).2 h2, h3⟩
    simp only [hex]
  constructor
  · refine execOp_congr o hs fun x hx => ?_
    cases x with
    | tmp t =>
      show a.tmps.getD t undef = a'.tmps.getD t undef
      rw [Array.getD_eq_getD_getElem?, Array.getD_eq_getD_getElem?, key t (List.mem_append_left _ (List.mem_filterMap.2 ⟨.tmp t, by simpa using hx, rfl⟩))]
    | _ => rfl
  · unfold Region.wanted
    cases hg : o.guard with
    | none => rfl
    | some gw =>
      obtain ⟨g, want⟩ := gw
      have hy : yielded ops a.tmps g = yielded ops a'.tmps g := by
        unfold yielded
        cases ht : (ops[g]?).bind (·.dst) with
        | none => rfl
        | some t =>
          have := key t (by simp [Oper.looksAt, hg, ht])
          simp only [Option.bind_some, this]
      simp only [hy]
theorem Fits.exist (hok : FlowOk N ops) (V : Nat → Value) : ∀ k, k ≤ N → ∃ a, Fits N ops a0 (fun i => decide (i < k)) V a
  | 0, _ => ⟨a0, by have := Fits.none (N := N) (ops := ops) (a0 := a0) V; simpa using this⟩
  | k + 1, hk => by
    obtain ⟨a, ha⟩ := Fits.exist hok V k (by omega)
    obtain ⟨d, hd⟩ := hok.dsts k (by omega)
    exact ⟨_, ha.put (S' := fun i => decide (i < k + 1)) (by omega) hd (by intro j; simp; omega) (fun _ _ => rfl)⟩
theorem fill_put {Γ : List Ent} {V : Nat → Value} {a : Act} {d : Nat} {v : Value} (h : ∀ e ∈ Γ, e.slot ≠ d) : fill Γ V (a.put (some d) v) = (fill Γ V a).put (some d) v := by
  induction Γ with
  | nil => rfl
  | cons e Γ ih =>
    unfold fill
    rw [ih (fun e' he => h e' (by simp [he]))]
    exact Act.put_comm _ _ _ (by rintro x hx; rw [← Option.some.inj hx]; intro e2; exact h e (by simp) (Option.some.inj e2))
end

/- ───── what an operation yields ───── -/
def SameAt (dst : Option Nat) (sz : Nat) (u v : Value) : Prop := u = v ∨ ∃ d, dst = some d ∧ sz ≤ d
theorem put_same {a : Act} {dst : Option Nat} {u v : Value} (h : SameAt dst a.tmps.size u v) : a.put dst u = a.put dst v := by
  rcases h with rfl | ⟨d, rfl, hd⟩
  · rfl
  · show ({ a with tmps := a.tmps.setIfInBounds d u } : Act) = { a with tmps := a.tmps.setIfInBounds d v }
    rw [Array.setIfInBounds_eq_of_size_le hd, Array.setIfInBounds_eq_of_size_le hd]
theorem same_put {a : Act} {dst : Option Nat} {d : Nat} (hd : dst = some d) {u v : Value} (h : a.put dst u = a.put dst v) : SameAt dst a.tmps.size u v := by
  by_cases hs : d < a.tmps.size
  · left
    subst hd
    have h2 : (a.tmps.setIfInBounds d u)[d]? = (a.tmps.setIfInBounds d v)[d]? := congrArg (fun x : Act => x.tmps[d]?) h
    simpa [hs] using h2
  · exact .inr ⟨d, hd, by omega⟩

def opUpon (P : Program) (dst : Option Nat) (sz : Nat) (R : Value → World → Prop) : Result Next → Prop
  | .ok (.value u) w' => ∃ v, SameAt dst sz u v ∧ R v w'
  | .ok .skip w' => ∃ v, SameAt dst sz undef v ∧ R v w'
  | .ok (.enter f args) w' => Calls P f args w' (fun e w'' => ∃ u, e = .returned u ∧ ∃ v, SameAt dst sz u v ∧ R v w'')
  | .ok (.row row args) w' => Rows P row args w' (fun u w'' => ∃ v, SameAt dst sz u v ∧ R v w'')
  | _ => False
def stepUp (P : Program) (ops : Array Oper) (o : Oper) (a : Act) (w : World) (R : Value → World → Prop) : Prop :=
  if Region.wanted o (yielded ops a.tmps) then opUpon P o.dst a.tmps.size R ((execOp a.eval o).run P w) else ∃ v, SameAt o.dst a.tmps.size undef v ∧ R v w
section
variable {P : Program} {ops : Array Oper} {o : Oper} {a : Act} {w : World} {R : Value → World → Prop}
theorem stepUp_of_list {d : Nat} (hd : o.dst = some d) (h : ∀ K : Act → World → Prop, (∀ v w', R v w' → K (a.put o.dst v) w') → wpList P ops (nrm K) [o] a w) : stepUp P ops o a w R := by
  have h1 := h (fun a' w' => ∃ v, a' = a.put o.dst v ∧ R v w') (fun v w' hr => ⟨v, rfl, hr⟩)
  unfold stepUp
  simp only [wpList] at h1
  split
  · rename_i hw
    rw [if_pos hw] at h1
    rcases h1 with h1 | h1
    · unfold Oper.wp at h1
      generalize (execOp a.eval o).run P w = r at *
      cases r with
      | ok n w' =>
        cases n <;> simp only [Oper.upon] at h1 <;> simp only [opUpon]
        case value u => obtain ⟨v, e, hr⟩ := h1; exact ⟨v, same_put hd e, hr⟩
        case skip => obtain ⟨v, e, hr⟩ := h1; exact ⟨v, same_put hd e, hr⟩
        case defer dd =>
          obtain ⟨v, e, _⟩ := h1
          have e2 := congrArg Act.defers e
          rw [hd] at e2
          exact absurd (congrArg List.length e2) (by simp [Act.put])
        case enter f args =>
          refine h1.mono fun e w'' he => ?_
          cases e with
          | returned u => obtain ⟨v, e, hr⟩ := he; exact ⟨u, rfl, v, same_put hd e, hr⟩
          | panicked c => exact he.elim
          | outgrown => exact (nrm_out he).elim
        case row row args => exact h1.mono fun u w'' ⟨v, e, hr⟩ => ⟨v, same_put hd e, hr⟩
      | halt x w' => cases x <;> simp only [Oper.upon] at h1 <;> exact h1.elim
    · exact (nrm_out h1.2).elim
  · rename_i hw
    rw [if_neg hw] at h1
    obtain ⟨v, e, hr⟩ := h1
    exact ⟨v, same_put hd e, hr⟩
theorem opUpon_mono {dst : Option Nat} {sz : Nat} {R' : Value → World → Prop} (hR : ∀ v w, R v w → R' v w) {r : Result Next} (h : opUpon P dst sz R r) : opUpon P dst sz R' r := by
  cases r with
  | ok n w' =>
    cases n <;> simp only [opUpon] at h ⊢
    case value u => obtain ⟨v, e, hr⟩ := h; exact ⟨v, e, hR _ _ hr⟩
    case skip => obtain ⟨v, e, hr⟩ := h; exact ⟨v, e, hR _ _ hr⟩
    case enter f args => exact h.mono fun e w'' ⟨u, he, v, e2, hr⟩ => ⟨u, he, v, e2, hR _ _ hr⟩
    case row row args => exact h.mono fun u w'' ⟨v, e, hr⟩ => ⟨v, e, hR _ _ hr⟩
  | halt x w' => simp only [opUpon] at h
theorem stepUp_mono {R' : Value → World → Prop} (hR : ∀ v w, R v w → R' v w) (h : stepUp P ops o a w R) : stepUp P ops o a w R' := by
  unfold stepUp at *
  split
  · rename_i hw; rw [if_pos hw] at h; exact opUpon_mono hR h
  · rename_i hw; rw [if_neg hw] at h; obtain ⟨v, e, hr⟩ := h; exact ⟨v, e, hR _ _ hr⟩
/-- it yields something -/
theorem stepUp_exists (h : stepUp P ops o a w R) : ∃ v w', R v w' := by
  unfold stepUp at h
  split at h
  · generalize (execOp a.eval o).run P w = r at *
    cases r with
    | ok n w' =>
      cases n <;> simp only [opUpon] at h
      case value u => obtain ⟨v, e, hr⟩ := h; exact ⟨_, _, hr⟩
      case skip => obtain ⟨v, e, hr⟩ := h; exact ⟨_, _, hr⟩
      case enter f args => obtain ⟨_, _, _, ⟨_, _, v, _, hr⟩, _⟩ := h []; exact ⟨_, _, hr⟩
      case row row args => obtain ⟨_, _, ⟨v, _, hr⟩, _⟩ := h (Frame.enter P 0 #[] .normal) []; exact ⟨_, _, hr⟩
    | halt x w' => simp only [opUpon] at h
  · obtain ⟨v, e, hr⟩ := h; exact ⟨_, _, hr⟩
/-- and is carried out -/
theorem stepUp_op {i : Nat} (hi : ops[i]? = some o) {Q : Exit → Act → World → Prop} {K : Act → World → Prop} (h : stepUp P ops o a w R) (hK : ∀ v w', R v w' → K (a.put o.dst v) w') : wpOp P ops Q i K a w := by
  unfold stepUp at h
  unfold wpOp
  simp only [hi]
  split
  · rename_i hw
    rw [if_pos hw] at h
    left
    unfold Oper.wp
    generalize (execOp a.eval o).run P w = r at *
    cases r with
    | ok n w' =>
      cases n <;> simp only [opUpon] at h <;> simp only [Oper.upon]
      case value u => obtain ⟨v, e, hr⟩ := h; rw [put_same e]; exact hK _ _ hr
      case skip => obtain ⟨v, e, hr⟩ := h; rw [put_same e]; exact hK _ _ hr
      case enter f args =>
        refine h.mono fun e w'' ⟨u, he, v, e2, hr⟩ => ?_
        subst he
        show K (a.put o.dst u) w''
        rw [put_same e2]; exact hK _ _ hr
      case row row args => exact h.mono fun u w'' ⟨v, e, hr⟩ => by rw [put_same e]; exact hK _ _ hr
    | halt x w' => simp only [opUpon] at h
  · rename_i hw
    rw [if_neg hw] at h
    obtain ⟨v, e, hr⟩ := h
    rw [put_same e]; exact hK _ _ hr
theorem stepUp_congr {a' : Act} (h : stepUp P ops o a w R) (h1 : execOp a.eval o = execOp a'.eval o) (h2 : Region.wanted o (yielded ops a.tmps) = Region.wanted o (yielded ops a'.tmps)) (h3 : a.tmps.size = a'.tmps.size) : stepUp P ops o a' w R := by
  unfold stepUp at *
  rw [← h1, ← h2, ← h3]; exact h
end

/- ───── the walk, as a table ───── -/
theorem plain_not_enter {P : Program} {ρ : Operand → Value} {o : Oper} {w w' : World} {f : FuncId} {args : Array Value} (h : plainB o.op = true) : (execOp ρ o).run P w ≠ .ok (.enter f args) w' := by
  have key : ∀ (s : Sem Value), (do pure (Next.value (← s)) : Sem Next).run P w ≠ .ok (.enter f args) w' := by
    intro s hs
    simp only [Sem.run_bind] at hs
    cases hr : s.run P w <;> rw [hr] at hs <;> simp [Result.andThen] at hs
  have key2 : ∀ (s : Sem Unit), (do s; pure Next.skip : Sem Next).run P w ≠ .ok (.enter f args) w' := by
    intro s hs
    simp only [Sem.run_bind] at hs
    cases hr : s.run P w <;> rw [hr] at hs <;> simp [Result.andThen] at hs
  have key3 : ∀ (s : Sem Bool) (x y : Value), (do pure (Next.value (if ← s then x else y)) : Sem Next).run P w ≠ .ok (.enter f args) w' := by
    intro s x y hs
    simp only [Sem.run_bind] at hs
    cases hr : s.run P w <;> rw [hr] at hs <;> simp [Result.andThen] at hs
  obtain ⟨dst, op, type, pos, after, guard⟩ := o
  cases op <;> simp only [plainB, Bool.false_eq_true] at h <;> simp only [execOp]
  all_goals first | exact key _ | exact key2 _ | exact key3 _ _ _ | simp

section
variable {P : Program} {ops : Array Oper} {W : World} {N : Nat} {a0 : Act}
theorem fill_sees {Γ : List Ent} {V : Nat → Value} {a : Act} {o : Oper} (hs : ∀ cs b, o.op ≠ .select cs b) (h : ∀ e ∈ Γ, e.slot ∉ o.looksAt ops) :
    execOp (fill Γ V a).eval o = execOp a.eval o ∧ Region.wanted o (yielded ops (fill Γ V a).tmps) = Region.wanted o (yielded ops a.tmps) ∧ (fill Γ V a).tmps.size = a.tmps.size := by
  induction Γ with
  | nil => exact ⟨rfl, rfl, rfl⟩
  | cons e Γ ih =>
    obtain ⟨h1, h2, h3⟩ := ih (fun e' he => h e' (by simp [he]))
    have hd : ∀ d, some e.slot = some d → d ∉ o.looksAt ops := fun d hd => Option.some.inj hd ▸ h e (by simp)
    exact ⟨(execOp_put o hs _ _ _ hd).trans h1, (wanted_put o _ _ _ hd).trans h2, by rw [← h3]; simp [fill, Act.put]⟩
def Goods (ops : Array Oper) (W : World) (φ : Nat → Rel) (k : Nat) (V : Nat → Value) (M : Nat → Nat) (X : Nat → World) : Prop :=
  ∀ i d, i < k → dstAt ops i = some d → φ i (V d) (M d) (X d) ∧ Up W (X d) ∧ W.heap.size ≤ M d
theorem Goods.congr {φ ψ : Nat → Rel} {k : Nat} {V : Nat → Value} {M : Nat → Nat} {X : Nat → World} (h : Goods ops W φ k V M X) {j : Nat} (hj : j ≤ k) (he : ∀ i, i < j → ψ i = φ i) : Goods ops W ψ j V M X :=
  fun i d hi hd => by rw [he i hi]; exact h i d (by omega) hd
def StepAt (P : Program) (ops : Array Oper) (W : World) (N : Nat) (a0 : Act) (φ : Nat → Rel) (i : Nat) : Prop :=
  ∀ o, ops[i]? = some o → ∀ V M X, Goods ops W φ i V M X → ∀ a, Fits N ops a0 (fun j => decide (j < i)) V a → ∀ w, Up W w →
    (∀ j d, j < i → dstAt ops j = some d → d ∈ o.looksAt ops → Up (X d) w) → stepUp P ops o a w (fun v w' => Up w w' ∧ φ i v w.heap.size w')
def EndAt (P : Program) (ops : Array Oper) (W : World) (N : Nat) (a0 : Act) (φ : Nat → Rel) (Q : Exit → Act → World → Prop) (l : List Oper) : Prop :=
  ∀ V M X, Goods ops W φ N V M X → (∀ i j d d', i < N → j < N → i ≠ j → dstAt ops i = some d → dstAt ops j = some d' → (X d).heap.size ≤ M d' ∨ (X d').heap.size ≤ M d) →
    ∀ a, Fits N ops a0 (fun j => decide (j < N)) V a → ∀ w, Up W w → (∀ i d, i < N → dstAt ops i = some d → Up (X d) w) → wpList P ops Q l a w

structure LexOk (ops : Array Oper) (W : World) (N : Nat) (a0 : Act) (k : Nat) (Γ : List Ent) (a : Act) (φ : Nat → Rel) : Prop where
  fit : ∀ V M X, Goods ops W φ k V M X → Fits N ops a0 (fun j => decide (j < k)) V (fill Γ V a)
  ent : ∀ e ∈ Γ, ∃ i, i < k ∧ dstAt ops i = some e.slot ∧ e.rel = φ i
theorem flow_table (hok : FlowOk N ops) {Q : Exit → Act → World → Prop} : ∀ (n k : Nat) (l : List Oper) (Γ : List Ent) (a : Act) (φ0 : Nat → Rel), k + n = N → (∀ j, l[j]? = ops[k + j]?) → LexOk ops W N a0 k Γ a φ0 →
    Flow P ops W (flowEnd P ops W Q) n l Γ a → ∃ φ : Nat → Rel, (∀ i, i < k → φ i = φ0 i) ∧ (∀ i, k ≤ i → i < N → StepAt P ops W N a0 φ i) ∧ EndAt P ops W N a0 φ Q (l.drop n) := by
  intro n
  induction n with
  | zero =>
    intro k l Γ a φ0 hk _ hlex h
    obtain rfl : k = N := by omega
    refine ⟨φ0, fun _ _ => rfl, fun i h1 h2 => by omega, ?_⟩
    intro V M X hg hdis a' hf w hw hx
    obtain rfl := hf.uniq (hlex.fit V M X hg)
    obtain ⟨g, rfl⟩ := hw.to_gr
    refine h V M X ?_ ?_ g ?_
    · intro e he
      obtain ⟨i, hi, hd, hr⟩ := hlex.ent e he
      rw [hr]; exact hg i _ hi hd
    · intro e he e' he' hne
      obtain ⟨i, hi, hd, hr⟩ := hlex.ent e he
      obtain ⟨j, hj, hd', hr'⟩ := hlex.ent e' he'
      exact hdis i j _ _ hi hj (by rintro rfl; rw [hd] at hd'; exact hne (Option.some.inj hd')) hd hd'
    · intro e he
      obtain ⟨i, hi, hd, hr⟩ := hlex.ent e he
      exact hx i _ hi hd
  | succ n ih =>
    intro k l Γ a φ0 hk hl hlex h
    cases l with
    | nil => exact h.elim
    | cons o l =>
      have ho : ops[k]? = some o := by simpa using (hl 0).symm
      have hsel : ∀ cs b, o.op ≠ .select cs b := fun cs b => Region.noSelect_spec hok.sel k o cs b ho
      obtain ⟨d, hd⟩ := hok.dsts k (by omega)
      have hod : o.dst = some d := by simpa [dstAt, ho] using hd
      have hfar : ∀ e ∈ Γ, e.slot ≠ d := by
        intro e he
        obtain ⟨i, hi, hdi, _⟩ := hlex.ent e he
        rintro rfl
        have := hok.inj i k _ (by omega) (by omega) hdi hd
        omega
      have hl' : ∀ j, l[j]? = ops[k + 1 + j]? := fun j => by have := hl (j + 1); rw [show k + 1 + j = k + (j + 1) from by omega, ← this]; rfl
      have go : ∀ (ψ : Rel) (Γ' : List Ent) (a' : Act), (∀ V M X, Goods ops W (fun i => if i = k then ψ else φ0 i) (k + 1) V M X → fill Γ' V a' = (fill Γ V a).put (some d) (V d)) →
          (∀ e ∈ Γ', e ∈ Γ ∨ e = ⟨d, ψ⟩) → Flow P ops W (flowEnd P ops W Q) n l Γ' a' →
          (∀ V M X, Goods ops W φ0 k V M X → ∀ w, Up W w → (∀ j d, j < k → dstAt ops j = some d → d ∈ o.looksAt ops → Up (X d) w) → stepUp P ops o (fill Γ V a) w (fun v w' => Up w w' ∧ ψ v w.heap.size w')) →
          ∃ φ : Nat → Rel, (∀ i, i < k → φ i = φ0 i) ∧ (∀ i, k ≤ i → i < N → StepAt P ops W N a0 φ i) ∧ EndAt P ops W N a0 φ Q ((o :: l).drop (n + 1)) := by
        intro ψ Γ' a' hfill hΓ' hflow hstep
        have hlex' : LexOk ops W N a0 (k + 1) Γ' a' (fun i => if i = k then ψ else φ0 i) := by
          refine ⟨fun V M X hg => ?_, fun e he => ?_⟩
          · rw [hfill V M X hg]
            have hg0 : Goods ops W φ0 k V M X := hg.congr (by omega) (fun i hi => by rw [if_neg (by omega)])
            exact (hlex.fit V M X hg0).put (V' := V) (by omega) hd (by intro j; simp; omega) (fun _ _ => rfl)
          · rcases hΓ' e he with he | rfl
            · obtain ⟨i, hi, hdi, hr⟩ := hlex.ent e he
              exact ⟨i, by omega, hdi, by rw [if_neg (by omega)]; exact hr⟩
            · exact ⟨k, by omega, hd, by rw [if_pos rfl]⟩
        obtain ⟨φ, h1, h2, h3⟩ := ih (k + 1) l Γ' a' _ (by omega) hl' hlex' hflow
        refine ⟨φ, fun i hi => by rw [h1 i (by omega), if_neg (by omega)], ?_, h3⟩
        intro i hi hiN
        by_cases hik : i = k
        · subst hik
          intro o' ho' V M X hg a1 hf w hw hx
          rw [ho] at ho'; cases ho'
          have hg0 : Goods ops W φ0 i V M X := hg.congr (Nat.le_refl _) (fun j hj => by rw [h1 j (by omega), if_neg (by omega)])
          obtain rfl := hf.uniq (hlex.fit V M X hg0)
          have hφ : φ i = ψ := by rw [h1 i (by omega), if_pos rfl]
          rw [hφ]
          exact hstep V M X hg0 w hw hx
        · exact h2 i (by omega) hiN
      have exact_case : ∀ c, (∀ e ∈ Γ, e.slot ∉ o.looksAt ops) → Flow P ops W (flowEnd P ops W Q) n l Γ (a.put o.dst c) → (∀ w, Up W w → stepUp P ops o a w (fun v w' => Up w w' ∧ v = c)) →
          ∃ φ : Nat → Rel, (∀ i, i < k → φ i = φ0 i) ∧ (∀ i, k ≤ i → i < N → StepAt P ops W N a0 φ i) ∧ EndAt P ops W N a0 φ Q ((o :: l).drop (n + 1)) := by
        intro c hΓ hflow hstep
        refine go (fun v _ _ => v = c) Γ (a.put o.dst c) ?_ (fun e he => .inl he) hflow ?_
        · intro V M X hg
          have hc : V d = c := by have := (hg k d (by omega) hd).1; simpa using this
          rw [hod, fill_put hfar, hc]
        · intro V M X hg w hw _
          obtain ⟨e1, e2, e3⟩ := fill_sees (ops := ops) (V := V) (a := a) hsel hΓ
          exact stepUp_congr (hstep w hw) e1.symm e2.symm e3.symm
      rcases h with ⟨hΓ, h⟩ | ⟨c, hΓ, hs, h⟩ | ⟨d', ψ, hd', hs, h⟩
      · split at h
        · rename_i hw
          obtain ⟨hp, v, hq, hflow⟩ := h
          refine exact_case v hΓ hflow fun w hW => ?_
          unfold stepUp
          rw [if_pos hw]
          obtain ⟨g, rfl⟩ := hW.to_gr
          have h1 := hq _ ⟨g, rfl⟩
          unfold Oper.quietAt at h1
          have hne := fun f args w' => plain_not_enter (P := P) (ρ := a.eval) (o := o) (w := gr W g) (w' := w') (f := f) (args := args) hp
          generalize (execOp a.eval o).run P (gr W g) = r at *
          cases r with
          | ok m w' =>
            cases m <;> simp only [Oper.quietUpon] at h1 <;> simp only [opUpon]
            case value u => obtain ⟨rfl, rfl⟩ := h1; exact ⟨u, .inl rfl, Up.refl _, rfl⟩
            case skip => obtain ⟨rfl, rfl⟩ := h1; exact ⟨undef, .inl rfl, Up.refl _, rfl⟩
            case enter f args => exact absurd rfl (hne f args w')
          | halt x w' => simp only [Oper.quietUpon] at h1
        · rename_i hw
          refine exact_case undef hΓ h fun w hW => ?_
          unfold stepUp
          rw [if_neg hw]
          exact ⟨undef, .inl rfl, Up.refl _, rfl⟩
      · refine exact_case c hΓ h fun w hW => ?_
        obtain ⟨g, rfl⟩ := hW.to_gr
        exact stepUp_of_list hod fun K hK => hs g K fun w' hu => hK c w' ⟨hu, rfl⟩
      · rw [hod] at hd'
        obtain rfl := Option.some.inj hd'
        refine go ψ (⟨d, ψ⟩ :: Γ) a (fun V M X _ => rfl) (fun e he => by rcases List.mem_cons.1 he with rfl | he; exact .inr rfl; exact .inl he) h ?_
        intro V M X hg w hw hx
        obtain ⟨g, rfl⟩ := hw.to_gr
        refine stepUp_of_list hod fun K hK => hs V M X ?_ g ?_ K fun v w' hu hv => hK v w' ⟨hu, hv⟩
        · intro e he
          obtain ⟨i, hi, hdi, hr⟩ := hlex.ent e he
          have := hg i _ hi hdi
          rw [hr]; exact ⟨this.1, this.2.1⟩
        · intro e he hlk
          obtain ⟨i, hi, hdi, hr⟩ := hlex.ent e he
          exact hx i _ hi hdi hlk
end

/- ───── every order ───── -/
section
variable {P : Program} {ops : Array Oper} {W : World} {N : Nat} {a0 : Act}
/-- what is listed has what it waited for listed -/
def ClosedL (ops : Array Oper) (listed : Array Bool) : Prop :=
  ∀ j oj, ops[j]? = some oj → listed.getD j true = true → j < listed.size → ∀ e ∈ oj.after, Region.binds .any e = true → listed.getD e.on false = true
theorem getD_up {listed : Array Bool} {i k : Nat} (hk : listed.getD k false = true) : (listed.setIfInBounds i true).getD k false = true := getD_set_true hk
theorem getD_tf {listed : Array Bool} {k : Nat} (h : k < listed.size) (d d' : Bool) : listed.getD k d = listed.getD k d' := by
  rw [Array.getD_eq_getD_getElem?, Array.getD_eq_getD_getElem?, Array.getElem?_eq_getElem h]; rfl
theorem ClosedL.set {listed : Array Bool} {i : Nat} (h : ClosedL ops listed) (hi : i ∈ Region.ready .any ops listed) : ClosedL ops (listed.setIfInBounds i true) := by
  intro j oj hj hl hs e he hb
  simp only [Array.size_setIfInBounds] at hs
  by_cases hij : i = j
  · subst hij
    obtain ⟨_, oi, hoi, hall⟩ := mem_ready.1 hi
    rw [hoi] at hj; cases hj
    exact getD_up (hall e he hb)
  · rw [getD_set_ne true hij] at hl
    exact getD_up (h j oj hj hl hs e he hb)
theorem not_listed {i : Nat} {listed : Array Bool} (hc : ClosedL ops listed) (hi : listed.getD i false = false) {k : Nat} (h : WaitsFor ops i k) : listed.getD k false = false := by
  have key : ∀ {j : Nat} {oj : Oper} {e : Edge}, ops[j]? = some oj → e ∈ oj.after → Region.binds .any e = true → listed.getD e.on false = false → listed.getD j false = false := by
    intro j oj e hj he hb hn
    cases hl : listed.getD j false with
    | false => rfl
    | true =>
      have hlt : j < listed.size := by
        rcases Nat.lt_or_ge j listed.size with h | h
        · exact h
        · rw [Array.getD_eq_getD_getElem?, Array.getElem?_eq_none h] at hl; simp at hl
      have hl' : listed.getD j true = true := (getD_tf hlt _ _).trans hl
      rw [hc j oj hj hl' hlt e he hb] at hn; cases hn
  induction h with
  | here hj he hb heq => exact key hj he hb (by rw [heq]; exact hi)
  | there hj he hb heq _ ih => exact key hj he hb (by rw [heq]; exact ih)
theorem not_ready {i j : Nat} {listed : Array Bool} (hc : ClosedL ops listed) (hi : listed.getD i false = false) (h : WaitsFor ops i j) : j ∉ Region.ready .any ops listed := by
  intro hr
  obtain ⟨_, oj, hj, hall⟩ := mem_ready.1 hr
  cases h with
  | here hj' he hb heq => rw [hj] at hj'; cases hj'; have := hall _ he hb; rw [heq, hi] at this; cases this
  | there hj' he hb heq hk => rw [hj] at hj'; cases hj'; have := hall _ he hb; rw [heq, not_listed hc hi hk] at this; cases this

/-- how many are left -/
def leftN (listed : Array Bool) : Nat → Nat
  | 0 => 0
  | n + 1 => leftN listed n + if listed.getD n true then 0 else 1
theorem leftN_set {listed : Array Bool} {i : Nat} (hi : listed.getD i true = false) : ∀ n, leftN (listed.setIfInBounds i true) n + (if i < n then 1 else 0) = leftN listed n
  | 0 => rfl
  | n + 1 => by
    have ih := leftN_set hi n
    unfold leftN
    have hil : i < listed.size := by
      rcases Nat.lt_or_ge i listed.size with h | h
      · exact h
      · rw [Array.getD_eq_getD_getElem?, Array.getElem?_eq_none h] at hi; simp at hi
    by_cases hin : i = n
    · subst hin
      have e1 : (listed.setIfInBounds i true).getD i true = true := by simp [Array.getD_eq_getD_getElem?, hil]
      rw [e1, hi]
      simp at ih ⊢
      omega
    · rw [getD_set_ne true hin]
      by_cases h1 : i < n
      · have h2 : i < n + 1 := by omega
        simp only [if_pos h1] at ih; simp only [if_pos h2]; omega
      · have h2 : ¬ i < n + 1 := by omega
        simp only [if_neg h1] at ih; simp only [if_neg h2]; omega

theorem run_tail (hok : FlowOk N ops) {Q : Exit → Act → World → Prop} : ∀ (l : List Oper) (k : Nat) (listed : Array Bool) (a : Act) (w : World) (fuel : Nat), (∀ j, l[j]? = ops[k + j]?) → N ≤ k → k + l.length = ops.size → listed.size = ops.size →
    (∀ j, j < ops.size → listed.getD j true = decide (j < k)) → l.length ≤ fuel → wpList P ops Q l a w → wpAny P .any ops Q fuel listed a w
  | [], k, listed, a, w, fuel, _, _, hlen, hsz, hl, _, h => by
    refine wpAny_done ?_ h fuel
    rw [List.eq_nil_iff_forall_not_mem]
    intro i hi
    obtain ⟨h1, o, ho, _⟩ := mem_ready.1 hi
    have hi2 : i < ops.size := (Array.getElem?_eq_some_iff.1 ho).1
    rw [hl i hi2] at h1
    simp only [List.length_nil] at hlen
    simp at h1; omega
  | o :: l, k, listed, a, w, fuel, hl2, hN, hlen, hsz, hl, hf, h => by
    simp only [List.length_cons] at hlen hf
    obtain ⟨fuel, rfl⟩ : ∃ f, fuel = f + 1 := ⟨fuel - 1, by omega⟩
    have ho : ops[k]? = some o := by simpa using (hl2 0).symm
    have hkr : k ∈ Region.ready .any ops listed := by
      refine mem_ready.2 ⟨by rw [hl k (by omega)]; simp, o, ho, fun e he hb => ?_⟩
      have := hok.back k o ho e he hb
      rw [getD_tf (by omega) false true, hl e.on (by omega)]; simpa using this
    have hcl : ClosedL ops listed := by
      intro j oj hj hlj hjs e he hb
      have hb2 := hok.back j oj hj e he hb
      rw [hl j (by omega)] at hlj
      simp at hlj
      rw [getD_tf (by omega) false true, hl e.on (by omega)]; simp; omega
    refine ⟨(fun h0 => by rw [h0] at hkr; cases hkr), fun i hi => ?_⟩
    have hik : i = k := by
      obtain ⟨h1, oi, hoi, _⟩ := mem_ready.1 hi
      have hi2 : i < ops.size := (Array.getElem?_eq_some_iff.1 hoi).1
      rw [hl i hi2] at h1
      simp at h1
      by_cases hgt : k < i
      · exact absurd hi (not_ready hcl (by rw [getD_tf (by omega) false true, hl k (by omega)]; simp) (hok.tail i k (by omega) hi2 hgt))
      · omega
    subst hik
    have hnext : ∀ a' w', wpList P ops Q l a' w' → wpAny P .any ops Q fuel (listed.setIfInBounds i true) a' w' := fun a' w' h' =>
      run_tail hok l (i + 1) _ a' w' fuel (fun j => by have := hl2 (j + 1); rw [show i + 1 + j = i + (j + 1) from by omega, ← this]; rfl) (by omega) (by omega) (by simpa using hsz)
        (fun j hj => by
          by_cases hji : i = j
          · subst hji; simp [Array.getD_eq_getD_getElem?, show i < listed.size by omega]
          · rw [getD_set_ne true hji, hl j hj]; simp; omega) (by omega) h'
    simp only [wpList] at h
    unfold wpOp
    simp only [ho]
    split
    · rename_i hw; rw [if_pos hw] at h; exact h.imp (Oper.wp_mono hnext) id
    · rename_i hw; rw [if_neg hw] at h; exact hnext _ _ h

/-- values that satisfy all properties -/
theorem goods_exist (hok : FlowOk N ops) {φ : Nat → Rel} (hst : ∀ i, i < N → StepAt P ops W N a0 φ i) : ∀ k, k ≤ N → ∃ V M X T, Goods ops W φ k V M X ∧ Up W T ∧ ∀ i d, i < k → dstAt ops i = some d → Up (X d) T
  | 0, _ => ⟨fun _ => undef, fun _ => 0, fun _ => W, W, fun i d hi => by omega, Up.refl _, fun i d hi => by omega⟩
  | k + 1, hk => by
    obtain ⟨V, M, X, T, hg, hT, hx⟩ := goods_exist hok hst k (by omega)
    obtain ⟨d, hd⟩ := hok.dsts k (by omega)
    obtain ⟨o, ho⟩ : ∃ o, ops[k]? = some o := by
      unfold dstAt at hd
      cases h : ops[k]? with
      | none => rw [h] at hd; cases hd
      | some o => exact ⟨o, rfl⟩
    obtain ⟨a, ha⟩ := Fits.exist (a0 := a0) hok V k (by omega)
    obtain ⟨v, w', hu, hv⟩ := stepUp_exists (hst k (by omega) o ho V M X hg a ha T hT (fun j d' hj hd' _ => hx j d' hj hd'))
    have hne : ∀ i d', i < k → dstAt ops i = some d' → d' ≠ d := by
      rintro i d' hi hd' rfl
      have := hok.inj i k _ (by omega) (by omega) hd' hd
      omega
    refine ⟨fun s => if s = d then v else V s, fun s => if s = d then T.heap.size else M s, fun s => if s = d then w' else X s, w', ?_, hT.trans hu, ?_⟩
    · intro i d' hi hd'
      by_cases hik : i = k
      · subst hik
        rw [hd] at hd'; cases hd'
        simp only [if_true]
        exact ⟨hv, hT.trans hu, hT.size⟩
      · have := hne i d' (by omega) hd'
        simp only [if_neg this]
        exact hg i d' (by omega) hd'
    · intro i d' hi hd'
      by_cases hik : i = k
      · subst hik
        rw [hd] at hd'; cases hd'
        simp only [if_true]
        exact Up.refl _
      · have := hne i d' (by omega) hd'
        simp only [if_neg this]
        exact (hx i d' (by omega) hd').trans hu

theorem run_flow (hok : FlowOk N ops) {φ : Nat → Rel} (hst : ∀ i, i < N → StepAt P ops W N a0 φ i) {Q : Exit → Act → World → Prop} {l2 : List Oper} (hl2 : ∀ j, l2[j]? = ops[N + j]?) (hlen : N + l2.length = ops.size)
    (hend : EndAt P ops W N a0 φ Q l2) : ∀ (fuel : Nat) (listed : Array Bool) (V : Nat → Value) (M : Nat → Nat) (X : Nat → World) (a : Act) (w : World), listed.size = ops.size → ClosedL ops listed →
    (∀ k, N ≤ k → k < ops.size → listed.getD k true = false) → Goods ops W φ N V M X → (∀ i d, i < N → listed.getD i true = true → dstAt ops i = some d → Up (X d) w) →
    (∀ i j d d', i < N → j < N → i ≠ j → listed.getD i true = true → listed.getD j true = true → dstAt ops i = some d → dstAt ops j = some d' → (X d).heap.size ≤ M d' ∨ (X d').heap.size ≤ M d) →
    Fits N ops a0 (fun i => listed.getD i true) V a → Up W w → leftN listed ops.size ≤ fuel → wpAny P .any ops Q fuel listed a w := by
  intro fuel
  induction fuel with
  | zero =>
    intro listed V M X a w hsz hcl htl hg hx hdis hf hw hleft
    -- nothing is left: then no flow op is unlisted, and there is no tail
    have hall : ∀ n, n ≤ ops.size → ∀ i, i < n → listed.getD i true = true := by
      intro n hn i hi
      have key : ∀ n, leftN listed n = 0 → ∀ i, i < n → listed.getD i true = true := by
        intro n
        induction n with
        | zero => intro _ i hi; omega
        | succ n ih =>
          intro h i hi
          unfold leftN at h
          have h1 : listed.getD n true = true := by
            cases hb : listed.getD n true with
            | true => rfl
            | false => rw [hb] at h; simp at h
          rcases Nat.lt_or_ge i n with h2 | h2
          · exact ih (by omega) i h2
          · rw [show i = n by omega]; exact h1
      exact key ops.size (by omega) i (by omega)
    have hNs : ops.size = N := by
      have := hok.le
      by_cases h : N < ops.size
      · have h1 := htl N (Nat.le_refl _) h
        rw [hall ops.size (Nat.le_refl _) N h] at h1; cases h1
      · omega
    have hl0 : l2 = [] := List.eq_nil_of_length_eq_zero (by omega)
    refine run_tail hok l2 N listed a w 0 hl2 (Nat.le_refl _) hlen hsz (fun j hj => by rw [hall ops.size (Nat.le_refl _) j hj]; simp; omega) (by rw [hl0]; simp) ?_
    refine hend V M X hg (fun i j d d' hi hj hne h1 h2 => hdis i j d d' hi hj hne (hall _ (Nat.le_refl _) i (by omega)) (hall _ (Nat.le_refl _) j (by omega)) h1 h2) a ?_ w hw
      (fun i d hi hd => hx i d hi (hall _ (Nat.le_refl _) i (by omega)) hd)
    refine ⟨hf.1, fun s => (hf.2 s).trans ?_⟩
    have hex : (∃ j, j < N ∧ listed.getD j true = true ∧ dstAt ops j = some s) ↔ (∃ j, j < N ∧ decide (j < N) = true ∧ dstAt ops j = some s) :=
      ⟨fun ⟨j, h1, h2, h3⟩ => ⟨j, h1, by simpa using h1, h3⟩, fun ⟨j, h1, h2, h3⟩ => ⟨j, h1, hall _ (Nat.le_refl _) j (by omega), h3⟩⟩
    simp only [hex]
  | succ fuel ih =>
    intro listed V M X a w hsz hcl htl hg hx hdis hf hw hleft
    have hle := hok.le
    by_cases hall : ∀ i, i < N → listed.getD i true = true
    · have hpre : ∀ j, j < ops.size → listed.getD j true = decide (j < N) := by
        intro j hj
        rcases Nat.lt_or_ge j N with h | h
        · rw [hall j h]; simp [h]
        · rw [htl j h hj]; simp; omega
      have hcount : ∀ n, n ≤ ops.size → N ≤ n → leftN listed n = leftN listed N + (n - N) := by
        intro n
        induction n with
        | zero => intro _ h; have : N = 0 := by omega
                  subst this; simp
        | succ n ihn =>
          intro h1 h2
          by_cases h3 : N = n + 1
          · subst h3; simp
          · have e1 : leftN listed (n + 1) = leftN listed n + if listed.getD n true then 0 else 1 := rfl
            rw [e1, ihn (by omega) (by omega), htl n (by omega) (by omega)]
            simp only [Bool.false_eq_true, if_false]; omega
      have hc := hcount ops.size (Nat.le_refl _) hle
      refine run_tail hok l2 N listed a w (fuel + 1) hl2 (Nat.le_refl _) hlen hsz hpre (by omega) ?_
      refine hend V M X hg (fun i j d d' hi hj hne h1 h2 => hdis i j d d' hi hj hne (hall i hi) (hall j hj) h1 h2) a ?_ w hw (fun i d hi hd => hx i d hi (hall i hi) hd)
      refine ⟨hf.1, fun s => (hf.2 s).trans ?_⟩
      have hex : (∃ j, j < N ∧ listed.getD j true = true ∧ dstAt ops j = some s) ↔ (∃ j, j < N ∧ decide (j < N) = true ∧ dstAt ops j = some s) :=
        ⟨fun ⟨j, h1, h2, h3⟩ => ⟨j, h1, by simpa using h1, h3⟩, fun ⟨j, h1, h2, h3⟩ => ⟨j, h1, hall j h1, h3⟩⟩
      simp only [hex]
    · -- some are left: the least of them may come up
      have hleast : ∃ k, k < N ∧ listed.getD k true = false ∧ ∀ j, j < k → listed.getD j true = true := by
        have key : ∀ n, (∃ i, i < n ∧ listed.getD i true = false) → ∃ k, k < n ∧ listed.getD k true = false ∧ ∀ j, j < k → listed.getD j true = true := by
          intro n
          induction n with
          | zero => rintro ⟨i, hi, _⟩; omega
          | succ n ihn =>
            intro hex
            by_cases h1 : ∃ i, i < n ∧ listed.getD i true = false
            · obtain ⟨k, hk, h2, h3⟩ := ihn h1; exact ⟨k, by omega, h2, h3⟩
            · obtain ⟨i, hi, h2⟩ := hex
              have hin : i = n := by
                by_cases h : i < n
                · exact absurd ⟨i, h, h2⟩ h1
                · omega
              subst hin
              refine ⟨i, hi, h2, fun j hj => ?_⟩
              cases hb : listed.getD j true with
              | true => rfl
              | false => exact absurd ⟨j, hj, hb⟩ h1
        refine key N ?_
        refine Classical.byContradiction fun hno => hall fun i hi => ?_
        cases hb : listed.getD i true with
        | true => rfl
        | false => exact absurd ⟨i, hi, hb⟩ hno
      obtain ⟨k0, hk0, hk1, hk2⟩ := hleast
      have hk0f : listed.getD k0 false = false := by rw [getD_tf (by omega) false true]; exact hk1
      obtain ⟨o0, ho0⟩ : ∃ o, ops[k0]? = some o := ⟨_, Array.getElem?_eq_getElem (by omega)⟩
      have hr0 : k0 ∈ Region.ready .any ops listed := mem_ready.2 ⟨hk1, o0, ho0, fun e he hb => by
        have := hok.back k0 o0 ho0 e he hb
        rw [getD_tf (by omega) false true]; exact hk2 _ this⟩
      refine ⟨(fun h0 => by rw [h0] at hr0; cases hr0), fun i hi => ?_⟩
      obtain ⟨hiu, o, ho, hiall⟩ := mem_ready.1 hi
      have his : i < ops.size := (Array.getElem?_eq_some_iff.1 ho).1
      have hiN : i < N := by
        by_cases h : N ≤ i
        · exact absurd hi (not_ready hcl hk0f (hok.tail i k0 h his (by omega)))
        · omega
      obtain ⟨d, hd⟩ := hok.dsts i hiN
      have hod : o.dst = some d := by simpa [dstAt, ho] using hd
      have hsel : ∀ cs b, o.op ≠ .select cs b := fun cs b => Region.noSelect_spec hok.sel i o cs b ho
      obtain ⟨al, hal⟩ := Fits.exist (a0 := a0) hok V i (by omega)
      have hgi : Goods ops W φ i V M X := hg.congr (by omega) (fun _ _ => rfl)
      have hdep : ∀ j d', j < N → dstAt ops j = some d' → d' ∈ o.looksAt ops → j < i ∧ listed.getD j true = true := by
        intro j d' hj hd' hlk
        obtain ⟨h1, e, he, hb, heq⟩ := hok.looks i o j d' hiN hj ho hd' hlk
        refine ⟨h1, ?_⟩
        have := hiall e he hb
        rw [heq] at this
        rw [getD_tf (by omega) true false]; exact this
      have hs1 := hst i hiN o ho V M X hgi al hal w hw (fun j d' hj hd' hlk => hx j d' (by omega) (hdep j d' (by omega) hd' hlk).2 hd')
      obtain ⟨e1, e2⟩ := hal.sees hf hsel (fun j d' hj hd' hlk => by
        have := hdep j d' hj hd' hlk
        simp [this.1, this.2])
      have e3 : al.tmps.size = a.tmps.size := by
        have h1 := fun s => congrArg Option.isSome (hal.2 s)
        have h2 := fun s => congrArg Option.isSome (hf.2 s)
        simp only [Option.isSome_map] at h1 h2
        have h3 : ∀ s, s < al.tmps.size ↔ s < a.tmps.size := by
          intro s
          have h4 := (h1 s).trans (h2 s).symm
          by_cases h5 : s < al.tmps.size <;> by_cases h6 : s < a.tmps.size
          · exact ⟨fun _ => h6, fun _ => h5⟩
          · rw [Array.getElem?_eq_getElem h5, Array.getElem?_eq_none (by omega)] at h4; cases h4
          · rw [Array.getElem?_eq_getElem h6, Array.getElem?_eq_none (by omega)] at h4; cases h4
          · exact ⟨fun h => absurd h h5, fun h => absurd h h6⟩
        rcases Nat.lt_trichotomy al.tmps.size a.tmps.size with h | h | h
        · have := (h3 al.tmps.size).2 h; omega
        · exact h
        · have := (h3 a.tmps.size).1 h; omega
      refine stepUp_op ho (stepUp_congr hs1 e1 e2 e3) ?_
      rintro v w' ⟨hu, hv⟩
      rw [hod]
      have hne : ∀ j d', j < N → j ≠ i → dstAt ops j = some d' → d' ≠ d := by
        rintro j d' hj hji hd' rfl
        exact hji (hok.inj j i _ hj hiN hd' hd)
      have hget : ∀ j, j < ops.size → (listed.setIfInBounds i true).getD j true = true → j = i ∨ listed.getD j true = true := by
        intro j hj h
        by_cases hji : i = j
        · exact .inl hji.symm
        · rw [getD_set_ne true hji] at h; exact .inr h
      refine ih (listed.setIfInBounds i true) (fun s => if s = d then v else V s) (fun s => if s = d then w.heap.size else M s) (fun s => if s = d then w' else X s) _ w' (by simpa using hsz) (hcl.set hi) ?_ ?_ ?_ ?_ ?_ (hw.trans hu) ?_
      · intro k hk hks
        rw [getD_set_ne true (by omega)]; exact htl k hk hks
      · intro j d' hj hd'
        by_cases hji : j = i
        · subst hji
          rw [hd] at hd'; cases hd'
          simp only [if_true]
          exact ⟨hv, hw.trans hu, hw.size⟩
        · simp only [if_neg (hne j d' hj hji hd')]
          exact hg j d' hj hd'
      · intro j d' hj hlj hd'
        by_cases hji : j = i
        · subst hji
          rw [hd] at hd'; cases hd'
          simp only [if_true]
          exact Up.refl _
        · simp only [if_neg (hne j d' hj hji hd')]
          exact (hx j d' hj ((hget j (by omega) hlj).resolve_left hji) hd').trans hu
      · intro j k d1 d2 hj hk hjk hlj hlk h1 h2
        by_cases hji : j = i
        · subst hji
          rw [hd] at h1; cases h1
          have hkj : k ≠ j := Ne.symm hjk
          simp only [if_true, if_neg (hne k d2 hk hkj h2)]
          exact .inr (hx k d2 hk ((hget k (by omega) hlk).resolve_left hkj) h2).size
        · by_cases hki : k = i
          · subst hki
            rw [hd] at h2; cases h2
            simp only [if_true, if_neg (hne j d1 hj hji h1)]
            exact .inl (hx j d1 hj ((hget j (by omega) hlj).resolve_left hji) h1).size
          · simp only [if_neg (hne j d1 hj hji h1), if_neg (hne k d2 hk hki h2)]
            exact hdis j k d1 d2 hj hk hjk ((hget j (by omega) hlj).resolve_left hji) ((hget k (by omega) hlk).resolve_left hki) h1 h2
      · have := hf.put (S' := fun j => (listed.setIfInBounds i true).getD j true) (V' := fun s => if s = d then v else V s) hiN hd (by
          intro j
          by_cases hji : i = j
          · subst hji; simp [Array.getD_eq_getD_getElem?, show i < listed.size by omega]
          · rw [getD_set_ne true hji]; simp; intro h; exact absurd h.symm hji) (by intro s hs; simp [hs])
        simpa using this
      · have := leftN_set hiu ops.size
        rw [if_pos his] at this
        omega

/-- THE RULE -/
theorem wp_region_flow {id : Nat} {l : List Oper} {Q : Exit → Act → World → Prop} {a : Act} {w : World} (N : Nat) (hm : P.follows .mixedOrders = true) (hB : flowB N l = true)
    (h : Flow P l.toArray w (flowEnd P l.toArray w Q) N l [] a) : (Code.region id l.toArray true).wp P Q a w := by
  have hok := flowB_spec hB
  have hN : N ≤ l.length := by simpa using hok.le
  obtain ⟨φ, _, hst, hend⟩ := flow_table (a0 := a) hok N 0 l [] a (fun _ _ _ _ => True) (by omega) (by simp) ⟨fun V M X _ => by have := Fits.none (N := N) (ops := l.toArray) (a0 := a) V; simpa [fill] using this, by simp⟩ h
  refine wp_region_any hm ?_
  obtain ⟨V, M, X, T, hg, _, _⟩ := goods_exist hok (fun i hi => hst i (Nat.zero_le _) hi) N (Nat.le_refl _)
  have hun : ∀ i, i < l.length → (Array.replicate l.toArray.size false).getD i true = false := by
    intro i hi
    simp [Array.getD_eq_getD_getElem?, hi]
  refine run_flow hok (fun i hi => hst i (Nat.zero_le _) hi) (l2 := l.drop N) (by intro j; simp) (by simp; omega) hend _ _ V M X a _ (by simp) ?_ ?_ hg ?_ ?_ ?_ ?_ ?_
  · intro j oj hj hl hs
    simp at hs
    rw [hun j hs] at hl; cases hl
  · intro k hk hks
    exact hun k (by simpa using hks)
  · intro i d hi hl
    rw [hun i (by omega)] at hl; cases hl
  · intro i j d d' hi hj hne hl
    rw [hun i (by omega)] at hl; cases hl
  · have := Fits.none (N := N) (ops := l.toArray) (a0 := a) V
    refine ⟨this.1, fun s => ?_⟩
    have hno : ¬ ∃ i, i < N ∧ (Array.replicate l.toArray.size false).getD i true = true ∧ dstAt l.toArray i = some s := by
      rintro ⟨i, hi, hl, _⟩
      rw [hun i (by omega)] at hl; cases hl
    simp only [if_neg hno]
    simp
  · exact ⟨rfl, rfl, rfl, Nat.le_refl _, fun _ _ => rfl⟩
  · have key : ∀ n, n ≤ l.length → leftN (Array.replicate l.toArray.size false) n ≤ n := by
      intro n
      induction n with
      | zero => intro _; simp [leftN]
      | succ n ih => intro h; unfold leftN; have := ih (by omega); split <;> omega
    simpa using key l.length (Nat.le_refl _)
end
end Go

/- The flow rule with one more step: an operation that looks at slots told by a property, and whose value is known. -/
namespace Go.Fk
open Go.RowKit
section
variable (P : Program) (ops : Array Oper) (W : World)
def Flow (End : List Oper → List Ent → Act → Prop) : Nat → List Oper → List Ent → Act → Prop
  | 0, l, Γ, a => End l Γ a
  | _ + 1, [], _, _ => False
  | n + 1, o :: l, Γ, a =>
    ((∀ e ∈ Γ, e.slot ∉ o.looksAt ops) ∧
      (if Region.wanted o (yielded ops a.tmps) then plainB o.op = true ∧ o.quiet P a (fun w => ∃ g, w = gr W g) (Flow End n l Γ) else Flow End n l Γ (a.put o.dst undef))) ∨
    (∃ c, (∀ e ∈ Γ, e.slot ∉ o.looksAt ops) ∧ IsStep P ops W o a (a.put o.dst c) ∧ Flow End n l Γ (a.put o.dst c)) ∨
    (∃ d φ, o.dst = some d ∧ ExStep P ops W o Γ a φ ∧ Flow End n l (⟨d, φ⟩ :: Γ) a) ∨
    (∃ d c, o.dst = some d ∧ ExStep P ops W o Γ a (fun v _ _ => v = c) ∧ Flow End n l Γ (a.put (some d) c))
end

/- ───── the tactic's steps ───── -/
section
variable {P : Program} {ops : Array Oper} {W : World} {End : List Oper → List Ent → Act → Prop} {n : Nat} {o : Oper} {l : List Oper} {Γ : List Ent} {a : Act}
theorem flow_one (hp : plainB o.op = true) (hΓ : ∀ e ∈ Γ, e.slot ∉ o.looksAt ops) (h : wpQuiet P ops (fun w => ∃ g, w = gr W g) (Flow P ops W End n l Γ) [o] a) : Flow P ops W End (n + 1) (o :: l) Γ a := by
  refine .inl ⟨hΓ, ?_⟩
  simp only [wpQuiet] at h
  split
  · rename_i hw; rw [if_pos hw] at h; exact ⟨hp, h⟩
  · rename_i hw; rw [if_neg hw] at h; exact h
theorem flow_is {a' : Act} {c : Value} (hΓ : ∀ e ∈ Γ, e.slot ∉ o.looksAt ops) (hs : IsStep P ops W o a a') (hc : a' = a.put o.dst c) (h : Flow P ops W End n l Γ a') : Flow P ops W End (n + 1) (o :: l) Γ a := by
  subst hc
  exact .inr (.inl ⟨c, hΓ, hs, h⟩)
theorem flow_ex {d : Nat} (φ : Rel) (hd : o.dst = some d) (hs : ExStep P ops W o Γ a φ) (h : Flow P ops W End n l (⟨d, φ⟩ :: Γ) a) : Flow P ops W End (n + 1) (o :: l) Γ a :=
  .inr (.inr (.inl ⟨d, φ, hd, hs, h⟩))
theorem flow_kn {d : Nat} (c : Value) (hd : o.dst = some d) (hs : ExStep P ops W o Γ a (fun v _ _ => v = c)) (h : Flow P ops W End n l Γ (a.put (some d) c)) : Flow P ops W End (n + 1) (o :: l) Γ a :=
  .inr (.inr (.inr ⟨d, c, hd, hs, h⟩))
end

section
variable {P : Program} {ops : Array Oper} {W : World} {N : Nat} {a0 : Act}
theorem flow_table (hok : FlowOk N ops) {Q : Exit → Act → World → Prop} : ∀ (n k : Nat) (l : List Oper) (Γ : List Ent) (a : Act) (φ0 : Nat → Rel), k + n = N → (∀ j, l[j]? = ops[k + j]?) → LexOk ops W N a0 k Γ a φ0 →
    Flow P ops W (flowEnd P ops W Q) n l Γ a → ∃ φ : Nat → Rel, (∀ i, i < k → φ i = φ0 i) ∧ (∀ i, k ≤ i → i < N → StepAt P ops W N a0 φ i) ∧ EndAt P ops W N a0 φ Q (l.drop n) := by
  intro n
  induction n with
  | zero =>
    intro k l Γ a φ0 hk _ hlex h
    obtain rfl : k = N := by omega
    refine ⟨φ0, fun _ _ => rfl, fun i h1 h2 => by omega, ?_⟩
    intro V M X hg hdis a' hf w hw hx
    obtain rfl := hf.uniq (hlex.fit V M X hg)
    obtain ⟨g, rfl⟩ := hw.to_gr
    refine h V M X ?_ ?_ g ?_
    · intro e he
      obtain ⟨i, hi, hd, hr⟩ := hlex.ent e he
      rw [hr]; exact hg i _ hi hd
    · intro e he e' he' hne
      obtain ⟨i, hi, hd, hr⟩ := hlex.ent e he
      obtain ⟨j, hj, hd', hr'⟩ := hlex.ent e' he'
      exact hdis i j _ _ hi hj (by rintro rfl; rw [hd] at hd'; exact hne (Option.some.inj hd')) hd hd'
    · intro e he
      obtain ⟨i, hi, hd, hr⟩ := hlex.ent e he
      exact hx i _ hi hd
  | succ n ih =>
    intro k l Γ a φ0 hk hl hlex h
    cases l with
    | nil => exact h.elim
    | cons o l =>
      have ho : ops[k]? = some o := by simpa using (hl 0).symm
      have hsel : ∀ cs b, o.op ≠ .select cs b := fun cs b => Region.noSelect_spec hok.sel k o cs b ho
      obtain ⟨d, hd⟩ := hok.dsts k (by omega)
      have hod : o.dst = some d := by simpa [dstAt, ho] using hd
      have hfar : ∀ e ∈ Γ, e.slot ≠ d := by
        intro e he
        obtain ⟨i, hi, hdi, _⟩ := hlex.ent e he
        rintro rfl
        have := hok.inj i k _ (by omega) (by omega) hdi hd
        omega
      have hl' : ∀ j, l[j]? = ops[k + 1 + j]? := fun j => by have := hl (j + 1); rw [show k + 1 + j = k + (j + 1) from by omega, ← this]; rfl
      have go : ∀ (ψ : Rel) (Γ' : List Ent) (a' : Act), (∀ V M X, Goods ops W (fun i => if i = k then ψ else φ0 i) (k + 1) V M X → fill Γ' V a' = (fill Γ V a).put (some d) (V d)) →
          (∀ e ∈ Γ', e ∈ Γ ∨ e = ⟨d, ψ⟩) → Flow P ops W (flowEnd P ops W Q) n l Γ' a' →
          (∀ V M X, Goods ops W φ0 k V M X → ∀ w, Up W w → (∀ j d, j < k → dstAt ops j = some d → d ∈ o.looksAt ops → Up (X d) w) → stepUp P ops o (fill Γ V a) w (fun v w' => Up w w' ∧ ψ v w.heap.size w')) →
          ∃ φ : Nat → Rel, (∀ i, i < k → φ i = φ0 i) ∧ (∀ i, k ≤ i → i < N → StepAt P ops W N a0 φ i) ∧ EndAt P ops W N a0 φ Q ((o :: l).drop (n + 1)) := by
        intro ψ Γ' a' hfill hΓ' hflow hstep
        have hlex' : LexOk ops W N a0 (k + 1) Γ' a' (fun i => if i = k then ψ else φ0 i) := by
          refine ⟨fun V M X hg => ?_, fun e he => ?_⟩
          · rw [hfill V M X hg]
            have hg0 : Goods ops W φ0 k V M X := hg.congr (by omega) (fun i hi => by rw [if_neg (by omega)])
            exact (hlex.fit V M X hg0).put (V' := V) (by omega) hd (by intro j; simp; omega) (fun _ _ => rfl)
          · rcases hΓ' e he with he | rfl
            · obtain ⟨i, hi, hdi, hr⟩ := hlex.ent e he
              exact ⟨i, by omega, hdi, by rw [if_neg (by omega)]; exact hr⟩
            · exact ⟨k, by omega, hd, by rw [if_pos rfl]⟩
        obtain ⟨φ, h1, h2, h3⟩ := ih (k + 1) l Γ' a' _ (by omega) hl' hlex' hflow
        refine ⟨φ, fun i hi => by rw [h1 i (by omega), if_neg (by omega)], ?_, h3⟩
        intro i hi hiN
        by_cases hik : i = k
        · subst hik
          intro o' ho' V M X hg a1 hf w hw hx
          rw [ho] at ho'; cases ho'
          have hg0 : Goods ops W φ0 i V M X := hg.congr (Nat.le_refl _) (fun j hj => by rw [h1 j (by omega), if_neg (by omega)])
          obtain rfl := hf.uniq (hlex.fit V M X hg0)
          have hφ : φ i = ψ := by rw [h1 i (by omega), if_pos rfl]
          rw [hφ]
          exact hstep V M X hg0 w hw hx
        · exact h2 i (by omega) hiN
      have exact_case : ∀ c, (∀ e ∈ Γ, e.slot ∉ o.looksAt ops) → Flow P ops W (flowEnd P ops W Q) n l Γ (a.put o.dst c) → (∀ w, Up W w → stepUp P ops o a w (fun v w' => Up w w' ∧ v = c)) →
          ∃ φ : Nat → Rel, (∀ i, i < k → φ i = φ0 i) ∧ (∀ i, k ≤ i → i < N → StepAt P ops W N a0 φ i) ∧ EndAt P ops W N a0 φ Q ((o :: l).drop (n + 1)) := by
        intro c hΓ hflow hstep
        refine go (fun v _ _ => v = c) Γ (a.put o.dst c) ?_ (fun e he => .inl he) hflow ?_
        · intro V M X hg
          have hc : V d = c := by have := (hg k d (by omega) hd).1; simpa using this
          rw [hod, fill_put hfar, hc]
        · intro V M X hg w hw _
          obtain ⟨e1, e2, e3⟩ := fill_sees (ops := ops) (V := V) (a := a) hsel hΓ
          exact stepUp_congr (hstep w hw) e1.symm e2.symm e3.symm
      rcases h with ⟨hΓ, h⟩ | ⟨c, hΓ, hs, h⟩ | ⟨d', ψ, hd', hs, h⟩ | ⟨d', c, hd', hs, h⟩
      · split at h
        · rename_i hw
          obtain ⟨hp, v, hq, hflow⟩ := h
          refine exact_case v hΓ hflow fun w hW => ?_
          unfold stepUp
          rw [if_pos hw]
          obtain ⟨g, rfl⟩ := hW.to_gr
          have h1 := hq _ ⟨g, rfl⟩
          unfold Oper.quietAt at h1
          have hne := fun f args w' => plain_not_enter (P := P) (ρ := a.eval) (o := o) (w := gr W g) (w' := w') (f := f) (args := args) hp
          generalize (execOp a.eval o).run P (gr W g) = r at *
          cases r with
          | ok m w' =>
            cases m <;> simp only [Oper.quietUpon] at h1 <;> simp only [opUpon]
            case value u => obtain ⟨rfl, rfl⟩ := h1; exact ⟨u, .inl rfl, Up.refl _, rfl⟩
            case skip => obtain ⟨rfl, rfl⟩ := h1; exact ⟨undef, .inl rfl, Up.refl _, rfl⟩
            case enter f args => exact absurd rfl (hne f args w')
          | halt x w' => simp only [Oper.quietUpon] at h1
        · rename_i hw
          refine exact_case undef hΓ h fun w hW => ?_
          unfold stepUp
          rw [if_neg hw]
          exact ⟨undef, .inl rfl, Up.refl _, rfl⟩
      · refine exact_case c hΓ h fun w hW => ?_
        obtain ⟨g, rfl⟩ := hW.to_gr
        exact stepUp_of_list hod fun K hK => hs g K fun w' hu => hK c w' ⟨hu, rfl⟩
      · rw [hod] at hd'
        obtain rfl := Option.some.inj hd'
        refine go ψ (⟨d, ψ⟩ :: Γ) a (fun V M X _ => rfl) (fun e he => by rcases List.mem_cons.1 he with rfl | he; exact .inr rfl; exact .inl he) h ?_
        intro V M X hg w hw hx
        obtain ⟨g, rfl⟩ := hw.to_gr
        refine stepUp_of_list hod fun K hK => hs V M X ?_ g ?_ K fun v w' hu hv => hK v w' ⟨hu, hv⟩
        · intro e he
          obtain ⟨i, hi, hdi, hr⟩ := hlex.ent e he
          have := hg i _ hi hdi
          rw [hr]; exact ⟨this.1, this.2.1⟩
        · intro e he hlk
          obtain ⟨i, hi, hdi, hr⟩ := hlex.ent e he
          exact hx i _ hi hdi hlk
      · rw [hod] at hd'
        obtain rfl := Option.some.inj hd'
        refine go (fun v _ _ => v = c) Γ (a.put (some d) c) ?_ (fun e he => .inl he) h ?_
        · intro V M X hg
          have hc : V d = c := by have := (hg k d (by omega) hd).1; simpa using this
          rw [fill_put hfar, hc]
        · intro V M X hg w hw hx
          obtain ⟨g, rfl⟩ := hw.to_gr
          refine stepUp_of_list hod fun K hK => hs V M X ?_ g ?_ K fun v w' hu hv => hK v w' ⟨hu, hv⟩
          · intro e he
            obtain ⟨i, hi, hdi, hr⟩ := hlex.ent e he
            have := hg i _ hi hdi
            rw [hr]; exact ⟨this.1, this.2.1⟩
          · intro e he hlk
            obtain ⟨i, hi, hdi, hr⟩ := hlex.ent e he
            exact hx i _ hi hdi hlk
end

section
variable {P : Program} {ops : Array Oper} {W : World} {N : Nat} {a0 : Act}
/-- THE RULE -/
theorem wp_region_flow {id : Nat} {l : List Oper} {Q : Exit → Act → World → Prop} {a : Act} {w : World} (N : Nat) (hm : P.follows .mixedOrders = true) (hB : flowB N l = true)
    (h : Flow P l.toArray w (flowEnd P l.toArray w Q) N l [] a) : (Code.region id l.toArray true).wp P Q a w := by
  have hok := flowB_spec hB
  have hN : N ≤ l.length := by simpa using hok.le
  obtain ⟨φ, _, hst, hend⟩ := flow_table (a0 := a) hok N 0 l [] a (fun _ _ _ _ => True) (by omega) (by simp) ⟨fun V M X _ => by have := Fits.none (N := N) (ops := l.toArray) (a0 := a) V; simpa [fill] using this, by simp⟩ h
  refine wp_region_any hm ?_
  obtain ⟨V, M, X, T, hg, _, _⟩ := goods_exist hok (fun i hi => hst i (Nat.zero_le _) hi) N (Nat.le_refl _)
  have hun : ∀ i, i < l.length → (Array.replicate l.toArray.size false).getD i true = false := by
    intro i hi
    simp [Array.getD_eq_getD_getElem?, hi]
  refine run_flow hok (fun i hi => hst i (Nat.zero_le _) hi) (l2 := l.drop N) (by intro j; simp) (by simp; omega) hend _ _ V M X a _ (by simp) ?_ ?_ hg ?_ ?_ ?_ ?_ ?_
  · intro j oj hj hl hs
    simp at hs
    rw [hun j hs] at hl; cases hl
  · intro k hk hks
    exact hun k (by simpa using hks)
  · intro i d hi hl
    rw [hun i (by omega)] at hl; cases hl
  · intro i j d d' hi hj hne hl
    rw [hun i (by omega)] at hl; cases hl
  · have := Fits.none (N := N) (ops := l.toArray) (a0 := a) V
    refine ⟨this.1, fun s => ?_⟩
    have hno : ¬ ∃ i, i < N ∧ (Array.replicate l.toArray.size false).getD i true = true ∧ dstAt l.toArray i = some s := by
      rintro ⟨i, hi, hl, _⟩
      rw [hun i (by omega)] at hl; cases hl
    simp only [if_neg hno]
    simp
  · exact ⟨rfl, rfl, rfl, Nat.le_refl _, fun _ _ => rfl⟩
  · have key : ∀ n, n ≤ l.length → leftN (Array.replicate l.toArray.size false) n ≤ n := by
      intro n
      induction n with
      | zero => intro _; simp [leftN]
      | succ n ih => intro h; unfold leftN; have := ih (by omega); split <;> omega
    simpa using key l.length (Nat.le_refl _)
end
end Go.Fk

/- A range over a function whose rounds are known ahead: an iterator may keep a state of its own in a cell; the loop's body never leaves early. The law of the statement, at the fence that asks nothing. -/
namespace Go
open Go.RowKit
variable {P : Program}

/-- what lies at or beyond B lies on -/
structure KeepsBeyond (B : Nat) (W W' : World) : Prop where
  size : W.heap.size ≤ W'.heap.size
  same : ∀ k, B ≤ k → k < W.heap.size → W'.heap[k]? = W.heap[k]?
theorem KeepsBeyond.refl (B : Nat) (W : World) : KeepsBeyond B W W := ⟨Nat.le_refl _, fun _ _ _ => rfl⟩
theorem KeepsBeyond.trans {B : Nat} {A C D : World} (h : KeepsBeyond B A C) (k : KeepsBeyond B C D) : KeepsBeyond B A D :=
  ⟨Nat.le_trans h.size k.size, fun i hi hl => (k.same i hi (Nat.lt_of_lt_of_le hl h.size)).trans (h.same i hi hl)⟩
theorem KeepsBeyond.setCell {B : Nat} {W : World} {p : Addr} (h : p.block < B) (v : Value) : KeepsBeyond B W (W.setCell p v) :=
  ⟨by simp, fun k hk _ => Below.heap_setCell W p v k (by omega)⟩
theorem KeepsBeyond.gr {B : Nat} (W : World) (g : Grow W) : KeepsBeyond B W (gr W g) := ⟨g.below.size, fun k _ hl => g.below.block k hl⟩
theorem KeepsBeyond.drewN {B : Nat} (W : World) (n : Nat) : KeepsBeyond B W (W.drewN n) := ⟨Nat.le_refl _, fun _ _ _ => rfl⟩
theorem below_putObj {B : Nat} (W : World) (l : Nat) (o : Obj) (h : B ≤ l) : Below B W (W.putObj l o) :=
  ⟨rfl, rfl, rfl, by simp, fun k hk => World.putObj_heap_other (by omega)⟩

/-- AN ITERATOR'S CONTRACT: 'xs k' are the values of the round k, N rounds in all. H: what it asks of memory where it is called. Step: what it does to memory between two rounds. Kp: what a round must keep. -/
def IterOk (P : Program) (f : FuncId) (lb : Array Value) (xs : Nat → Array Value) (N : Nat) (H : World → Prop) (Step Kp : World → World → Prop) : Prop :=
  ∀ (m l : Nat) (J : Nat → World → Prop), (∀ k W W', J k W → Step W W' → J k W') →
    (∀ k W, k < N → J k W → YieldAt Fence.wide m P l (xs k) W fun e W' => e = .returned (.bool true) ∧ J (k + 1) W' ∧ Kp W W') →
    ∀ W, H W → J 0 W → CallsIn Fence.wide (m + 1) P f (#[.func (.yield l) #[] #[]] ++ lb) W fun e W' => (∃ v, e = .returned v) ∧ J N W'

/-- how a round's body ends -/
def rgPost (B : Nat) (I' : World → Prop) (Kp : World → World → Prop) (W : World) : Exit → Act → World → Prop
  | .normal, _, W' => KeepsBeyond B W W' ∧ I' W' ∧ Kp W W'
  | _, _, _ => False

/-- THE STATEMENT -/
theorem wp_range {g : Operand} {ps : Array Tmp} {assign body : Code} {Q : Exit → Act → World → Prop} {a : Act} {w : World} {m : Nat}
    {gf : Nat} {lb : Array Value} (hg : a.eval g = .func (.func gf) #[] lb) (eg : ∀ args w, (callFunc gf args).run P w = .ok (.enter gf args) w)
    {xs : Nat → Array Value} {N : Nat} {H : World → Prop} {Step Kp : World → World → Prop} (hit : IterOk P gf lb xs N H Step Kp) (hps : ∀ k, (xs k).size = ps.size)
    (hH : ∀ W, Below w.heap.size w W → H W)
    (hKp : ∀ A C D E, Below w.heap.size A C → Kp C D → Below w.heap.size D E → Kp A E)
    (I : Nat → World → Prop) (hI : ∀ k W W', I k W → Below w.heap.size W W' → I k W') (h0 : I 0 w)
    (hstep : ∀ W W', Step W W' → KeepsBeyond w.heap.size W W') (hIs : ∀ k W W', I k W → Step W W' → I k W')
    (a₁ : Nat → Act)
    (hassign : ∀ (l k : Nat) (W : World) (K : Act → World → Prop), K (a₁ k) W →
      assign.wpIn (Fence.wide.inRound l) m P (Exit.then K (fun _ _ _ => False)) { tmps := (ps.zip (xs k)).foldl (fun t (p, v) => t.setIfInBounds p v) a.tmps, defers := [] } W)
    (hbody : ∀ (l k : Nat) (W : World), I k W → k < N → w.heap.size ≤ W.heap.size → body.wpIn (Fence.wide.inRound l) m P (rgPost w.heap.size (I (k + 1)) Kp W) (a₁ k) W)
    (hdone : ∀ (D : Nat) (W : World), w.heap.size ≤ D → I N W → w.heap.size ≤ W.heap.size → W.heap[D]? = some (.deferred (some [])) →
      Q .normal { a with defers := { target := .collected D, args := #[] } :: a.defers } W) :
    (Code.rangeFunc g ps assign body).wpIn Fence.wide (m + 2) P Q a w := by
  refine wpIn_rangeFunc ?_
  intro fn hfn
  show ∃ l mark w₁ d w₁' f args w₂, (Instr.enterLoop fn a.tmps ps assign body none).run P w = .ok (l, mark) w₁ ∧ _
  obtain ⟨rec, hrec⟩ : ∃ rec : LoopState → Option Code → Loop, rec = fun st pe => { state := st, pending := pe, fn, tmps := a.tmps, params := ps, assign, body, defers := w.heap.size } := ⟨_, rfl⟩
  obtain ⟨W1, hW1⟩ : ∃ W1, (w.alloc (.deferred (some []))).alloc (.loop (rec .ready none)) = W1 := ⟨_, rfl⟩
  have hL1 : W1.heap[w.heap.size + 1]? = some (.loop (rec .ready none)) := by
    rw [← hW1]; have := World.alloc_heap_new (w.alloc (.deferred (some []))) (.loop (rec .ready none)); rwa [World.size_alloc] at this
  have hK1 : W1.heap[w.heap.size]? = some (.deferred (some [])) := by
    rw [← hW1]; exact (Below.heap_alloc _ _ _ (by simp)).trans (World.alloc_heap_new w _)
  have hb1 : Below w.heap.size w W1 := by rw [← hW1]; exact ((Below.refl _ w).alloc (Nat.le_refl _) _).alloc (by simp) _
  refine ⟨w.heap.size + 1, [{ target := .collected w.heap.size, args := #[] }], W1, { target := .fn (.func gf) lb, args := #[.func (.yield (w.heap.size + 1)) #[] #[]] }, W1, gf,
    #[.func (.yield (w.heap.size + 1)) #[] #[]] ++ lb, W1, ?_, ?_, fun _ _ => trivial, ?_, fun _ => by omega, ?_⟩
  · rw [← hW1, hrec]; exact run_enterLoop_outer _ _ _ _ _
  · simp only [resolve, hg]
    simp [go_sem]
  · simp [invoke, go_sem, eg]
  · refine (hit m (w.heap.size + 1)
      (fun k W => I k W ∧ w.heap.size ≤ W.heap.size ∧ W.heap[w.heap.size + 1]? = some (.loop (rec .ready none)) ∧ W.heap[w.heap.size]? = some (.deferred (some []))) ?_ ?_ W1 (hH W1 hb1)
      ⟨hI 0 w W1 h0 hb1, hb1.size, hL1, hK1⟩).mono ?_
    · rintro k W W' ⟨hi, hs, hl, hk⟩ hst
      have hq := hstep W W' hst
      exact ⟨hIs k W W' hi hst, Nat.le_trans hs hq.size, (hq.same _ (by omega) (Array.getElem?_eq_some_iff.1 hl).1).trans hl, (hq.same _ (Nat.le_refl _) (Array.getElem?_eq_some_iff.1 hk).1).trans hk⟩
    · rintro k W hlen ⟨hi, hs, hl, hk⟩
      have hlt : w.heap.size + 1 < W.heap.size := (Array.getElem?_eq_some_iff.1 hl).1
      have hy := run_yield (P := P) (args := xs k) hl (by rw [hrec]; exact hps k)
      rw [hrec] at hy
      refine ⟨fn, _, assign, body, hy, roundIn_of_wpIn hfn (hassign _ k W _ ⟨_, run_beginRound hl (by rw [hrec]), ?_⟩)⟩
      have hl2 : (W.putObj (w.heap.size + 1) (.loop { rec .ready none with state := .busy })).heap[w.heap.size + 1]? = some (.loop { rec .ready none with state := .busy }) := World.putObj_heap_same hlt
      have hk2 : (W.putObj (w.heap.size + 1) (.loop { rec .ready none with state := .busy })).heap[w.heap.size]? = some (.deferred (some [])) := (World.putObj_heap_other (by omega)).trans hk
      have hb2 : Below w.heap.size W (W.putObj (w.heap.size + 1) (.loop { rec .ready none with state := .busy })) := below_putObj W _ _ (by omega)
      refine wpIn_mono (hbody _ k _ (hI k _ _ hi hb2) hlen (by simpa using hs)) ?_
      rintro e a3 W3 hp
      cases e with
      | normal =>
        obtain ⟨hq, hi3, hp3⟩ := hp
        have hl3 := (hq.same _ (by omega) (Array.getElem?_eq_some_iff.1 hl2).1).trans hl2
        have hk3 := (hq.same _ (Nat.le_refl _) (Array.getElem?_eq_some_iff.1 hk2).1).trans hk2
        have hr := run_endRound (P := P) none hl3
        rw [hrec] at hr
        have hb3 : Below w.heap.size W3 (W3.putObj (w.heap.size + 1) (.loop (rec .ready none))) := below_putObj W3 _ _ (by omega)
        refine ⟨_, _, hr, rfl, ⟨?_, ?_, ?_, ?_⟩, ?_⟩
        · have := hI (k + 1) _ _ hi3 hb3; rw [hrec] at this; exact this
        · have := hq.size; simp at this ⊢; omega
        · have := World.putObj_heap_same (o := .loop (rec .ready none)) (Array.getElem?_eq_some_iff.1 hl3).1; rw [hrec] at this ⊢; exact this
        · exact (World.putObj_heap_other (by omega)).trans hk3
        · have := hKp _ _ _ _ hb2 hp3 hb3; rw [hrec] at this; exact this
      | _ => exact hp.elim
    · rintro e W2 ⟨⟨v, rfl⟩, hi, hs, hl, hk⟩
      refine ⟨none, _, by have := run_endLoop (P := P) hl (by rw [hrec]; simp); rw [hrec] at this; exact this, ?_⟩
      exact hdone _ _ (Nat.le_refl _) (hI N _ _ hi (below_putObj W2 _ _ (by omega))) (by simpa using hs) ((World.putObj_heap_other (by omega)).trans hk)
end Go

/- A region that draws, in a round of a range over a function: the plain rules (the flow, the quiet walk) serve there too. -/
namespace Go
open Go.RowKit
section
variable {P : Program} {Q : Exit → Act → World → Prop} {ops : Array Oper}
def noDefer (ops : Array Oper) : Bool := ops.all fun o => match o.op with | .defer _ => false | _ => true
theorem noDefer_at {i : Nat} {o : Oper} (h : noDefer ops = true) (ho : ops[i]? = some o) : ∀ c, o.op ≠ .defer c := by
  intro c hc
  obtain ⟨hi, rfl⟩ := Array.getElem?_eq_some_iff.1 ho
  have := Array.all_eq_true.1 h i hi
  rw [hc] at this
  cases this
theorem wpIn_round_op {o : Oper} {l n : Nat} {a : Act} {w : World} {K K' : Act → World → Prop} (hd : ∀ c, o.op ≠ .defer c) (hK : ∀ a w, K a w → K' a w) (h : o.wp P a w K Q) : o.wpIn (Fence.wide.inRound l) n P a w K' Q := by
  refine ⟨fun _ _ => trivial, ?_⟩
  rw [Oper.semAt_eq _ _ _ hd]
  unfold Oper.wp at h
  generalize (execOp a.eval o).run P w = r at *
  cases r with
  | ok x w' =>
    cases x <;> simp only [Oper.upon, Oper.uponIn] at h ⊢ <;>
      first
        | exact hK _ _ h
        | exact ⟨fun hh => by simp [Fence.wide] at hh, CallsIn.inRound l (callsIn_wide.2 (h.mono fun e w'' he => by cases e <;> first | exact hK _ _ he | exact he))⟩
        | exact ⟨fun hh => by simp [Fence.wide] at hh, fun c cs _ => by
            obtain ⟨v, w2, hv, hs⟩ := h c cs
            exact ⟨v, w2, hK _ _ hv, stepsIn_wide.2 hs⟩⟩
        | exact h
  | halt x w' => cases x <;> simp only [Oper.upon, Oper.uponIn] at h ⊢ <;> exact h
theorem wpAnyIn_round {md : Region.Mode} {l n : Nat} (hout : ¬ LetsOut Q) (hn : noDefer ops = true) : ∀ (fuel : Nat) (listed : Array Bool) (a : Act) (w : World), wpAny P md ops Q fuel listed a w → wpAnyIn (Fence.wide.inRound l) n P md ops Q fuel listed a w
  | 0, _, _, _, h => h
  | fuel + 1, listed, a, w, h => ⟨h.1, fun i hi => by
      have h2 := h.2 i hi
      unfold wpOp at h2
      unfold wpOpIn
      cases ho : ops[i]? with
      | none => rw [ho] at h2; exact wpAnyIn_round hout hn fuel _ _ _ h2
      | some o =>
        rw [ho] at h2
        simp only at h2 ⊢
        split
        · rename_i hw
          rw [if_pos hw] at h2
          exact wpIn_round_op (noDefer_at hn ho) (fun a w => wpAnyIn_round hout hn fuel _ a w) (h2.resolve_right fun hh => hout hh.2)
        · rename_i hw
          rw [if_neg hw] at h2
          exact ⟨fun _ _ => trivial, wpAnyIn_round hout hn fuel _ _ _ h2⟩⟩
theorem wpIn_round_region {l n id : Nat} {a : Act} {w : World} (hm : P.follows .mixedOrders = true) (hout : ¬ LetsOut Q) (hn : noDefer ops = true)
    (h : wpAny P .any ops Q ops.size (Array.replicate ops.size false) a { w with drawn := w.drawn + 1 }) : (Code.region id ops true).wpIn (Fence.wide.inRound l) n P Q a w :=
  wpIn_region_any hm (wpAnyIn_round hout hn _ _ _ _ h)
/-- reads and exact calls, in a round -/
theorem wpIn_round_gr {m n id : Nat} {a : Act} {w : World} {l : List Oper} (hm : P.follows .mixedOrders = true) (hn : noDefer l.toArray = true) (hB : Region.lexB .any l.toArray = true)
    (h : wpQuiet P l.toArray (fun w' => ∃ g, w' = gr w g) (fun a' => ∀ w', (∃ g, w' = gr w g) → Q .normal a' w') l a) : (Code.region id l.toArray true).wpIn (Fence.wide.inRound m) n P Q a w := by
  refine wpIn_mono (Q := nrm fun a w => Q .normal a w) ?_ (fun e a w h => by cases e <;> first | exact h | exact h.elim)
  refine wpIn_round_region hm nrm_out hn ?_
  simp only [Region.lexB, Bool.and_eq_true] at hB
  refine wpAny_of_quiet (C := fun w' => ∃ g, w' = gr w g) (Q := fun a' => ∀ w', (∃ g, w' = gr w g) → Q .normal a' w') (Q' := nrm fun a w => Q .normal a w) (fun _ w' hw' h => h w' hw') _ _ _ _ ⟨(Grow.refl w).draws 1, rfl⟩ ?_
  have := wpAnyQ_lex (C := fun w' => ∃ g, w' = gr w g) (md := .any) hB.1 l 0 (Array.replicate l.toArray.size false) a (by simp) (by simpa using hB.2) h
  simpa using this
end
end Go

/- The rule of XFlow for a region in which one slot is filled by a copy of another: 'd0 := s0'. -/
namespace Go.Fc
open Go.RowKit
def cpRel : Rel := fun _ _ _ => True
section
variable (P : Program) (ops : Array Oper) (W : World) (d0 s0 : Nat)
def Flow (End : List Oper → List Ent → Act → Prop) : Nat → List Oper → List Ent → Act → Prop
  | 0, l, Γ, a => End l Γ a
  | _ + 1, [], _, _ => False
  | n + 1, o :: l, Γ, a =>
    (o.dst = some d0 ∧ Flow End n l (⟨d0, cpRel⟩ :: Γ) a) ∨ (o.dst ≠ some d0 ∧ (
    ((∀ e ∈ Γ, e.slot ∉ o.looksAt ops) ∧
      (if Region.wanted o (yielded ops a.tmps) then plainB o.op = true ∧ o.quiet P a (fun w => ∃ g, w = gr W g) (Flow End n l Γ) else Flow End n l Γ (a.put o.dst undef))) ∨
    (∃ c, (∀ e ∈ Γ, e.slot ∉ o.looksAt ops) ∧ IsStep P ops W o a (a.put o.dst c) ∧ Flow End n l Γ (a.put o.dst c)) ∨
    (∃ d φ, o.dst = some d ∧ ExStep P ops W o Γ a φ ∧ Flow End n l (⟨d, φ⟩ :: Γ) a)))
def flowEnd (Q : Exit → Act → World → Prop) (l : List Oper) (Γ : List Ent) (a : Act) : Prop :=
  ∀ (V : Nat → Value) (N : Nat → Nat) (X : Nat → World), V d0 = V s0 → (∀ e ∈ Γ, e.rel (V e.slot) (N e.slot) (X e.slot) ∧ Up W (X e.slot) ∧ W.heap.size ≤ N e.slot) →
    (∀ e ∈ Γ, ∀ e' ∈ Γ, e.slot ≠ e'.slot → (X e.slot).heap.size ≤ N e'.slot ∨ (X e'.slot).heap.size ≤ N e.slot) →
    ∀ g : Grow W, (∀ e ∈ Γ, Up (X e.slot) (gr W g)) → wpList P ops Q l (fill Γ V a) (gr W g)
end
section
variable {P : Program} {ops : Array Oper} {W : World} {d0 : Nat} {End : List Oper → List Ent → Act → Prop} {n : Nat} {o : Oper} {l : List Oper} {Γ : List Ent} {a : Act}
theorem flow_one (hp : plainB o.op = true) (hne : o.dst ≠ some d0) (hΓ : ∀ e ∈ Γ, e.slot ∉ o.looksAt ops) (h : wpQuiet P ops (fun w => ∃ g, w = gr W g) (Flow P ops W d0 End n l Γ) [o] a) : Flow P ops W d0 End (n + 1) (o :: l) Γ a := by
  refine .inr ⟨hne, .inl ⟨hΓ, ?_⟩⟩
  simp only [wpQuiet] at h
  split
  · rename_i hw; rw [if_pos hw] at h; exact ⟨hp, h⟩
  · rename_i hw; rw [if_neg hw] at h; exact h
theorem flow_is {a' : Act} {c : Value} (hne : o.dst ≠ some d0) (hΓ : ∀ e ∈ Γ, e.slot ∉ o.looksAt ops) (hs : IsStep P ops W o a a') (hc : a' = a.put o.dst c) (h : Flow P ops W d0 End n l Γ a') : Flow P ops W d0 End (n + 1) (o :: l) Γ a := by
  subst hc
  exact .inr ⟨hne, .inr (.inl ⟨c, hΓ, hs, h⟩)⟩
theorem flow_ex {d : Nat} (φ : Rel) (hd : o.dst = some d) (hne : o.dst ≠ some d0) (hs : ExStep P ops W o Γ a φ) (h : Flow P ops W d0 End n l (⟨d, φ⟩ :: Γ) a) : Flow P ops W d0 End (n + 1) (o :: l) Γ a :=
  .inr ⟨hne, .inr (.inr ⟨d, φ, hd, hs, h⟩)⟩
theorem flow_cp (hd : o.dst = some d0) (h : Flow P ops W d0 End n l (⟨d0, cpRel⟩ :: Γ) a) : Flow P ops W d0 End (n + 1) (o :: l) Γ a := .inl ⟨hd, h⟩
end

section
variable {P : Program} {ops : Array Oper} {W : World} {N : Nat} {a0 : Act} {d0 s0 : Nat}
def EndAt (P : Program) (ops : Array Oper) (W : World) (N : Nat) (a0 : Act) (d0 s0 : Nat) (φ : Nat → Rel) (Q : Exit → Act → World → Prop) (l : List Oper) : Prop :=
  ∀ V M X, V d0 = V s0 → Goods ops W φ N V M X → (∀ i j d d', i < N → j < N → i ≠ j → dstAt ops i = some d → dstAt ops j = some d' → (X d).heap.size ≤ M d' ∨ (X d').heap.size ≤ M d) →
    ∀ a, Fits N ops a0 (fun j => decide (j < N)) V a → ∀ w, Up W w → (∀ i d, i < N → dstAt ops i = some d → Up (X d) w) → wpList P ops Q l a w
def Rule (P : Program) (ops : Array Oper) (W : World) (N : Nat) (a0 : Act) (d0 : Nat) (φ : Nat → Rel) (i : Nat) : Prop :=
  (dstAt ops i = some d0 → φ i = cpRel) ∧ (dstAt ops i ≠ some d0 → StepAt P ops W N a0 φ i)
theorem flow_table (hok : FlowOk N ops) {Q : Exit → Act → World → Prop} : ∀ (n k : Nat) (l : List Oper) (Γ : List Ent) (a : Act) (φ0 : Nat → Rel), k + n = N → (∀ j, l[j]? = ops[k + j]?) → LexOk ops W N a0 k Γ a φ0 →
    Flow P ops W d0 (flowEnd P ops W d0 s0 Q) n l Γ a → ∃ φ : Nat → Rel, (∀ i, i < k → φ i = φ0 i) ∧ (∀ i, k ≤ i → i < N → Rule P ops W N a0 d0 φ i) ∧ EndAt P ops W N a0 d0 s0 φ Q (l.drop n) := by
  intro n
  induction n with
  | zero =>
    intro k l Γ a φ0 hk _ hlex h
    obtain rfl : k = N := by omega
    refine ⟨φ0, fun _ _ => rfl, fun i h1 h2 => by omega, ?_⟩
    intro V M X hvv hg hdis a' hf w hw hx
    obtain rfl := hf.uniq (hlex.fit V M X hg)
    obtain ⟨g, rfl⟩ := hw.to_gr
    refine h V M X hvv ?_ ?_ g ?_
    · intro e he
      obtain ⟨i, hi, hd, hr⟩ := hlex.ent e he
      rw [hr]; exact hg i _ hi hd
    · intro e he e' he' hne
      obtain ⟨i, hi, hd, hr⟩ := hlex.ent e he
      obtain ⟨j, hj, hd', hr'⟩ := hlex.ent e' he'
      exact hdis i j _ _ hi hj (by rintro rfl; rw [hd] at hd'; exact hne (Option.some.inj hd')) hd hd'
    · intro e he
      obtain ⟨i, hi, hd, hr⟩ := hlex.ent e he
      exact hx i _ hi hd
  | succ n ih =>
    intro k l Γ a φ0 hk hl hlex h
    cases l with
    | nil => exact h.elim
    | cons o l =>
      have ho : ops[k]? = some o := by simpa using (hl 0).symm
      have hsel : ∀ cs b, o.op ≠ .select cs b := fun cs b => Region.noSelect_spec hok.sel k o cs b ho
      obtain ⟨d, hd⟩ := hok.dsts k (by omega)
      have hod : o.dst = some d := by simpa [dstAt, ho] using hd
      have hfar : ∀ e ∈ Γ, e.slot ≠ d := by
        intro e he
        obtain ⟨i, hi, hdi, _⟩ := hlex.ent e he
        rintro rfl
        have := hok.inj i k _ (by omega) (by omega) hdi hd
        omega
      have hl' : ∀ j, l[j]? = ops[k + 1 + j]? := fun j => by have := hl (j + 1); rw [show k + 1 + j = k + (j + 1) from by omega, ← this]; rfl
      have go : ∀ (ψ : Rel) (Γ' : List Ent) (a' : Act), (∀ V M X, Goods ops W (fun i => if i = k then ψ else φ0 i) (k + 1) V M X → fill Γ' V a' = (fill Γ V a).put (some d) (V d)) →
          (∀ e ∈ Γ', e ∈ Γ ∨ e = ⟨d, ψ⟩) → Flow P ops W d0 (flowEnd P ops W d0 s0 Q) n l Γ' a' →
          (d = d0 → ψ = cpRel) → (d ≠ d0 → ∀ V M X, Goods ops W φ0 k V M X → ∀ w, Up W w → (∀ j d, j < k → dstAt ops j = some d → d ∈ o.looksAt ops → Up (X d) w) → stepUp P ops o (fill Γ V a) w (fun v w' => Up w w' ∧ ψ v w.heap.size w')) →
          ∃ φ : Nat → Rel, (∀ i, i < k → φ i = φ0 i) ∧ (∀ i, k ≤ i → i < N → Rule P ops W N a0 d0 φ i) ∧ EndAt P ops W N a0 d0 s0 φ Q ((o :: l).drop (n + 1)) := by
        intro ψ Γ' a' hfill hΓ' hflow hcp hstep
        have hlex' : LexOk ops W N a0 (k + 1) Γ' a' (fun i => if i = k then ψ else φ0 i) := by
          refine ⟨fun V M X hg => ?_, fun e he => ?_⟩
          · rw [hfill V M X hg]
            have hg0 : Goods ops W φ0 k V M X := hg.congr (by omega) (fun i hi => by rw [if_neg (by omega)])
            exact (hlex.fit V M X hg0).put (V' := V) (by omega) hd (by intro j; simp; omega) (fun _ _ => rfl)
          · rcases hΓ' e he with he | rfl
            · obtain ⟨i, hi, hdi, hr⟩ := hlex.ent e he
              exact ⟨i, by omega, hdi, by rw [if_neg (by omega)]; exact hr⟩
            · exact ⟨k, by omega, hd, by rw [if_pos rfl]⟩
        obtain ⟨φ, h1, h2, h3⟩ := ih (k + 1) l Γ' a' _ (by omega) hl' hlex' hflow
        refine ⟨φ, fun i hi => by rw [h1 i (by omega), if_neg (by omega)], ?_, h3⟩
        intro i hi hiN
        by_cases hik : i = k
        · subst hik
          have hφ : φ i = ψ := by rw [h1 i (by omega), if_pos rfl]
          refine ⟨fun hdd => by rw [hd] at hdd; rw [hφ]; exact hcp (Option.some.inj hdd), fun hdd => ?_⟩
          have hdd' : d ≠ d0 := fun e => hdd (by rw [hd, e])
          intro o' ho' V M X hg a1 hf w hw hx
          rw [ho] at ho'; cases ho'
          have hg0 : Goods ops W φ0 i V M X := hg.congr (Nat.le_refl _) (fun j hj => by rw [h1 j (by omega), if_neg (by omega)])
          obtain rfl := hf.uniq (hlex.fit V M X hg0)
          rw [hφ]
          exact hstep hdd' V M X hg0 w hw hx
        · exact h2 i (by omega) hiN
      have exact_case : d ≠ d0 → ∀ c, (∀ e ∈ Γ, e.slot ∉ o.looksAt ops) → Flow P ops W d0 (flowEnd P ops W d0 s0 Q) n l Γ (a.put o.dst c) → (∀ w, Up W w → stepUp P ops o a w (fun v w' => Up w w' ∧ v = c)) →
          ∃ φ : Nat → Rel, (∀ i, i < k → φ i = φ0 i) ∧ (∀ i, k ≤ i → i < N → Rule P ops W N a0 d0 φ i) ∧ EndAt P ops W N a0 d0 s0 φ Q ((o :: l).drop (n + 1)) := by
        intro hnd c hΓ hflow hstep
        refine go (fun v _ _ => v = c) Γ (a.put o.dst c) ?_ (fun e he => .inl he) hflow (fun e => absurd e hnd) (fun _ => ?_)
        · intro V M X hg
          have hc : V d = c := by have := (hg k d (by omega) hd).1; simpa using this
          rw [hod, fill_put hfar, hc]
        · intro V M X hg w hw _
          obtain ⟨e1, e2, e3⟩ := fill_sees (ops := ops) (V := V) (a := a) hsel hΓ
          exact stepUp_congr (hstep w hw) e1.symm e2.symm e3.symm
      rcases h with ⟨hcd, h⟩ | ⟨hncd, h⟩
      · rw [hod] at hcd
        obtain rfl := Option.some.inj hcd
        exact go cpRel (⟨d, cpRel⟩ :: Γ) a (fun V M X _ => rfl) (fun e he => by rcases List.mem_cons.1 he with rfl | he; exact .inr rfl; exact .inl he) h (fun _ => rfl) (fun e => absurd rfl e)
      have hnd : d ≠ d0 := fun e => hncd (by rw [hod, e])
      rcases h with ⟨hΓ, h⟩ | ⟨c, hΓ, hs, h⟩ | ⟨d', ψ, hd', hs, h⟩
      · split at h
        · rename_i hw
          obtain ⟨hp, v, hq, hflow⟩ := h
          refine exact_case hnd v hΓ hflow fun w hW => ?_
          unfold stepUp
          rw [if_pos hw]
          obtain ⟨g, rfl⟩ := hW.to_gr
          have h1 := hq _ ⟨g, rfl⟩
          unfold Oper.quietAt at h1
          have hne := fun f args w' => plain_not_enter (P := P) (ρ := a.eval) (o := o) (w := gr W g) (w' := w') (f := f) (args := args) hp
          generalize (execOp a.eval o).run P (gr W g) = r at *
          cases r with
          | ok m w' =>
            cases m <;> simp only [Oper.quietUpon] at h1 <;> simp only [opUpon]
            case value u => obtain ⟨rfl, rfl⟩ := h1; exact ⟨u, .inl rfl, Up.refl _, rfl⟩
            case skip => obtain ⟨rfl, rfl⟩ := h1; exact ⟨undef, .inl rfl, Up.refl _, rfl⟩
            case enter f args => exact absurd rfl (hne f args w')
          | halt x w' => simp only [Oper.quietUpon] at h1
        · rename_i hw
          refine exact_case hnd undef hΓ h fun w hW => ?_
          unfold stepUp
          rw [if_neg hw]
          exact ⟨undef, .inl rfl, Up.refl _, rfl⟩
      · refine exact_case hnd c hΓ h fun w hW => ?_
        obtain ⟨g, rfl⟩ := hW.to_gr
        exact stepUp_of_list hod fun K hK => hs g K fun w' hu => hK c w' ⟨hu, rfl⟩
      · rw [hod] at hd'
        obtain rfl := Option.some.inj hd'
        refine go ψ (⟨d, ψ⟩ :: Γ) a (fun V M X _ => rfl) (fun e he => by rcases List.mem_cons.1 he with rfl | he; exact .inr rfl; exact .inl he) h (fun e => absurd e hnd) (fun _ => ?_)
        intro V M X hg w hw hx
        obtain ⟨g, rfl⟩ := hw.to_gr
        refine stepUp_of_list hod fun K hK => hs V M X ?_ g ?_ K fun v w' hu hv => hK v w' ⟨hu, hv⟩
        · intro e he
          obtain ⟨i, hi, hdi, hr⟩ := hlex.ent e he
          have := hg i _ hi hdi
          rw [hr]; exact ⟨this.1, this.2.1⟩
        · intro e he hlk
          obtain ⟨i, hi, hdi, hr⟩ := hlex.ent e he
          exact hx i _ hi hdi hlk
theorem goods_exist (hok : FlowOk N ops) {φ : Nat → Rel} (hst : ∀ i, i < N → Rule P ops W N a0 d0 φ i) : ∀ k, k ≤ N → ∃ V M X T, Goods ops W φ k V M X ∧ Up W T ∧ ∀ i d, i < k → dstAt ops i = some d → Up (X d) T
  | 0, _ => ⟨fun _ => undef, fun _ => 0, fun _ => W, W, fun i d hi => by omega, Up.refl _, fun i d hi => by omega⟩
  | k + 1, hk => by
    obtain ⟨V, M, X, T, hg, hT, hx⟩ := goods_exist hok hst k (by omega)
    obtain ⟨d, hd⟩ := hok.dsts k (by omega)
    obtain ⟨o, ho⟩ : ∃ o, ops[k]? = some o := by
      unfold dstAt at hd
      cases h : ops[k]? with
      | none => rw [h] at hd; cases hd
      | some o => exact ⟨o, rfl⟩
    obtain ⟨a, ha⟩ := Fits.exist (a0 := a0) hok V k (by omega)
    obtain ⟨v, w', hu, hv⟩ : ∃ v w', Up T w' ∧ φ k v T.heap.size w' := by
      by_cases h0 : dstAt ops k = some d0
      · exact ⟨undef, T, Up.refl _, by rw [(hst k (by omega)).1 h0]; trivial⟩
      · exact stepUp_exists ((hst k (by omega)).2 h0 o ho V M X hg a ha T hT (fun j d' hj hd' _ => hx j d' hj hd'))
    have hne : ∀ i d', i < k → dstAt ops i = some d' → d' ≠ d := by
      rintro i d' hi hd' rfl
      have := hok.inj i k _ (by omega) (by omega) hd' hd
      omega
    refine ⟨fun s => if s = d then v else V s, fun s => if s = d then T.heap.size else M s, fun s => if s = d then w' else X s, w', ?_, hT.trans hu, ?_⟩
    · intro i d' hi hd'
      by_cases hik : i = k
      · subst hik
        rw [hd] at hd'; cases hd'
        simp only [if_true]
        exact ⟨hv, hT.trans hu, hT.size⟩
      · have := hne i d' (by omega) hd'
        simp only [if_neg this]
        exact hg i d' (by omega) hd'
    · intro i d' hi hd'
      by_cases hik : i = k
      · subst hik
        rw [hd] at hd'; cases hd'
        simp only [if_true]
        exact Up.refl _
      · have := hne i d' (by omega) hd'
        simp only [if_neg this]
        exact (hx i d' (by omega) hd').trans hu

theorem run_flow (hok : FlowOk N ops) {φ : Nat → Rel} (hst : ∀ i, i < N → Rule P ops W N a0 d0 φ i) (hcp : ∀ i o, i < N → ops[i]? = some o → o.dst = some d0 → o.op = .assign (.tmp s0) ∧ o.guard = none) (hs0 : ∃ j, j < N ∧ dstAt ops j = some s0) (hds : d0 ≠ s0) (hsz0 : s0 < a0.tmps.size) {Q : Exit → Act → World → Prop} {l2 : List Oper} (hl2 : ∀ j, l2[j]? = ops[N + j]?) (hlen : N + l2.length = ops.size)
    (hend : EndAt P ops W N a0 d0 s0 φ Q l2) : ∀ (fuel : Nat) (listed : Array Bool) (V : Nat → Value) (M : Nat → Nat) (X : Nat → World) (a : Act) (w : World), listed.size = ops.size → ClosedL ops listed →
    (∀ k, N ≤ k → k < ops.size → listed.getD k true = false) → V d0 = V s0 → Goods ops W φ N V M X → (∀ i d, i < N → listed.getD i true = true → dstAt ops i = some d → Up (X d) w) →
    (∀ i j d d', i < N → j < N → i ≠ j → listed.getD i true = true → listed.getD j true = true → dstAt ops i = some d → dstAt ops j = some d' → (X d).heap.size ≤ M d' ∨ (X d').heap.size ≤ M d) →
    Fits N ops a0 (fun i => listed.getD i true) V a → Up W w → leftN listed ops.size ≤ fuel → wpAny P .any ops Q fuel listed a w := by
  intro fuel
  induction fuel with
  | zero =>
    intro listed V M X a w hsz hcl htl hvv hg hx hdis hf hw hleft
    -- nothing is left: then no flow op is unlisted, and there is no tail
    have hall : ∀ n, n ≤ ops.size → ∀ i, i < n → listed.getD i true = true := by
      intro n hn i hi
      have key : ∀ n, leftN listed n = 0 → ∀ i, i < n → listed.getD i true = true := by
        intro n
        induction n with
        | zero => intro _ i hi; omega
        | succ n ih =>
          intro h i hi
          unfold leftN at h
          have h1 : listed.getD n true = true := by
            cases hb : listed.getD n true with
            | true => rfl
            | false => rw [hb] at h; simp at h
          rcases Nat.lt_or_ge i n with h2 | h2
          · exact ih (by omega) i h2
          · rw [show i = n by omega]; exact h1
      exact key ops.size (by omega) i (by omega)
    have hNs : ops.size = N := by
      have := hok.le
      by_cases h : N < ops.size
      · have h1 := htl N (Nat.le_refl _) h
        rw [hall ops.size (Nat.le_refl _) N h] at h1; cases h1
      · omega
    have hl0 : l2 = [] := List.eq_nil_of_length_eq_zero (by omega)
    refine run_tail hok l2 N listed a w 0 hl2 (Nat.le_refl _) hlen hsz (fun j hj => by rw [hall ops.size (Nat.le_refl _) j hj]; simp; omega) (by rw [hl0]; simp) ?_
    refine hend V M X hvv hg (fun i j d d' hi hj hne h1 h2 => hdis i j d d' hi hj hne (hall _ (Nat.le_refl _) i (by omega)) (hall _ (Nat.le_refl _) j (by omega)) h1 h2) a ?_ w hw
      (fun i d hi hd => hx i d hi (hall _ (Nat.le_refl _) i (by omega)) hd)
    refine ⟨hf.1, fun s => (hf.2 s).trans ?_⟩
    have hex : (∃ j, j < N ∧ listed.getD j true = true ∧ dstAt ops j = some s) ↔ (∃ j, j < N ∧ decide (j < N) = true ∧ dstAt ops j = some s) :=
      ⟨fun ⟨j, h1, h2, h3⟩ => ⟨j, h1, by simpa using h1, h3⟩, fun ⟨j, h1, h2, h3⟩ => ⟨j, h1, hall _ (Nat.le_refl _) j (by omega), h3⟩⟩
    simp only [hex]
  | succ fuel ih =>
    intro listed V M X a w hsz hcl htl hvv hg hx hdis hf hw hleft
    have hle := hok.le
    by_cases hall : ∀ i, i < N → listed.getD i true = true
    · have hpre : ∀ j, j < ops.size → listed.getD j true = decide (j < N) := by
        intro j hj
        rcases Nat.lt_or_ge j N with h | h
        · rw [hall j h]; simp [h]
        · rw [htl j h hj]; simp; omega
      have hcount : ∀ n, n ≤ ops.size → N ≤ n → leftN listed n = leftN listed N + (n - N) := by
        intro n
        induction n with
        | zero => intro _ h; have : N = 0 := by omega
                  subst this; simp
        | succ n ihn =>
          intro h1 h2
          by_cases h3 : N = n + 1
          · subst h3; simp
          · have e1 : leftN listed (n + 1) = leftN listed n + if listed.getD n true then 0 else 1 := rfl
            rw [e1, ihn (by omega) (by omega), htl n (by omega) (by omega)]
            simp only [Bool.false_eq_true, if_false]; omega
      have hc := hcount ops.size (Nat.le_refl _) hle
      refine run_tail hok l2 N listed a w (fuel + 1) hl2 (Nat.le_refl _) hlen hsz hpre (by omega) ?_
      refine hend V M X hvv hg (fun i j d d' hi hj hne h1 h2 => hdis i j d d' hi hj hne (hall i hi) (hall j hj) h1 h2) a ?_ w hw (fun i d hi hd => hx i d hi (hall i hi) hd)
      refine ⟨hf.1, fun s => (hf.2 s).trans ?_⟩
      have hex : (∃ j, j < N ∧ listed.getD j true = true ∧ dstAt ops j = some s) ↔ (∃ j, j < N ∧ decide (j < N) = true ∧ dstAt ops j = some s) :=
        ⟨fun ⟨j, h1, h2, h3⟩ => ⟨j, h1, by simpa using h1, h3⟩, fun ⟨j, h1, h2, h3⟩ => ⟨j, h1, hall j h1, h3⟩⟩
      simp only [hex]
    · -- some are left: the least of them may come up
      have hleast : ∃ k, k < N ∧ listed.getD k true = false ∧ ∀ j, j < k → listed.getD j true = true := by
        have key : ∀ n, (∃ i, i < n ∧ listed.getD i true = false) → ∃ k, k < n ∧ listed.getD k true = false ∧ ∀ j, j < k → listed.getD j true = true := by
          intro n
          induction n with
          | zero => rintro ⟨i, hi, _⟩; omega
          | succ n ihn =>
            intro hex
            by_cases h1 : ∃ i, i < n ∧ listed.getD i true = false
            · obtain ⟨k, hk, h2, h3⟩ := ihn h1; exact ⟨k, by omega, h2, h3⟩
            · obtain ⟨i, hi, h2⟩ := hex
              have hin : i = n := by
                by_cases h : i < n
                · exact absurd ⟨i, h, h2⟩ h1
                · omega
              subst hin
              refine ⟨i, hi, h2, fun j hj => ?_⟩
              cases hb : listed.getD j true with
              | true => rfl
              | false => exact absurd ⟨j, hj, hb⟩ h1
        refine key N ?_
        refine Classical.byContradiction fun hno => hall fun i hi => ?_
        cases hb : listed.getD i true with
        | true => rfl
        | false => exact absurd ⟨i, hi, hb⟩ hno
      obtain ⟨k0, hk0, hk1, hk2⟩ := hleast
      have hk0f : listed.getD k0 false = false := by rw [getD_tf (by omega) false true]; exact hk1
      obtain ⟨o0, ho0⟩ : ∃ o, ops[k0]? = some o := ⟨_, Array.getElem?_eq_getElem (by omega)⟩
      have hr0 : k0 ∈ Region.ready .any ops listed := mem_ready.2 ⟨hk1, o0, ho0, fun e he hb => by
        have := hok.back k0 o0 ho0 e he hb
        rw [getD_tf (by omega) false true]; exact hk2 _ this⟩
      refine ⟨(fun h0 => by rw [h0] at hr0; cases hr0), fun i hi => ?_⟩
      obtain ⟨hiu, o, ho, hiall⟩ := mem_ready.1 hi
      have his : i < ops.size := (Array.getElem?_eq_some_iff.1 ho).1
      have hiN : i < N := by
        by_cases h : N ≤ i
        · exact absurd hi (not_ready hcl hk0f (hok.tail i k0 h his (by omega)))
        · omega
      obtain ⟨d, hd⟩ := hok.dsts i hiN
      have hod : o.dst = some d := by simpa [dstAt, ho] using hd
      have hsel : ∀ cs b, o.op ≠ .select cs b := fun cs b => Region.noSelect_spec hok.sel i o cs b ho
      obtain ⟨al, hal⟩ := Fits.exist (a0 := a0) hok V i (by omega)
      have hgi : Goods ops W φ i V M X := hg.congr (by omega) (fun _ _ => rfl)
      have hdep : ∀ j d', j < N → dstAt ops j = some d' → d' ∈ o.looksAt ops → j < i ∧ listed.getD j true = true := by
        intro j d' hj hd' hlk
        obtain ⟨h1, e, he, hb, heq⟩ := hok.looks i o j d' hiN hj ho hd' hlk
        refine ⟨h1, ?_⟩
        have := hiall e he hb
        rw [heq] at this
        rw [getD_tf (by omega) true false]; exact this
      obtain ⟨e1, e2⟩ := hal.sees hf hsel (fun j d' hj hd' hlk => by
        have := hdep j d' hj hd' hlk
        simp [this.1, this.2])
      have e3 : al.tmps.size = a.tmps.size := by
        have h1 := fun s => congrArg Option.isSome (hal.2 s)
        have h2 := fun s => congrArg Option.isSome (hf.2 s)
        simp only [Option.isSome_map] at h1 h2
        have h3 : ∀ s, s < al.tmps.size ↔ s < a.tmps.size := by
          intro s
          have h4 := (h1 s).trans (h2 s).symm
          by_cases h5 : s < al.tmps.size <;> by_cases h6 : s < a.tmps.size
          · exact ⟨fun _ => h6, fun _ => h5⟩
          · rw [Array.getElem?_eq_getElem h5, Array.getElem?_eq_none (by omega)] at h4; cases h4
          · rw [Array.getElem?_eq_getElem h6, Array.getElem?_eq_none (by omega)] at h4; cases h4
          · exact ⟨fun h => absurd h h5, fun h => absurd h h6⟩
        rcases Nat.lt_trichotomy al.tmps.size a.tmps.size with h | h | h
        · have := (h3 al.tmps.size).2 h; omega
        · exact h
        · have := (h3 a.tmps.size).1 h; omega
      have hs1 : stepUp P ops o a w (fun v w' => Up w w' ∧ φ i v w.heap.size w' ∧ (d = d0 → v = V s0)) := by
        by_cases h0 : d = d0
        · have hd0 : dstAt ops i = some d0 := by rw [hd, h0]
          obtain ⟨hop, hgd⟩ := hcp i o hiN ho (by rw [hod, h0])
          obtain ⟨j, hj, hdj⟩ := hs0
          have hlk : s0 ∈ o.looksAt ops := List.mem_append_left _ (List.mem_filterMap.2 ⟨.tmp s0, by simp [Op.operands, hop], rfl⟩)
          have hlj := (hdep j s0 hj hdj hlk).2
          have hval : a.tmps[s0]? = some (V s0) := by
            rw [hf.2 s0, Array.getElem?_eq_getElem hsz0]
            simp only [Option.map_some]
            rw [if_pos ⟨j, hj, hlj, hdj⟩]
          have hev : a.eval (.tmp s0) = V s0 := by
            show a.tmps.getD s0 undef = V s0
            rw [Array.getD_eq_getD_getElem?, hval]; rfl
          unfold stepUp
          rw [if_pos (by simp [Region.wanted, hgd])]
          have hrun : (execOp a.eval o).run P w = .ok (.value (V s0)) w := by
            rw [← hev]
            unfold execOp
            rw [hop]
            rfl
          rw [hrun]
          exact ⟨V s0, .inl rfl, Up.refl _, by rw [(hst i hiN).1 hd0]; trivial, fun _ => rfl⟩
        · have hn0 : dstAt ops i ≠ some d0 := by rw [hd]; intro e; exact h0 (Option.some.inj e)
          have hs2 := (hst i hiN).2 hn0 o ho V M X hgi al hal w hw (fun j d' hj hd' hlk => hx j d' (by omega) (hdep j d' (by omega) hd' hlk).2 hd')
          exact stepUp_mono (fun v w' h => ⟨h.1, h.2, fun e => absurd e h0⟩) (stepUp_congr hs2 e1 e2 e3)
      refine stepUp_op ho hs1 ?_
      rintro v w' ⟨hu, hv, hvd⟩
      rw [hod]
      have hne : ∀ j d', j < N → j ≠ i → dstAt ops j = some d' → d' ≠ d := by
        rintro j d' hj hji hd' rfl
        exact hji (hok.inj j i _ hj hiN hd' hd)
      have hget : ∀ j, j < ops.size → (listed.setIfInBounds i true).getD j true = true → j = i ∨ listed.getD j true = true := by
        intro j hj h
        by_cases hji : i = j
        · exact .inl hji.symm
        · rw [getD_set_ne true hji] at h; exact .inr h
      refine ih (listed.setIfInBounds i true) (fun s => if s = d then v else if s = d0 ∧ d = s0 then v else V s) (fun s => if s = d then w.heap.size else M s) (fun s => if s = d then w' else X s) _ w' (by simpa using hsz) (hcl.set hi) ?_ ?_ ?_ ?_ ?_ ?_ (hw.trans hu) ?_
      · intro k hk hks
        rw [getD_set_ne true (by omega)]; exact htl k hk hks
      · by_cases h1 : d = d0
        · have hne0 : s0 ≠ d := by rw [h1]; exact Ne.symm hds
          simp only [h1, if_true]
          rw [if_neg (by rw [← h1]; exact hne0), if_neg (by rintro ⟨e, _⟩; exact hds e.symm)]
          exact hvd h1
        · by_cases h2 : d = s0
          · simp only [h2, if_true, and_self, if_neg hds]
          · simp only [if_neg (Ne.symm h1), if_neg (Ne.symm h2), h2, and_false, if_false]
            exact hvv
      · intro j d' hj hd'
        by_cases hji : j = i
        · subst hji
          rw [hd] at hd'; cases hd'
          simp only [if_true]
          exact ⟨hv, hw.trans hu, hw.size⟩
        · simp only [if_neg (hne j d' hj hji hd')]
          by_cases h5 : d' = d0 ∧ d = s0
          · have := hg j d' hj hd'
            rw [(hst j hj).1 (by rw [hd', h5.1])] at this ⊢
            exact ⟨trivial, this.2⟩
          · simp only [if_neg h5]
            exact hg j d' hj hd'
      · intro j d' hj hlj hd'
        by_cases hji : j = i
        · subst hji
          rw [hd] at hd'; cases hd'
          simp only [if_true]
          exact Up.refl _
        · simp only [if_neg (hne j d' hj hji hd')]
          exact (hx j d' hj ((hget j (by omega) hlj).resolve_left hji) hd').trans hu
      · intro j k d1 d2 hj hk hjk hlj hlk h1 h2
        by_cases hji : j = i
        · subst hji
          rw [hd] at h1; cases h1
          have hkj : k ≠ j := Ne.symm hjk
          simp only [if_true, if_neg (hne k d2 hk hkj h2)]
          exact .inr (hx k d2 hk ((hget k (by omega) hlk).resolve_left hkj) h2).size
        · by_cases hki : k = i
          · subst hki
            rw [hd] at h2; cases h2
            simp only [if_true, if_neg (hne j d1 hj hji h1)]
            exact .inl (hx j d1 hj ((hget j (by omega) hlj).resolve_left hji) h1).size
          · simp only [if_neg (hne j d1 hj hji h1), if_neg (hne k d2 hk hki h2)]
            exact hdis j k d1 d2 hj hk hjk ((hget j (by omega) hlj).resolve_left hji) ((hget k (by omega) hlk).resolve_left hki) h1 h2
      · have hf2 : Fits N ops a0 (fun i => listed.getD i true) (fun s => if s = d then V s else if s = d0 ∧ d = s0 then v else V s) a := by
          refine hf.congr fun j d' hj hlj hd' => ?_
          by_cases h6 : d' = d
          · simp only [if_pos h6]
          · simp only [if_neg h6]
            by_cases h5 : d' = d0 ∧ d = s0
            · exfalso
              obtain ⟨oj, hoj⟩ : ∃ oj, ops[j]? = some oj := ⟨_, Array.getElem?_eq_getElem (by omega)⟩
              have hoj2 : oj.dst = some d0 := by have := hd'; simp only [dstAt, hoj, Option.bind_some] at this; rw [this, h5.1]
              obtain ⟨hop, _⟩ := hcp j oj hj hoj hoj2
              have hlk : d ∈ oj.looksAt ops := List.mem_append_left _ (List.mem_filterMap.2 ⟨.tmp s0, by simp [Op.operands, hop], by rw [h5.2]⟩)
              obtain ⟨_, e, he, hb, heq⟩ := hok.looks j oj i d hj hiN hoj hd hlk
              have h7 := hcl j oj hoj hlj (by omega) e he hb
              rw [heq, getD_tf (by omega) false true, hiu] at h7
              cases h7
            · simp only [if_neg h5]
        have := hf2.put (S' := fun j => (listed.setIfInBounds i true).getD j true) (V' := fun s => if s = d then v else if s = d0 ∧ d = s0 then v else V s) hiN hd (by
          intro j
          by_cases hji : i = j
          · subst hji; simp [Array.getD_eq_getD_getElem?, show i < listed.size by omega]
          · rw [getD_set_ne true hji]; simp; intro h; exact absurd h.symm hji) (by intro s hs; simp [hs])
        simpa using this
      · have := leftN_set hiu ops.size
        rw [if_pos his] at this
        omega

/-- THE RULE -/
def copyB (N : Nat) (l : List Oper) (d0 s0 : Nat) : Bool :=
  ((l.take N).all fun o => o.dst != some d0 || (match o.op with | .assign (.tmp s) => s == s0 | _ => false) && o.guard.isNone) && ((l.take N).any fun o => o.dst == some s0) && d0 != s0
theorem wp_region_flow {id : Nat} {l : List Oper} {Q : Exit → Act → World → Prop} {a : Act} {w : World} (N d0 s0 : Nat) (hm : P.follows .mixedOrders = true) (hB : flowB N l = true) (hC : copyB N l d0 s0 = true) (hsz0 : s0 < a.tmps.size)
    (h : Flow P l.toArray w d0 (flowEnd P l.toArray w d0 s0 Q) N l [] a) : (Code.region id l.toArray true).wp P Q a w := by
  have hok := flowB_spec hB
  have hN : N ≤ l.length := by simpa using hok.le
  obtain ⟨φ, _, hst, hend⟩ := flow_table (a0 := a) hok N 0 l [] a (fun _ _ _ _ => True) (by omega) (by simp) ⟨fun V M X _ => by have := Fits.none (N := N) (ops := l.toArray) (a0 := a) V; simpa [fill] using this, by simp⟩ h
  refine wp_region_any hm ?_
  obtain ⟨V0, M, X, T, hg0, _, _⟩ := goods_exist hok (fun i hi => hst i (Nat.zero_le _) hi) N (Nat.le_refl _)
  simp only [copyB, Bool.and_eq_true, List.all_eq_true, List.any_eq_true, bne_iff_ne, beq_iff_eq, Bool.or_eq_true] at hC
  obtain ⟨⟨hc1, o1, ho1, hc2⟩, hds⟩ := hC
  have hcp : ∀ i o, i < N → l.toArray[i]? = some o → o.dst = some d0 → o.op = .assign (.tmp s0) ∧ o.guard = none := by
    intro i o hi ho hd
    have hmem : o ∈ l.take N := List.mem_of_getElem? (i := i) (by rw [List.getElem?_take_of_lt hi]; simpa using ho)
    rcases hc1 o hmem with h1 | ⟨h1, h2⟩
    · exact absurd hd h1
    · refine ⟨?_, by simpa using h2⟩
      split at h1
      · rename_i s hs; rw [hs, beq_iff_eq.1 h1]
      · cases h1
  have hs0 : ∃ j, j < N ∧ dstAt l.toArray j = some s0 := by
    obtain ⟨j, hj, e⟩ := List.mem_iff_getElem.1 ho1
    rw [List.length_take] at hj
    rw [List.getElem_take] at e
    refine ⟨j, by omega, ?_⟩
    simp only [dstAt, List.getElem?_toArray]
    rw [List.getElem?_eq_getElem (by omega), e]; exact hc2
  obtain ⟨V, hvv, hg⟩ : ∃ V : Nat → Value, V d0 = V s0 ∧ Goods l.toArray w φ N V M X := by
    refine ⟨fun s => if s = d0 then V0 s0 else V0 s, by simp [Ne.symm hds], ?_⟩
    intro i d hi hd
    have h1 := hg0 i d hi hd
    by_cases h2 : d = d0
    · rw [(hst i (Nat.zero_le _) hi).1 (by rw [hd, h2])]
      exact ⟨trivial, h1.2⟩
    · simp only [if_neg h2]; exact h1
  have hun : ∀ i, i < l.length → (Array.replicate l.toArray.size false).getD i true = false := by
    intro i hi
    simp [Array.getD_eq_getD_getElem?, hi]
  refine run_flow hok (fun i hi => hst i (Nat.zero_le _) hi) hcp hs0 hds hsz0 (l2 := l.drop N) (by intro j; simp) (by simp; omega) hend _ _ V M X a _ (by simp) ?_ ?_ hvv hg ?_ ?_ ?_ ?_ ?_
  · intro j oj hj hl hs
    simp at hs
    rw [hun j hs] at hl; cases hl
  · intro k hk hks
    exact hun k (by simpa using hks)
  · intro i d hi hl
    rw [hun i (by omega)] at hl; cases hl
  · intro i j d d' hi hj hne hl
    rw [hun i (by omega)] at hl; cases hl
  · have := Fits.none (N := N) (ops := l.toArray) (a0 := a) V
    refine ⟨this.1, fun s => ?_⟩
    have hno : ¬ ∃ i, i < N ∧ (Array.replicate l.toArray.size false).getD i true = true ∧ dstAt l.toArray i = some s := by
      rintro ⟨i, hi, hl, _⟩
      rw [hun i (by omega)] at hl; cases hl
    simp only [if_neg hno]
    simp
  · exact ⟨rfl, rfl, rfl, Nat.le_refl _, fun _ _ => rfl⟩
  · have key : ∀ n, n ≤ l.length → leftN (Array.replicate l.toArray.size false) n ≤ n := by
      intro n
      induction n with
      | zero => intro _; simp [leftN]
      | succ n ih => intro h; unfold leftN; have := ih (by omega); split <;> omega
    simpa using key l.length (Nat.le_refl _)
end
end Go.Fc
