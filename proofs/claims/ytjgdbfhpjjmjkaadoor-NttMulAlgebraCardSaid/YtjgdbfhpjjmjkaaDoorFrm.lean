/- What the frames of all laws share: arguments opened to their numbers, the post of a law out of 'nothing that was there has turned'. -/
import Derived.Test.YtjgdbfhpjjmjkaaDoorRows
import Derived.WalkKit
import Derived.ProofKit
import Derived.Below
import Derived.Carry
import Derived.ChangeOld
import Derived.Deep.Draws
import Derived.BigQuiet
import Derived.Deep.QuietTactic
namespace Go.Proofs.YtjgdbfhpjjmjkaaDoor
open Go.ChangeShapes Go.WideShapes Go.ChangeAt Go.RowKit

theorem own : ownKnob Tryd.prog.godebug = none := by kernel_rfl
theorem laidOut : laidOutB Tryd.prog = true := by kernel_rfl

section
variable {P : Program} {w : World} {r : Reach} {base : Nat} {t : TypeId} {v : Value}
theorem int_open {k : IntKind} (ht : P.underlying t = some (.int k)) (h : Value.okWide P w r base t v) : ∃ n, v = .int k n ∧ k.has n := by
  simp only [Value.okWide, ht, Cell.okWide] at h
  cases v <;> simp_all [Cell.ok]
def aggB (P : Program) (t : TypeId) : Bool := match P.underlying t with | some (.struct _) => true | some (.array _ _) => true | _ => false
def intB (P : Program) (k : IntKind) (t : TypeId) : Bool := match P.underlying t with | some (.int k') => k' == k | _ => false
theorem intB_eq {k : IntKind} (h : intB P k t = true) : P.underlying t = some (.int k) := by
  unfold intB at h
  split at h
  · rename_i k' e; rw [e]; simp at h; rw [h]
  · cases h
theorem list_vals {k : IntKind} : ∀ (l : List Value), (∀ v ∈ l, ∃ z, v = .int k z ∧ k.has z) → ∃ zs : List Int, l = zs.map (Value.int k) ∧ ∀ z ∈ zs, k.has z
  | [], _ => ⟨[], rfl, by simp⟩
  | v :: l, h => by
    obtain ⟨z, rfl, hz⟩ := h v (by simp)
    obtain ⟨zs, rfl, hzs⟩ := list_vals l (fun u hu => h u (by simp [hu]))
    exact ⟨z :: zs, rfl, by simpa using ⟨hz, hzs⟩⟩
/-- a struct or an array, all of whose cells are integers of one kind -/
theorem aggs_open {k : IntKind} {ts : List TypeId} {n : Nat} (ha : aggB P t = true) (hts : P.cellTypes P.depth t = some ts) (hall : ts.all (intB P k) = true) (hc : P.cellsOf t = n)
    (h : Value.okWide P w r base t v) : ∃ zs : List Int, zs.length = n ∧ v = .agg (zs.map (Value.int k)).toArray ∧ ∀ z ∈ zs, k.has z := by
  have h' : ∃ cs, v = .agg cs ∧ cs.size = P.cellsOf t ∧ Row.okWide P w r base t cs := by
    unfold Value.okWide at h
    unfold aggB at ha
    split at ha
    · rename_i e; simp only [e] at h; exact h
    · rename_i e; simp only [e] at h; exact h
    · cases ha
  obtain ⟨cs, rfl, hsz, ts', hts', _, hrow⟩ := h'
  rw [hts] at hts'
  obtain rfl := Option.some.inj hts'
  obtain ⟨zs, hz, hzs⟩ := list_vals (k := k) cs.toList (by
    intro u hu
    obtain ⟨i, hi, e⟩ := List.getElem_of_mem hu
    have hi' : cs[i]? = some u := by rw [← Array.getElem?_toList, List.getElem?_eq_getElem hi, e]
    obtain ⟨x, hx, hok⟩ := hrow i u hi'
    have hxm : x ∈ ts := by
      obtain ⟨hl, he⟩ := List.getElem?_eq_some_iff.1 hx
      exact he ▸ List.getElem_mem hl
    have hxi := intB_eq (List.all_eq_true.1 hall x hxm)
    simp only [Cell.okWide, hxi] at hok
    cases u <;> simp_all [Cell.ok])
  refine ⟨zs, ?_, ?_, hzs⟩
  · have := congrArg List.length hz
    simp at this; omega
  · rw [← hz]
end

theorem has_u64 {n : Int} (h : IntKind.u64.has n) : 0 ≤ n ∧ n < 18446744073709551616 := by
  have := h; simp only [IntKind.has, IntKind.min, IntKind.max, IntKind.signed, IntKind.bits] at this; simp at this; omega
theorem has_i64 {n : Int} (h : IntKind.i64.has n) : -9223372036854775808 ≤ n ∧ n ≤ 9223372036854775807 := by
  have := h; simp only [IntKind.has, IntKind.min, IntKind.max, IntKind.signed, IntKind.bits] at this; simp at this; omega
theorem has_u32 {n : Int} (h : IntKind.u32.has n) : 0 ≤ n ∧ n < 4294967296 := by
  have := h; simp only [IntKind.has, IntKind.min, IntKind.max, IntKind.signed, IntKind.bits] at this; simp at this; omega
theorem has_i32 {n : Int} (h : IntKind.i32.has n) : -2147483648 ≤ n ∧ n ≤ 2147483647 := by
  have := h; simp only [IntKind.has, IntKind.min, IntKind.max, IntKind.signed, IntKind.bits] at this; simp at this; omega
theorem has_u8 {n : Int} (h : IntKind.u8.has n) : 0 ≤ n ∧ n ≤ 255 := by
  have := h; simp only [IntKind.has, IntKind.min, IntKind.max, IntKind.signed, IntKind.bits] at this; simp at this; omega
theorem has_u16 {n : Int} (h : IntKind.u16.has n) : 0 ≤ n ∧ n ≤ 65535 := by
  have := h; simp only [IntKind.has, IntKind.min, IntKind.max, IntKind.signed, IntKind.bits] at this; simp at this; omega

section
variable {H : Type} {enc : TypeId × Value → H} {P : Program} {W W' : World}
theorem trodAll_below (hl : laidOutB P = true) : ∀ (ts : List TypeId) (vs : List Value) (ds : List (DataW H)) (ps : List MemPlace), (ts.all fun t => P.readableRec t && decide (t < P.types.size)) = true →
    DataW.TrodAll enc P W 0 (fun _ => true) true ts vs ds ps → Below W.heap.size W W' → DataW.TrodAll enc P W' 0 (fun b => decide (b < W.heap.size)) true ts vs ds ps
  | [], [], [], _, _, h, _ => h
  | t :: ts, v :: vs, d :: ds, ps, hr, h, hb => by
    obtain ⟨p, q, h1, h2, e⟩ := h
    simp only [List.all_cons, Bool.and_eq_true, decide_eq_true_eq] at hr
    refine ⟨p, q, Below.trod hl hr.1.1 hr.1.2 h1 hb ?_, trodAll_below hl ts vs ds q hr.2 h2 hb, e⟩
    obtain ⟨m, hm⟩ := h1
    exact DataW.trod_lt m _ _ _ hm
  | [], [], _ :: _, _, _, h, _ => h.elim
  | [], _ :: _, _, _, _, h, _ => h.elim
  | _ :: _, [], _, _, _, h, _ => h.elim
  | _ :: _, _ :: _, [], _, _, h, _ => h.elim

/-- the post of a law: it returned true, and nothing that was there has turned -/
theorem law_post {f : Func} {s : ChangeSpec} {args : Array Value} {ds gs : List (DataW H)} {before : List MemPlace} {tb : TypeId} (hl : laidOutB P = true)
    (hW : DataW.Whole enc P f.params.toList s.vars false W args.toList ds gs before) (hv : s.vars = []) (hr : (f.params.toList.all fun t => P.readableRec t && decide (t < P.types.size)) = true)
    (hres : f.resultTypes = #[tb]) (hb : P.underlying tb = some .bool)
    (hs : s.fn H (ds ++ gs) = { results := [.lit (.bool true)], args := ds }) (bel : Below W.heap.size W W') :
    s.post enc P f false true false false W args (.bool true) W' := by
  have hW' := hW
  obtain ⟨p, q, hA, hV, rfl, hfz, hnd⟩ := hW
  rw [hv] at hV
  obtain ⟨rfl, rfl⟩ := trodVars_none hV
  refine ⟨_, _, _, [], p, [], hW', ?_, ?_, ?_, bel.frame _, fun h => by cases h⟩
  · rw [hs, hres]
    exact trodAll_mk1 (shut_bool hb true)
  · rw [hs]
    exact trodAll_below hl _ _ _ _ hr hA bel
  · rw [hs, hv]; rfl
end

/- a callee that leaves the world alone, inside a region that draws -/
theorem qs {P : Program} {f : FuncId} {args : Array Value} {w w0 : World} {n : Nat} {v : Value}
    (h : Calls P f args w fun e w' => e = .returned v ∧ w = w') (hw : w = w0.drewN n) : Calls P f args w fun e w'' => e = .returned v ∧ ∃ m, w'' = w0.drewN m :=
  h.mono fun _ _ ⟨he, hm⟩ => ⟨he, n, hm.symm.trans hw⟩
theorem qs2 {P : Program} {f : FuncId} {args : Array Value} {w w0 : World} {n k : Nat} {v : Value}
    (h : Calls P f args w fun e w' => e = .returned v ∧ w = w') (hw : w = w0.drewN (k + n)) : Calls P f args w fun e w'' => e = .returned v ∧ ∃ m, w'' = w0.drewN (k + m) :=
  h.mono fun _ _ ⟨he, hm⟩ => ⟨he, n, hm.symm.trans hw⟩

theorem list1 {α : Type} : ∀ (l : List α), l.length = 1 → ∃ a, l = [a]
  | [a], _ => ⟨a, rfl⟩
theorem list2 {α : Type} : ∀ (l : List α), l.length = 2 → ∃ a b, l = [a, b]
  | [a, b], _ => ⟨a, b, rfl⟩
theorem list3 {α : Type} : ∀ (l : List α), l.length = 3 → ∃ a b c, l = [a, b, c]
  | [a, b, c], _ => ⟨a, b, c, rfl⟩
theorem list4 {α : Type} : ∀ (l : List α), l.length = 4 → ∃ a b c d, l = [a, b, c, d]
  | [a, b, c, d], _ => ⟨a, b, c, d, rfl⟩
theorem list6 {α : Type} : ∀ (l : List α), l.length = 6 → ∃ a b c d e f, l = [a, b, c, d, e, f]
  | [a, b, c, d, e, f], _ => ⟨a, b, c, d, e, f, rfl⟩

/- worlds -/
theorem below_drewN {w w' : World} (h : Below w.heap.size w w') (n : Nat) : Below w.heap.size w (w'.drewN n) := ⟨h.os, h.tape, h.output, h.size, h.block⟩
end Go.Proofs.YtjgdbfhpjjmjkaaDoor
