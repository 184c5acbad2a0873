/- Steps of a flow: what an operand holds; calls whose arguments are told by properties. (Of whatever package.) -/
import Derived.Test.YtjgdbfhpjjmjkaaDoorFk
import Derived.Test.YtjgdbfhpjjmjkaaDoorGb
namespace Go.Proofs.YtjgdbfhpjjmjkaaDoor
open Go.RowKit Att Att.CRing

theorem fill_size (V : Nat → Value) (a : Act) : ∀ Γ : List Ent, (fill Γ V a).tmps.size = a.tmps.size
  | [] => rfl
  | e :: Γ => by unfold fill; simp only [Act.put, Array.size_setIfInBounds]; exact fill_size V a Γ
theorem fill_mem {V : Nat → Value} {a : Act} {s : Nat} (hs : s < a.tmps.size) : ∀ {Γ : List Ent}, (∃ e ∈ Γ, e.slot = s) → (fill Γ V a).eval (.tmp s) = V s
  | [], h => by obtain ⟨e, he, _⟩ := h; cases he
  | e :: Γ, h => by
    show ((fill Γ V a).tmps.setIfInBounds e.slot (V e.slot)).getD s undef = V s
    by_cases hse : e.slot = s
    · rw [hse, Array.getD_eq_getD_getElem?, Array.getElem?_setIfInBounds_self]
      simp [fill_size, hs]
    · rw [Array.getD_eq_getD_getElem?, Array.getElem?_setIfInBounds_ne hse, ← Array.getD_eq_getD_getElem?]
      obtain ⟨e', he, hs'⟩ := h
      rcases List.mem_cons.1 he with rfl | he
      · exact absurd hs' hse
      · exact fill_mem hs ⟨e', he, hs'⟩
theorem fill_else {V : Nat → Value} {a : Act} {s : Nat} : ∀ {Γ : List Ent}, (Γ.all fun e => e.slot != s) = true → (fill Γ V a).eval (.tmp s) = a.eval (.tmp s)
  | [], _ => rfl
  | e :: Γ, h => by
    simp only [List.all_cons, Bool.and_eq_true, bne_iff_ne] at h
    show ((fill Γ V a).tmps.setIfInBounds e.slot (V e.slot)).getD s undef = _
    rw [Array.getD_eq_getD_getElem?, Array.getElem?_setIfInBounds_ne h.1, ← Array.getD_eq_getD_getElem?]
    exact fill_else h.2

/-- whether the guard's slot is not told by a property -/
def guardOut (ops : Array Oper) (o : Oper) (Γ : List Ent) : Bool :=
  match o.guard with
  | some (g, _) => match (ops[g]?).bind (·.dst) with
    | some t => Γ.all fun e => e.slot != t
    | none => true
  | none => true
theorem want_fill {ops : Array Oper} {o : Oper} {Γ : List Ent} {a : Act} (h : guardOut ops o Γ = true) (hw : Region.wanted o (yielded ops a.tmps) = true) : ∀ V, Region.wanted o (yielded ops (fill Γ V a).tmps) = true := by
  intro V
  rw [← hw]
  unfold guardOut at h
  unfold Region.wanted
  cases hg : o.guard with
  | none => rfl
  | some gw =>
    obtain ⟨g, want⟩ := gw
    rw [hg] at h
    simp only at h ⊢
    have hy : yielded ops (fill Γ V a).tmps g = yielded ops a.tmps g := by
      unfold yielded
      cases ht : (ops[g]?).bind (·.dst) with
      | none => rfl
      | some t =>
        rw [ht] at h
        simp only at h
        have e : (fill Γ V a).tmps.getD t undef = a.tmps.getD t undef := fill_else h
        have sz : ∀ (b c : Array Value), b.size = c.size → b.getD t undef = c.getD t undef → b[t]? = c[t]? := by
          intro b c h1 h2
          rw [Array.getD_eq_getD_getElem?, Array.getD_eq_getD_getElem?] at h2
          by_cases hb : t < b.size
          · have hc : t < c.size := h1 ▸ hb
            rw [Array.getElem?_eq_getElem hb, Array.getElem?_eq_getElem hc] at h2 ⊢
            simp only [Option.getD_some] at h2
            rw [h2]
          · rw [Array.getElem?_eq_none (Nat.le_of_not_lt hb), Array.getElem?_eq_none (h1 ▸ Nat.le_of_not_lt hb)]
        simp only [Option.bind_some, sz _ _ (fill_size V a Γ) e]
    simp only [hy]
/- ───── arguments ───── -/
/-- what an operand holds whenever the operation runs -/
def Arg (ops : Array Oper) (W : World) (o : Oper) (Γ : List Ent) (a : Act) (x : Operand) (R : Value → World → Prop) : Prop :=
  ∀ (V : Nat → Value) (N : Nat → Nat) (X : Nat → World), (∀ e ∈ Γ, e.rel (V e.slot) (N e.slot) (X e.slot) ∧ Up W (X e.slot)) → ∀ w, Up W w → (∀ e ∈ Γ, e.slot ∈ o.looksAt ops → Up (X e.slot) w) → R ((fill Γ V a).eval x) w
def isV (c v : Value) (_ : World) : Prop := v = c
section
variable {ops : Array Oper} {W : World} {o : Oper} {Γ : List Ent} {a : Act}
/-- a value that the frame holds -/
theorem arg_v {c : Value} {s : Nat} (h : (Γ.all fun e => e.slot != s) = true) (hc : a.eval (.tmp s) = c) : Arg ops W o Γ a (.tmp s) (isV c) := by
  intro V N X _ w _ _
  exact (fill_else h).trans hc
theorem arg_c {c : Value} : Arg ops W o Γ a (.const c) (isV c) := fun _ _ _ _ _ _ _ => rfl
end

/- ───── calls ───── -/
/-- a step whose value is told by a property, as a fact that does not unfold -/
structure ExS (P : Program) (ops : Array Oper) (W : World) (o : Oper) (Γ : List Ent) (a : Act) (φ : Rel) : Prop where
  out : ExStep P ops W o Γ a φ
theorem flow_exS {P : Program} {ops : Array Oper} {W : World} {End : List Oper → List Ent → Act → Prop} {n : Nat} {o : Oper} {l : List Oper} {Γ : List Ent} {a : Act} {d : Nat} (φ : Rel) (hd : o.dst = some d) (hs : ExS P ops W o Γ a φ)
    (h : Fk.Flow P ops W End n l (⟨d, φ⟩ :: Γ) a) : Fk.Flow P ops W End (n + 1) (o :: l) Γ a := Fk.flow_ex φ hd hs.out h
theorem flow_knS {P : Program} {ops : Array Oper} {W : World} {End : List Oper → List Ent → Act → Prop} {n : Nat} {o : Oper} {l : List Oper} {Γ : List Ent} {a : Act} {d : Nat} (c : Value) (hd : o.dst = some d) (hs : ExS P ops W o Γ a (fun v _ _ => v = c))
    (h : Fk.Flow P ops W End n l Γ (a.put (some d) c)) : Fk.Flow P ops W End (n + 1) (o :: l) Γ a := Fk.flow_kn c hd hs.out h
theorem run_fn {o : Oper} {a : Act} {w : World} {f : FuncId} {args : Array Operand} {ats : Array TypeId} (hop : o.op = .call { callee := .value (.func f), args, argTypes := ats })
    (hf : (Tryd.prog.funcs[f]?).map (fun fn => (fn.name == "runtime.NumGoroutine", fn.body.isNone)) = some (false, false)) : (execOp a.eval o).run Tryd.prog w = .ok (.enter f (args.map a.eval)) w := by
  cases hg : Tryd.prog.funcs[f]? with
  | none => rw [hg] at hf; cases hf
  | some fn =>
    rw [hg] at hf
    simp only [Option.map_some, Option.some.injEq, Prod.mk.injEq] at hf
    have h1 : ¬ fn.name = "runtime.NumGoroutine" := by simpa using hf.1
    have h2 : ¬ fn.body = none := by cases hx : fn.body <;> simp_all
    unfold execOp
    simp [hop, resolve, Deferred.ofValue, invoke, callFunc, hg, h1, h2, Act.eval]
/-- how a function answers: its value by a property, the world grown -/
def Ans (φ : Rel) (w : World) (e : Ending) (w' : World) : Prop := ∃ v, e = .returned v ∧ Up w w' ∧ φ v w.heap.size w'
section
variable {ops : Array Oper} {W : World} {o : Oper} {Γ : List Ent} {a : Act} {φ : Rel}
theorem ex_call {f : FuncId} {args : Array Operand} {ats : Array TypeId} (hop : o.op = .call { callee := .value (.func f), args, argTypes := ats })
    (hf : (Tryd.prog.funcs[f]?).map (fun fn => (fn.name == "runtime.NumGoroutine", fn.body.isNone)) = some (false, false))
    (hw : ∀ V, Region.wanted o (yielded ops (fill Γ V a).tmps) = true)
    (hc : ∀ (V : Nat → Value) (N : Nat → Nat) (X : Nat → World), (∀ e ∈ Γ, e.rel (V e.slot) (N e.slot) (X e.slot) ∧ Up W (X e.slot)) → ∀ w, Up W w → (∀ e ∈ Γ, e.slot ∈ o.looksAt ops → Up (X e.slot) w) →
      Calls Tryd.prog f (args.map (fill Γ V a).eval) w (Ans φ w)) : ExStep Tryd.prog ops W o Γ a φ := by
  intro V N X hΓ g hX K hK
  simp only [wpList]
  rw [if_pos (hw V)]
  left
  unfold Oper.wp
  rw [run_fn hop hf, Oper.upon_enter]
  refine (hc V N X hΓ _ (Up.gr W g) hX).mono ?_
  rintro e w' ⟨v, rfl, hu, hv⟩
  exact hK v w' hu hv
theorem ex_call1 {f : FuncId} {x : Operand} {ats : Array TypeId} {R : Value → World → Prop} (hC : ∀ u w, R u w → Calls Tryd.prog f #[u] w (Ans φ w)) (hop : o.op = .call { callee := .value (.func f), args := #[x], argTypes := ats })
    (hf : (Tryd.prog.funcs[f]?).map (fun fn => (fn.name == "runtime.NumGoroutine", fn.body.isNone)) = some (false, false))
    (hw : ∀ V, Region.wanted o (yielded ops (fill Γ V a).tmps) = true) (hx : Arg ops W o Γ a x R) : ExS Tryd.prog ops W o Γ a φ :=
  ⟨ex_call hop hf hw fun V N' X hΓ w hw hX => by
    have h := hC _ w (hx V N' X hΓ w hw hX)
    rwa [show #[(fill Γ V a).eval x] = #[x].map (fill Γ V a).eval from by simp] at h⟩
theorem ex_call2 {f : FuncId} {x y : Operand} {ats : Array TypeId} {R S : Value → World → Prop} (hC : ∀ u v w, R u w → S v w → Calls Tryd.prog f #[u, v] w (Ans φ w)) (hop : o.op = .call { callee := .value (.func f), args := #[x, y], argTypes := ats })
    (hf : (Tryd.prog.funcs[f]?).map (fun fn => (fn.name == "runtime.NumGoroutine", fn.body.isNone)) = some (false, false))
    (hw : ∀ V, Region.wanted o (yielded ops (fill Γ V a).tmps) = true) (hx : Arg ops W o Γ a x R) (hy : Arg ops W o Γ a y S) : ExS Tryd.prog ops W o Γ a φ :=
  ⟨ex_call hop hf hw fun V N' X hΓ w hw hX => by
    have h := hC _ _ w (hx V N' X hΓ w hw hX) (hy V N' X hΓ w hw hX)
    rwa [show #[(fill Γ V a).eval x, (fill Γ V a).eval y] = #[x, y].map (fill Γ V a).eval from by simp] at h⟩
end
end Go.Proofs.YtjgdbfhpjjmjkaaDoor
