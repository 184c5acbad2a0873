/- A region that draws, in a round of a range over a function: the plain rules (the flow, the quiet walk) serve there too. -/
import Derived.Test.YtjgdbfhpjjmjkaaDoorFlow
import Derived.RangeFuncCalls
import Derived.OrdersIn
namespace Go
open Go.RowKit
section
variable {P : Program} {Q : Exit → Act → World → Prop} {ops : Array Oper}
def noDefer (ops : Array Oper) : Bool := ops.all fun o => match o.op with | .defer _ => false | _ => true
theorem noDefer_at {i : Nat} {o : Oper} (h : noDefer ops = true) (ho : ops[i]? = some o) : ∀ c, o.op ≠ .defer c := by
  intro c hc
  obtain ⟨hi, rfl⟩ := Array.getElem?_eq_some_iff.1 ho
  have := Array.all_eq_true.1 h i hi
  rw [hc] at this
  cases this
theorem wpIn_round_op {o : Oper} {l n : Nat} {a : Act} {w : World} {K K' : Act → World → Prop} (hd : ∀ c, o.op ≠ .defer c) (hK : ∀ a w, K a w → K' a w) (h : o.wp P a w K Q) : o.wpIn (Fence.wide.inRound l) n P a w K' Q := by
  refine ⟨fun _ _ => trivial, ?_⟩
  rw [Oper.semAt_eq _ _ _ hd]
  unfold Oper.wp at h
  generalize (execOp a.eval o).run P w = r at *
  cases r with
  | ok x w' =>
    cases x <;> simp only [Oper.upon, Oper.uponIn] at h ⊢ <;>
      first
        | exact hK _ _ h
        | exact ⟨fun hh => by simp [Fence.wide] at hh, CallsIn.inRound l (callsIn_wide.2 (h.mono fun e w'' he => by cases e <;> first | exact hK _ _ he | exact he))⟩
        | exact ⟨fun hh => by simp [Fence.wide] at hh, fun c cs _ => by
            obtain ⟨v, w2, hv, hs⟩ := h c cs
            exact ⟨v, w2, hK _ _ hv, stepsIn_wide.2 hs⟩⟩
        | exact h
  | halt x w' => cases x <;> simp only [Oper.upon, Oper.uponIn] at h ⊢ <;> exact h
theorem wpAnyIn_round {md : Region.Mode} {l n : Nat} (hout : ¬ LetsOut Q) (hn : noDefer ops = true) : ∀ (fuel : Nat) (listed : Array Bool) (a : Act) (w : World), wpAny P md ops Q fuel listed a w → wpAnyIn (Fence.wide.inRound l) n P md ops Q fuel listed a w
  | 0, _, _, _, h => h
  | fuel + 1, listed, a, w, h => ⟨h.1, fun i hi => by
      have h2 := h.2 i hi
      unfold wpOp at h2
      unfold wpOpIn
      cases ho : ops[i]? with
      | none => rw [ho] at h2; exact wpAnyIn_round hout hn fuel _ _ _ h2
      | some o =>
        rw [ho] at h2
        simp only at h2 ⊢
        split
        · rename_i hw
          rw [if_pos hw] at h2
          exact wpIn_round_op (noDefer_at hn ho) (fun a w => wpAnyIn_round hout hn fuel _ a w) (h2.resolve_right fun hh => hout hh.2)
        · rename_i hw
          rw [if_neg hw] at h2
          exact ⟨fun _ _ => trivial, wpAnyIn_round hout hn fuel _ _ _ h2⟩⟩
theorem wpIn_round_region {l n id : Nat} {a : Act} {w : World} (hm : P.follows .mixedOrders = true) (hout : ¬ LetsOut Q) (hn : noDefer ops = true)
    (h : wpAny P .any ops Q ops.size (Array.replicate ops.size false) a { w with drawn := w.drawn + 1 }) : (Code.region id ops true).wpIn (Fence.wide.inRound l) n P Q a w :=
  wpIn_region_any hm (wpAnyIn_round hout hn _ _ _ _ h)
/-- reads and exact calls, in a round -/
theorem wpIn_round_gr {m n id : Nat} {a : Act} {w : World} {l : List Oper} (hm : P.follows .mixedOrders = true) (hn : noDefer l.toArray = true) (hB : Region.lexB .any l.toArray = true)
    (h : wpQuiet P l.toArray (fun w' => ∃ g, w' = gr w g) (fun a' => ∀ w', (∃ g, w' = gr w g) → Q .normal a' w') l a) : (Code.region id l.toArray true).wpIn (Fence.wide.inRound m) n P Q a w := by
  refine wpIn_mono (Q := nrm fun a w => Q .normal a w) ?_ (fun e a w h => by cases e <;> first | exact h | exact h.elim)
  refine wpIn_round_region hm nrm_out hn ?_
  simp only [Region.lexB, Bool.and_eq_true] at hB
  refine wpAny_of_quiet (C := fun w' => ∃ g, w' = gr w g) (Q := fun a' => ∀ w', (∃ g, w' = gr w g) → Q .normal a' w') (Q' := nrm fun a w => Q .normal a w) (fun _ w' hw' h => h w' hw') _ _ _ _ ⟨(Grow.refl w).draws 1, rfl⟩ ?_
  have := wpAnyQ_lex (C := fun w' => ∃ g, w' = gr w g) (md := .any) hB.1 l 0 (Array.replicate l.toArray.size false) a (by simp) (by simpa using hB.2) h
  simpa using this
end
end Go
