/- The flow rule with one more step: an operation that looks at slots told by a property, and whose value is known. -/
import Derived.Test.YtjgdbfhpjjmjkaaDoorFlow
namespace Go.Fk
open Go.RowKit
section
variable (P : Program) (ops : Array Oper) (W : World)
def Flow (End : List Oper → List Ent → Act → Prop) : Nat → List Oper → List Ent → Act → Prop
  | 0, l, Γ, a => End l Γ a
  | _ + 1, [], _, _ => False
  | n + 1, o :: l, Γ, a =>
    ((∀ e ∈ Γ, e.slot ∉ o.looksAt ops) ∧
      (if Region.wanted o (yielded ops a.tmps) then plainB o.op = true ∧ o.quiet P a (fun w => ∃ g, w = gr W g) (Flow End n l Γ) else Flow End n l Γ (a.put o.dst undef))) ∨
    (∃ c, (∀ e ∈ Γ, e.slot ∉ o.looksAt ops) ∧ IsStep P ops W o a (a.put o.dst c) ∧ Flow End n l Γ (a.put o.dst c)) ∨
    (∃ d φ, o.dst = some d ∧ ExStep P ops W o Γ a φ ∧ Flow End n l (⟨d, φ⟩ :: Γ) a) ∨
    (∃ d c, o.dst = some d ∧ ExStep P ops W o Γ a (fun v _ _ => v = c) ∧ Flow End n l Γ (a.put (some d) c))
end

/- ───── the tactic's steps ───── -/
section
variable {P : Program} {ops : Array Oper} {W : World} {End : List Oper → List Ent → Act → Prop} {n : Nat} {o : Oper} {l : List Oper} {Γ : List Ent} {a : Act}
theorem flow_one (hp : plainB o.op = true) (hΓ : ∀ e ∈ Γ, e.slot ∉ o.looksAt ops) (h : wpQuiet P ops (fun w => ∃ g, w = gr W g) (Flow P ops W End n l Γ) [o] a) : Flow P ops W End (n + 1) (o :: l) Γ a := by
  refine .inl ⟨hΓ, ?_⟩
  simp only [wpQuiet] at h
  split
  · rename_i hw; rw [if_pos hw] at h; exact ⟨hp, h⟩
  · rename_i hw; rw [if_neg hw] at h; exact h
theorem flow_is {a' : Act} {c : Value} (hΓ : ∀ e ∈ Γ, e.slot ∉ o.looksAt ops) (hs : IsStep P ops W o a a') (hc : a' = a.put o.dst c) (h : Flow P ops W End n l Γ a') : Flow P ops W End (n + 1) (o :: l) Γ a := by
  subst hc
  exact .inr (.inl ⟨c, hΓ, hs, h⟩)
theorem flow_ex {d : Nat} (φ : Rel) (hd : o.dst = some d) (hs : ExStep P ops W o Γ a φ) (h : Flow P ops W End n l (⟨d, φ⟩ :: Γ) a) : Flow P ops W End (n + 1) (o :: l) Γ a :=
  .inr (.inr (.inl ⟨d, φ, hd, hs, h⟩))
theorem flow_kn {d : Nat} (c : Value) (hd : o.dst = some d) (hs : ExStep P ops W o Γ a (fun v _ _ => v = c)) (h : Flow P ops W End n l Γ (a.put (some d) c)) : Flow P ops W End (n + 1) (o :: l) Γ a :=
  .inr (.inr (.inr ⟨d, c, hd, hs, h⟩))
end

section
variable {P : Program} {ops : Array Oper} {W : World} {N : Nat} {a0 : Act}
theorem flow_table (hok : FlowOk N ops) {Q : Exit → Act → World → Prop} : ∀ (n k : Nat) (l : List Oper) (Γ : List Ent) (a : Act) (φ0 : Nat → Rel), k + n = N → (∀ j, l[j]? = ops[k + j]?) → LexOk ops W N a0 k Γ a φ0 →
    Flow P ops W (flowEnd P ops W Q) n l Γ a → ∃ φ : Nat → Rel, (∀ i, i < k → φ i = φ0 i) ∧ (∀ i, k ≤ i → i < N → StepAt P ops W N a0 φ i) ∧ EndAt P ops W N a0 φ Q (l.drop n) := by
  intro n
  induction n with
  | zero =>
    intro k l Γ a φ0 hk _ hlex h
    obtain rfl : k = N := by omega
    refine ⟨φ0, fun _ _ => rfl, fun i h1 h2 => by omega, ?_⟩
    intro V M X hg hdis a' hf w hw hx
    obtain rfl := hf.uniq (hlex.fit V M X hg)
    obtain ⟨g, rfl⟩ := hw.to_gr
    refine h V M X ?_ ?_ g ?_
    · intro e he
      obtain ⟨i, hi, hd, hr⟩ := hlex.ent e he
      rw [hr]; exact hg i _ hi hd
    · intro e he e' he' hne
      obtain ⟨i, hi, hd, hr⟩ := hlex.ent e he
      obtain ⟨j, hj, hd', hr'⟩ := hlex.ent e' he'
      exact hdis i j _ _ hi hj (by rintro rfl; rw [hd] at hd'; exact hne (Option.some.inj hd')) hd hd'
    · intro e he
      obtain ⟨i, hi, hd, hr⟩ := hlex.ent e he
      exact hx i _ hi hd
  | succ n ih =>
    intro k l Γ a φ0 hk hl hlex h
    cases l with
    | nil => exact h.elim
    | cons o l =>
      have ho : ops[k]? = some o := by simpa using (hl 0).symm
      have hsel : ∀ cs b, o.op ≠ .select cs b := fun cs b => Region.noSelect_spec hok.sel k o cs b ho
      obtain ⟨d, hd⟩ := hok.dsts k (by omega)
      have hod : o.dst = some d := by simpa [dstAt, ho] using hd
      have hfar : ∀ e ∈ Γ, e.slot ≠ d := by
        intro e he
        obtain ⟨i, hi, hdi, _⟩ := hlex.ent e he
        rintro rfl
        have := hok.inj i k _ (by omega) (by omega) hdi hd
        omega
      have hl' : ∀ j, l[j]? = ops[k + 1 + j]? := fun j => by have := hl (j + 1); rw [show k + 1 + j = k + (j + 1) from by omega, ← this]; rfl
      have go : ∀ (ψ : Rel) (Γ' : List Ent) (a' : Act), (∀ V M X, Goods ops W (fun i => if i = k then ψ else φ0 i) (k + 1) V M X → fill Γ' V a' = (fill Γ V a).put (some d) (V d)) →
          (∀ e ∈ Γ', e ∈ Γ ∨ e = ⟨d, ψ⟩) → Flow P ops W (flowEnd P ops W Q) n l Γ' a' →
          (∀ V M X, Goods ops W φ0 k V M X → ∀ w, Up W w → (∀ j d, j < k → dstAt ops j = some d → d ∈ o.looksAt ops → Up (X d) w) → stepUp P ops o (fill Γ V a) w (fun v w' => Up w w' ∧ ψ v w.heap.size w')) →
          ∃ φ : Nat → Rel, (∀ i, i < k → φ i = φ0 i) ∧ (∀ i, k ≤ i → i < N → StepAt P ops W N a0 φ i) ∧ EndAt P ops W N a0 φ Q ((o :: l).drop (n + 1)) := by
        intro ψ Γ' a' hfill hΓ' hflow hstep
        have hlex' : LexOk ops W N a0 (k + 1) Γ' a' (fun i => if i = k then ψ else φ0 i) := by
          refine ⟨fun V M X hg => ?_, fun e he => ?_⟩
          · rw [hfill V M X hg]
            have hg0 : Goods ops W φ0 k V M X := hg.congr (by omega) (fun i hi => by rw [if_neg (by omega)])
            exact (hlex.fit V M X hg0).put (V' := V) (by omega) hd (by intro j; simp; omega) (fun _ _ => rfl)
          · rcases hΓ' e he with he | rfl
            · obtain ⟨i, hi, hdi, hr⟩ := hlex.ent e he
              exact ⟨i, by omega, hdi, by rw [if_neg (by omega)]; exact hr⟩
            · exact ⟨k, by omega, hd, by rw [if_pos rfl]⟩
        obtain ⟨φ, h1, h2, h3⟩ := ih (k + 1) l Γ' a' _ (by omega) hl' hlex' hflow
        refine ⟨φ, fun i hi => by rw [h1 i (by omega), if_neg (by omega)], ?_, h3⟩
        intro i hi hiN
        by_cases hik : i = k
        · subst hik
          intro o' ho' V M X hg a1 hf w hw hx
          rw [ho] at ho'; cases ho'
          have hg0 : Goods ops W φ0 i V M X := hg.congr (Nat.le_refl _) (fun j hj => by rw [h1 j (by omega), if_neg (by omega)])
          obtain rfl := hf.uniq (hlex.fit V M X hg0)
          have hφ : φ i = ψ := by rw [h1 i (by omega), if_pos rfl]
          rw [hφ]
          exact hstep V M X hg0 w hw hx
        · exact h2 i (by omega) hiN
      have exact_case : ∀ c, (∀ e ∈ Γ, e.slot ∉ o.looksAt ops) → Flow P ops W (flowEnd P ops W Q) n l Γ (a.put o.dst c) → (∀ w, Up W w → stepUp P ops o a w (fun v w' => Up w w' ∧ v = c)) →
          ∃ φ : Nat → Rel, (∀ i, i < k → φ i = φ0 i) ∧ (∀ i, k ≤ i → i < N → StepAt P ops W N a0 φ i) ∧ EndAt P ops W N a0 φ Q ((o :: l).drop (n + 1)) := by
        intro c hΓ hflow hstep
        refine go (fun v _ _ => v = c) Γ (a.put o.dst c) ?_ (fun e he => .inl he) hflow ?_
        · intro V M X hg
          have hc : V d = c := by have := (hg k d (by omega) hd).1; simpa using this
          rw [hod, fill_put hfar, hc]
        · intro V M X hg w hw _
          obtain ⟨e1, e2, e3⟩ := fill_sees (ops := ops) (V := V) (a := a) hsel hΓ
          exact stepUp_congr (hstep w hw) e1.symm e2.symm e3.symm
      rcases h with ⟨hΓ, h⟩ | ⟨c, hΓ, hs, h⟩ | ⟨d', ψ, hd', hs, h⟩ | ⟨d', c, hd', hs, h⟩
      · split at h
        · rename_i hw
          obtain ⟨hp, v, hq, hflow⟩ := h
          refine exact_case v hΓ hflow fun w hW => ?_
          unfold stepUp
          rw [if_pos hw]
          obtain ⟨g, rfl⟩ := hW.to_gr
          have h1 := hq _ ⟨g, rfl⟩
          unfold Oper.quietAt at h1
          have hne := fun f args w' => plain_not_enter (P := P) (ρ := a.eval) (o := o) (w := gr W g) (w' := w') (f := f) (args := args) hp
          generalize (execOp a.eval o).run P (gr W g) = r at *
          cases r with
          | ok m w' =>
            cases m <;> simp only [Oper.quietUpon] at h1 <;> simp only [opUpon]
            case value u => obtain ⟨rfl, rfl⟩ := h1; exact ⟨u, .inl rfl, Up.refl _, rfl⟩
            case skip => obtain ⟨rfl, rfl⟩ := h1; exact ⟨undef, .inl rfl, Up.refl _, rfl⟩
            case enter f args => exact absurd rfl (hne f args w')
          | halt x w' => simp only [Oper.quietUpon] at h1
        · rename_i hw
          refine exact_case undef hΓ h fun w hW => ?_
          unfold stepUp
          rw [if_neg hw]
          exact ⟨undef, .inl rfl, Up.refl _, rfl⟩
      · refine exact_case c hΓ h fun w hW => ?_
        obtain ⟨g, rfl⟩ := hW.to_gr
        exact stepUp_of_list hod fun K hK => hs g K fun w' hu => hK c w' ⟨hu, rfl⟩
      · rw [hod] at hd'
        obtain rfl := Option.some.inj hd'
        refine go ψ (⟨d, ψ⟩ :: Γ) a (fun V M X _ => rfl) (fun e he => by rcases List.mem_cons.1 he with rfl | he; exact .inr rfl; exact .inl he) h ?_
        intro V M X hg w hw hx
        obtain ⟨g, rfl⟩ := hw.to_gr
        refine stepUp_of_list hod fun K hK => hs V M X ?_ g ?_ K fun v w' hu hv => hK v w' ⟨hu, hv⟩
        · intro e he
          obtain ⟨i, hi, hdi, hr⟩ := hlex.ent e he
          have := hg i _ hi hdi
          rw [hr]; exact ⟨this.1, this.2.1⟩
        · intro e he hlk
          obtain ⟨i, hi, hdi, hr⟩ := hlex.ent e he
          exact hx i _ hi hdi hlk
      · rw [hod] at hd'
        obtain rfl := Option.some.inj hd'
        refine go (fun v _ _ => v = c) Γ (a.put (some d) c) ?_ (fun e he => .inl he) h ?_
        · intro V M X hg
          have hc : V d = c := by have := (hg k d (by omega) hd).1; simpa using this
          rw [fill_put hfar, hc]
        · intro V M X hg w hw hx
          obtain ⟨g, rfl⟩ := hw.to_gr
          refine stepUp_of_list hod fun K hK => hs V M X ?_ g ?_ K fun v w' hu hv => hK v w' ⟨hu, hv⟩
          · intro e he
            obtain ⟨i, hi, hdi, hr⟩ := hlex.ent e he
            have := hg i _ hi hdi
            rw [hr]; exact ⟨this.1, this.2.1⟩
          · intro e he hlk
            obtain ⟨i, hi, hdi, hr⟩ := hlex.ent e he
            exact hx i _ hi hdi hlk
end

section
variable {P : Program} {ops : Array Oper} {W : World} {N : Nat} {a0 : Act}
/-- THE RULE -/
theorem wp_region_flow {id : Nat} {l : List Oper} {Q : Exit → Act → World → Prop} {a : Act} {w : World} (N : Nat) (hm : P.follows .mixedOrders = true) (hB : flowB N l = true)
    (h : Flow P l.toArray w (flowEnd P l.toArray w Q) N l [] a) : (Code.region id l.toArray true).wp P Q a w := by
  have hok := flowB_spec hB
  have hN : N ≤ l.length := by simpa using hok.le
  obtain ⟨φ, _, hst, hend⟩ := flow_table (a0 := a) hok N 0 l [] a (fun _ _ _ _ => True) (by omega) (by simp) ⟨fun V M X _ => by have := Fits.none (N := N) (ops := l.toArray) (a0 := a) V; simpa [fill] using this, by simp⟩ h
  refine wp_region_any hm ?_
  obtain ⟨V, M, X, T, hg, _, _⟩ := goods_exist hok (fun i hi => hst i (Nat.zero_le _) hi) N (Nat.le_refl _)
  have hun : ∀ i, i < l.length → (Array.replicate l.toArray.size false).getD i true = false := by
    intro i hi
    simp [Array.getD_eq_getD_getElem?, hi]
  refine run_flow hok (fun i hi => hst i (Nat.zero_le _) hi) (l2 := l.drop N) (by intro j; simp) (by simp; omega) hend _ _ V M X a _ (by simp) ?_ ?_ hg ?_ ?_ ?_ ?_ ?_
  · intro j oj hj hl hs
    simp at hs
    rw [hun j hs] at hl; cases hl
  · intro k hk hks
    exact hun k (by simpa using hks)
  · intro i d hi hl
    rw [hun i (by omega)] at hl; cases hl
  · intro i j d d' hi hj hne hl
    rw [hun i (by omega)] at hl; cases hl
  · have := Fits.none (N := N) (ops := l.toArray) (a0 := a) V
    refine ⟨this.1, fun s => ?_⟩
    have hno : ¬ ∃ i, i < N ∧ (Array.replicate l.toArray.size false).getD i true = true ∧ dstAt l.toArray i = some s := by
      rintro ⟨i, hi, hl, _⟩
      rw [hun i (by omega)] at hl; cases hl
    simp only [if_neg hno]
    simp
  · exact ⟨rfl, rfl, rfl, Nat.le_refl _, fun _ _ => rfl⟩
  · have key : ∀ n, n ≤ l.length → leftN (Array.replicate l.toArray.size false) n ≤ n := by
      intro n
      induction n with
      | zero => intro _; simp [leftN]
      | succ n ih => intro h; unfold leftN; have := ih (by omega); split <;> omega
    simpa using key l.length (Nat.le_refl _)
end
end Go.Fk
