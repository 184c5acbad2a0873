/- The rule of XFlow for a region in which one slot is filled by a copy of another: 'd0 := s0'. -/
import Derived.Test.YtjgdbfhpjjmjkaaDoorFlow
namespace Go.Fc
open Go.RowKit
def cpRel : Rel := fun _ _ _ => True
section
variable (P : Program) (ops : Array Oper) (W : World) (d0 s0 : Nat)
def Flow (End : List Oper → List Ent → Act → Prop) : Nat → List Oper → List Ent → Act → Prop
  | 0, l, Γ, a => End l Γ a
  | _ + 1, [], _, _ => False
  | n + 1, o :: l, Γ, a =>
    (o.dst = some d0 ∧ Flow End n l (⟨d0, cpRel⟩ :: Γ) a) ∨ (o.dst ≠ some d0 ∧ (
    ((∀ e ∈ Γ, e.slot ∉ o.looksAt ops) ∧
      (if Region.wanted o (yielded ops a.tmps) then plainB o.op = true ∧ o.quiet P a (fun w => ∃ g, w = gr W g) (Flow End n l Γ) else Flow End n l Γ (a.put o.dst undef))) ∨
    (∃ c, (∀ e ∈ Γ, e.slot ∉ o.looksAt ops) ∧ IsStep P ops W o a (a.put o.dst c) ∧ Flow End n l Γ (a.put o.dst c)) ∨
    (∃ d φ, o.dst = some d ∧ ExStep P ops W o Γ a φ ∧ Flow End n l (⟨d, φ⟩ :: Γ) a)))
def flowEnd (Q : Exit → Act → World → Prop) (l : List Oper) (Γ : List Ent) (a : Act) : Prop :=
  ∀ (V : Nat → Value) (N : Nat → Nat) (X : Nat → World), V d0 = V s0 → (∀ e ∈ Γ, e.rel (V e.slot) (N e.slot) (X e.slot) ∧ Up W (X e.slot) ∧ W.heap.size ≤ N e.slot) →
    (∀ e ∈ Γ, ∀ e' ∈ Γ, e.slot ≠ e'.slot → (X e.slot).heap.size ≤ N e'.slot ∨ (X e'.slot).heap.size ≤ N e.slot) →
    ∀ g : Grow W, (∀ e ∈ Γ, Up (X e.slot) (gr W g)) → wpList P ops Q l (fill Γ V a) (gr W g)
end
section
variable {P : Program} {ops : Array Oper} {W : World} {d0 : Nat} {End : List Oper → List Ent → Act → Prop} {n : Nat} {o : Oper} {l : List Oper} {Γ : List Ent} {a : Act}
theorem flow_one (hp : plainB o.op = true) (hne : o.dst ≠ some d0) (hΓ : ∀ e ∈ Γ, e.slot ∉ o.looksAt ops) (h : wpQuiet P ops (fun w => ∃ g, w = gr W g) (Flow P ops W d0 End n l Γ) [o] a) : Flow P ops W d0 End (n + 1) (o :: l) Γ a := by
  refine .inr ⟨hne, .inl ⟨hΓ, ?_⟩⟩
  simp only [wpQuiet] at h
  split
  · rename_i hw; rw [if_pos hw] at h; exact ⟨hp, h⟩
  · rename_i hw; rw [if_neg hw] at h; exact h
theorem flow_is {a' : Act} {c : Value} (hne : o.dst ≠ some d0) (hΓ : ∀ e ∈ Γ, e.slot ∉ o.looksAt ops) (hs : IsStep P ops W o a a') (hc : a' = a.put o.dst c) (h : Flow P ops W d0 End n l Γ a') : Flow P ops W d0 End (n + 1) (o :: l) Γ a := by
  subst hc
  exact .inr ⟨hne, .inr (.inl ⟨c, hΓ, hs, h⟩)⟩
theorem flow_ex {d : Nat} (φ : Rel) (hd : o.dst = some d) (hne : o.dst ≠ some d0) (hs : ExStep P ops W o Γ a φ) (h : Flow P ops W d0 End n l (⟨d, φ⟩ :: Γ) a) : Flow P ops W d0 End (n + 1) (o :: l) Γ a :=
  .inr ⟨hne, .inr (.inr ⟨d, φ, hd, hs, h⟩)⟩
theorem flow_cp (hd : o.dst = some d0) (h : Flow P ops W d0 End n l (⟨d0, cpRel⟩ :: Γ) a) : Flow P ops W d0 End (n + 1) (o :: l) Γ a := .inl ⟨hd, h⟩
end

section
variable {P : Program} {ops : Array Oper} {W : World} {N : Nat} {a0 : Act} {d0 s0 : Nat}
def EndAt (P : Program) (ops : Array Oper) (W : World) (N : Nat) (a0 : Act) (d0 s0 : Nat) (φ : Nat → Rel) (Q : Exit → Act → World → Prop) (l : List Oper) : Prop :=
  ∀ V M X, V d0 = V s0 → Goods ops W φ N V M X → (∀ i j d d', i < N → j < N → i ≠ j → dstAt ops i = some d → dstAt ops j = some d' → (X d).heap.size ≤ M d' ∨ (X d').heap.size ≤ M d) →
    ∀ a, Fits N ops a0 (fun j => decide (j < N)) V a → ∀ w, Up W w → (∀ i d, i < N → dstAt ops i = some d → Up (X d) w) → wpList P ops Q l a w
def Rule (P : Program) (ops : Array Oper) (W : World) (N : Nat) (a0 : Act) (d0 : Nat) (φ : Nat → Rel) (i : Nat) : Prop :=
  (dstAt ops i = some d0 → φ i = cpRel) ∧ (dstAt ops i ≠ some d0 → StepAt P ops W N a0 φ i)
theorem flow_table (hok : FlowOk N ops) {Q : Exit → Act → World → Prop} : ∀ (n k : Nat) (l : List Oper) (Γ : List Ent) (a : Act) (φ0 : Nat → Rel), k + n = N → (∀ j, l[j]? = ops[k + j]?) → LexOk ops W N a0 k Γ a φ0 →
    Flow P ops W d0 (flowEnd P ops W d0 s0 Q) n l Γ a → ∃ φ : Nat → Rel, (∀ i, i < k → φ i = φ0 i) ∧ (∀ i, k ≤ i → i < N → Rule P ops W N a0 d0 φ i) ∧ EndAt P ops W N a0 d0 s0 φ Q (l.drop n) := by
  intro n
  induction n with
  | zero =>
    intro k l Γ a φ0 hk _ hlex h
    obtain rfl : k = N := by omega
    refine ⟨φ0, fun _ _ => rfl, fun i h1 h2 => by omega, ?_⟩
    intro V M X hvv hg hdis a' hf w hw hx
    obtain rfl := hf.uniq (hlex.fit V M X hg)
    obtain ⟨g, rfl⟩ := hw.to_gr
    refine h V M X hvv ?_ ?_ g ?_
    · intro e he
      obtain ⟨i, hi, hd, hr⟩ := hlex.ent e he
      rw [hr]; exact hg i _ hi hd
    · intro e he e' he' hne
      obtain ⟨i, hi, hd, hr⟩ := hlex.ent e he
      obtain ⟨j, hj, hd', hr'⟩ := hlex.ent e' he'
      exact hdis i j _ _ hi hj (by rintro rfl; rw [hd] at hd'; exact hne (Option.some.inj hd')) hd hd'
    · intro e he
      obtain ⟨i, hi, hd, hr⟩ := hlex.ent e he
      exact hx i _ hi hd
  | succ n ih =>
    intro k l Γ a φ0 hk hl hlex h
    cases l with
    | nil => exact h.elim
    | cons o l =>
      have ho : ops[k]? = some o := by simpa using (hl 0).symm
      have hsel : ∀ cs b, o.op ≠ .select cs b := fun cs b => Region.noSelect_spec hok.sel k o cs b ho
      obtain ⟨d, hd⟩ := hok.dsts k (by omega)
      have hod : o.dst = some d := by simpa [dstAt, ho] using hd
      have hfar : ∀ e ∈ Γ, e.slot ≠ d := by
        intro e he
        obtain ⟨i, hi, hdi, _⟩ := hlex.ent e he
        rintro rfl
        have := hok.inj i k _ (by omega) (by omega) hdi hd
        omega
      have hl' : ∀ j, l[j]? = ops[k + 1 + j]? := fun j => by have := hl (j + 1); rw [show k + 1 + j = k + (j + 1) from by omega, ← this]; rfl
      have go : ∀ (ψ : Rel) (Γ' : List Ent) (a' : Act), (∀ V M X, Goods ops W (fun i => if i = k then ψ else φ0 i) (k + 1) V M X → fill Γ' V a' = (fill Γ V a).put (some d) (V d)) →
          (∀ e ∈ Γ', e ∈ Γ ∨ e = ⟨d, ψ⟩) → Flow P ops W d0 (flowEnd P ops W d0 s0 Q) n l Γ' a' →
          (d = d0 → ψ = cpRel) → (d ≠ d0 → ∀ V M X, Goods ops W φ0 k V M X → ∀ w, Up W w → (∀ j d, j < k → dstAt ops j = some d → d ∈ o.looksAt ops → Up (X d) w) → stepUp P ops o (fill Γ V a) w (fun v w' => Up w w' ∧ ψ v w.heap.size w')) →
          ∃ φ : Nat → Rel, (∀ i, i < k → φ i = φ0 i) ∧ (∀ i, k ≤ i → i < N → Rule P ops W N a0 d0 φ i) ∧ EndAt P ops W N a0 d0 s0 φ Q ((o :: l).drop (n + 1)) := by
        intro ψ Γ' a' hfill hΓ' hflow hcp hstep
        have hlex' : LexOk ops W N a0 (k + 1) Γ' a' (fun i => if i = k then ψ else φ0 i) := by
          refine ⟨fun V M X hg => ?_, fun e he => ?_⟩
          · rw [hfill V M X hg]
            have hg0 : Goods ops W φ0 k V M X := hg.congr (by omega) (fun i hi => by rw [if_neg (by omega)])
            exact (hlex.fit V M X hg0).put (V' := V) (by omega) hd (by intro j; simp; omega) (fun _ _ => rfl)
          · rcases hΓ' e he with he | rfl
            · obtain ⟨i, hi, hdi, hr⟩ := hlex.ent e he
              exact ⟨i, by omega, hdi, by rw [if_neg (by omega)]; exact hr⟩
            · exact ⟨k, by omega, hd, by rw [if_pos rfl]⟩
        obtain ⟨φ, h1, h2, h3⟩ := ih (k + 1) l Γ' a' _ (by omega) hl' hlex' hflow
        refine ⟨φ, fun i hi => by rw [h1 i (by omega), if_neg (by omega)], ?_, h3⟩
        intro i hi hiN
        by_cases hik : i = k
        · subst hik
          have hφ : φ i = ψ := by rw [h1 i (by omega), if_pos rfl]
          refine ⟨fun hdd => by rw [hd] at hdd; rw [hφ]; exact hcp (Option.some.inj hdd), fun hdd => ?_⟩
          have hdd' : d ≠ d0 := fun e => hdd (by rw [hd, e])
          intro o' ho' V M X hg a1 hf w hw hx
          rw [ho] at ho'; cases ho'
          have hg0 : Goods ops W φ0 i V M X := hg.congr (Nat.le_refl _) (fun j hj => by rw [h1 j (by omega), if_neg (by omega)])
          obtain rfl := hf.uniq (hlex.fit V M X hg0)
          rw [hφ]
          exact hstep hdd' V M X hg0 w hw hx
        · exact h2 i (by omega) hiN
      have exact_case : d ≠ d0 → ∀ c, (∀ e ∈ Γ, e.slot ∉ o.looksAt ops) → Flow P ops W d0 (flowEnd P ops W d0 s0 Q) n l Γ (a.put o.dst c) → (∀ w, Up W w → stepUp P ops o a w (fun v w' => Up w w' ∧ v = c)) →
          ∃ φ : Nat → Rel, (∀ i, i < k → φ i = φ0 i) ∧ (∀ i, k ≤ i → i < N → Rule P ops W N a0 d0 φ i) ∧ EndAt P ops W N a0 d0 s0 φ Q ((o :: l).drop (n + 1)) := by
        intro hnd c hΓ hflow hstep
        refine go (fun v _ _ => v = c) Γ (a.put o.dst c) ?_ (fun e he => .inl he) hflow (fun e => absurd e hnd) (fun _ => ?_)
        · intro V M X hg
          have hc : V d = c := by have := (hg k d (by omega) hd).1; simpa using this
          rw [hod, fill_put hfar, hc]
        · intro V M X hg w hw _
          obtain ⟨e1, e2, e3⟩ := fill_sees (ops := ops) (V := V) (a := a) hsel hΓ
          exact stepUp_congr (hstep w hw) e1.symm e2.symm e3.symm
      rcases h with ⟨hcd, h⟩ | ⟨hncd, h⟩
      · rw [hod] at hcd
        obtain rfl := Option.some.inj hcd
        exact go cpRel (⟨d, cpRel⟩ :: Γ) a (fun V M X _ => rfl) (fun e he => by rcases List.mem_cons.1 he with rfl | he; exact .inr rfl; exact .inl he) h (fun _ => rfl) (fun e => absurd rfl e)
      have hnd : d ≠ d0 := fun e => hncd (by rw [hod, e])
      rcases h with ⟨hΓ, h⟩ | ⟨c, hΓ, hs, h⟩ | ⟨d', ψ, hd', hs, h⟩
      · split at h
        · rename_i hw
          obtain ⟨hp, v, hq, hflow⟩ := h
          refine exact_case hnd v hΓ hflow fun w hW => ?_
          unfold stepUp
          rw [if_pos hw]
          obtain ⟨g, rfl⟩ := hW.to_gr
          have h1 := hq _ ⟨g, rfl⟩
          unfold Oper.quietAt at h1
          have hne := fun f args w' => plain_not_enter (P := P) (ρ := a.eval) (o := o) (w := gr W g) (w' := w') (f := f) (args := args) hp
          generalize (execOp a.eval o).run P (gr W g) = r at *
          cases r with
          | ok m w' =>
            cases m <;> simp only [Oper.quietUpon] at h1 <;> simp only [opUpon]
            case value u => obtain ⟨rfl, rfl⟩ := h1; exact ⟨u, .inl rfl, Up.refl _, rfl⟩
            case skip => obtain ⟨rfl, rfl⟩ := h1; exact ⟨undef, .inl rfl, Up.refl _, rfl⟩
            case enter f args => exact absurd rfl (hne f args w')
          | halt x w' => simp only [Oper.quietUpon] at h1
        · rename_i hw
          refine exact_case hnd undef hΓ h fun w hW => ?_
          unfold stepUp
          rw [if_neg hw]
          exact ⟨undef, .inl rfl, Up.refl _, rfl⟩
      · refine exact_case hnd c hΓ h fun w hW => ?_
        obtain ⟨g, rfl⟩ := hW.to_gr
        exact stepUp_of_list hod fun K hK => hs g K fun w' hu => hK c w' ⟨hu, rfl⟩
      · rw [hod] at hd'
        obtain rfl := Option.some.inj hd'
        refine go ψ (⟨d, ψ⟩ :: Γ) a (fun V M X _ => rfl) (fun e he => by rcases List.mem_cons.1 he with rfl | he; exact .inr rfl; exact .inl he) h (fun e => absurd e hnd) (fun _ => ?_)
        intro V M X hg w hw hx
        obtain ⟨g, rfl⟩ := hw.to_gr
        refine stepUp_of_list hod fun K hK => hs V M X ?_ g ?_ K fun v w' hu hv => hK v w' ⟨hu, hv⟩
        · intro e he
          obtain ⟨i, hi, hdi, hr⟩ := hlex.ent e he
          have := hg i _ hi hdi
          rw [hr]; exact ⟨this.1, this.2.1⟩
        · intro e he hlk
          obtain ⟨i, hi, hdi, hr⟩ := hlex.ent e he
          exact hx i _ hi hdi hlk
theorem goods_exist (hok : FlowOk N ops) {φ : Nat → Rel} (hst : ∀ i, i < N → Rule P ops W N a0 d0 φ i) : ∀ k, k ≤ N → ∃ V M X T, Goods ops W φ k V M X ∧ Up W T ∧ ∀ i d, i < k → dstAt ops i = some d → Up (X d) T
  | 0, _ => ⟨fun _ => undef, fun _ => 0, fun _ => W, W, fun i d hi => by omega, Up.refl _, fun i d hi => by omega⟩
  | k + 1, hk => by
    obtain ⟨V, M, X, T, hg, hT, hx⟩ := goods_exist hok hst k (by omega)
    obtain ⟨d, hd⟩ := hok.dsts k (by omega)
    obtain ⟨o, ho⟩ : ∃ o, ops[k]? = some o := by
      unfold dstAt at hd
      cases h : ops[k]? with
      | none => rw [h] at hd; cases hd
      | some o => exact ⟨o, rfl⟩
    obtain ⟨a, ha⟩ := Fits.exist (a0 := a0) hok V k (by omega)
    obtain ⟨v, w', hu, hv⟩ : ∃ v w', Up T w' ∧ φ k v T.heap.size w' := by
      by_cases h0 : dstAt ops k = some d0
      · exact ⟨undef, T, Up.refl _, by rw [(hst k (by omega)).1 h0]; trivial⟩
      · exact stepUp_exists ((hst k (by omega)).2 h0 o ho V M X hg a ha T hT (fun j d' hj hd' _ => hx j d' hj hd'))
    have hne : ∀ i d', i < k → dstAt ops i = some d' → d' ≠ d := by
      rintro i d' hi hd' rfl
      have := hok.inj i k _ (by omega) (by omega) hd' hd
      omega
    refine ⟨fun s => if s = d then v else V s, fun s => if s = d then T.heap.size else M s, fun s => if s = d then w' else X s, w', ?_, hT.trans hu, ?_⟩
    · intro i d' hi hd'
      by_cases hik : i = k
      · subst hik
        rw [hd] at hd'; cases hd'
        simp only [if_true]
        exact ⟨hv, hT.trans hu, hT.size⟩
      · have := hne i d' (by omega) hd'
        simp only [if_neg this]
        exact hg i d' (by omega) hd'
    · intro i d' hi hd'
      by_cases hik : i = k
      · subst hik
        rw [hd] at hd'; cases hd'
        simp only [if_true]
        exact Up.refl _
      · have := hne i d' (by omega) hd'
        simp only [if_neg this]
        exact (hx i d' (by omega) hd').trans hu

theorem run_flow (hok : FlowOk N ops) {φ : Nat → Rel} (hst : ∀ i, i < N → Rule P ops W N a0 d0 φ i) (hcp : ∀ i o, i < N → ops[i]? = some o → o.dst = some d0 → o.op = .assign (.tmp s0) ∧ o.guard = none) (hs0 : ∃ j, j < N ∧ dstAt ops j = some s0) (hds : d0 ≠ s0) (hsz0 : s0 < a0.tmps.size) {Q : Exit → Act → World → Prop} {l2 : List Oper} (hl2 : ∀ j, l2[j]? = ops[N + j]?) (hlen : N + l2.length = ops.size)
    (hend : EndAt P ops W N a0 d0 s0 φ Q l2) : ∀ (fuel : Nat) (listed : Array Bool) (V : Nat → Value) (M : Nat → Nat) (X : Nat → World) (a : Act) (w : World), listed.size = ops.size → ClosedL ops listed →
    (∀ k, N ≤ k → k < ops.size → listed.getD k true = false) → V d0 = V s0 → Goods ops W φ N V M X → (∀ i d, i < N → listed.getD i true = true → dstAt ops i = some d → Up (X d) w) →
    (∀ i j d d', i < N → j < N → i ≠ j → listed.getD i true = true → listed.getD j true = true → dstAt ops i = some d → dstAt ops j = some d' → (X d).heap.size ≤ M d' ∨ (X d').heap.size ≤ M d) →
    Fits N ops a0 (fun i => listed.getD i true) V a → Up W w → leftN listed ops.size ≤ fuel → wpAny P .any ops Q fuel listed a w := by
  intro fuel
  induction fuel with
  | zero =>
    intro listed V M X a w hsz hcl htl hvv hg hx hdis hf hw hleft
    -- nothing is left: then no flow op is unlisted, and there is no tail
    have hall : ∀ n, n ≤ ops.size → ∀ i, i < n → listed.getD i true = true := by
      intro n hn i hi
      have key : ∀ n, leftN listed n = 0 → ∀ i, i < n → listed.getD i true = true := by
        intro n
        induction n with
        | zero => intro _ i hi; omega
        | succ n ih =>
          intro h i hi
          unfold leftN at h
          have h1 : listed.getD n true = true := by
            cases hb : listed.getD n true with
            | true => rfl
            | false => rw [hb] at h; simp at h
          rcases Nat.lt_or_ge i n with h2 | h2
          · exact ih (by omega) i h2
          · rw [show i = n by omega]; exact h1
      exact key ops.size (by omega) i (by omega)
    have hNs : ops.size = N := by
      have := hok.le
      by_cases h : N < ops.size
      · have h1 := htl N (Nat.le_refl _) h
        rw [hall ops.size (Nat.le_refl _) N h] at h1; cases h1
      · omega
    have hl0 : l2 = [] := List.eq_nil_of_length_eq_zero (by omega)
    refine run_tail hok l2 N listed a w 0 hl2 (Nat.le_refl _) hlen hsz (fun j hj => by rw [hall ops.size (Nat.le_refl _) j hj]; simp; omega) (by rw [hl0]; simp) ?_
    refine hend V M X hvv hg (fun i j d d' hi hj hne h1 h2 => hdis i j d d' hi hj hne (hall _ (Nat.le_refl _) i (by omega)) (hall _ (Nat.le_refl _) j (by omega)) h1 h2) a ?_ w hw
      (fun i d hi hd => hx i d hi (hall _ (Nat.le_refl _) i (by omega)) hd)
    refine ⟨hf.1, fun s => (hf.2 s).trans ?_⟩
    have hex : (∃ j, j < N ∧ listed.getD j true = true ∧ dstAt ops j = some s) ↔ (∃ j, j < N ∧ decide (j < N) = true ∧ dstAt ops j = some s) :=
      ⟨fun ⟨j, h1, h2, h3⟩ => ⟨j, h1, by simpa using h1, h3⟩, fun ⟨j, h1, h2, h3⟩ => ⟨j, h1, hall _ (Nat.le_refl _) j (by omega), h3⟩⟩
    simp only [hex]
  | succ fuel ih =>
    intro listed V M X a w hsz hcl htl hvv hg hx hdis hf hw hleft
    have hle := hok.le
    by_cases hall : ∀ i, i < N → listed.getD i true = true
    · have hpre : ∀ j, j < ops.size → listed.getD j true = decide (j < N) := by
        intro j hj
        rcases Nat.lt_or_ge j N with h | h
        · rw [hall j h]; simp [h]
        · rw [htl j h hj]; simp; omega
      have hcount : ∀ n, n ≤ ops.size → N ≤ n → leftN listed n = leftN listed N + (n - N) := by
        intro n
        induction n with
        | zero => intro _ h; have : N = 0 := by omega
                  subst this; simp
        | succ n ihn =>
          intro h1 h2
          by_cases h3 : N = n + 1
          · subst h3; simp
          · have e1 : leftN listed (n + 1) = leftN listed n + if listed.getD n true then 0 else 1 := rfl
            rw [e1, ihn (by omega) (by omega), htl n (by omega) (by omega)]
            simp only [Bool.false_eq_true, if_false]; omega
      have hc := hcount ops.size (Nat.le_refl _) hle
      refine run_tail hok l2 N listed a w (fuel + 1) hl2 (Nat.le_refl _) hlen hsz hpre (by omega) ?_
      refine hend V M X hvv hg (fun i j d d' hi hj hne h1 h2 => hdis i j d d' hi hj hne (hall i hi) (hall j hj) h1 h2) a ?_ w hw (fun i d hi hd => hx i d hi (hall i hi) hd)
      refine ⟨hf.1, fun s => (hf.2 s).trans ?_⟩
      have hex : (∃ j, j < N ∧ listed.getD j true = true ∧ dstAt ops j = some s) ↔ (∃ j, j < N ∧ decide (j < N) = true ∧ dstAt ops j = some s) :=
        ⟨fun ⟨j, h1, h2, h3⟩ => ⟨j, h1, by simpa using h1, h3⟩, fun ⟨j, h1, h2, h3⟩ => ⟨j, h1, hall j h1, h3⟩⟩
      simp only [hex]
    · -- some are left: the least of them may come up
      have hleast : ∃ k, k < N ∧ listed.getD k true = false ∧ ∀ j, j < k → listed.getD j true = true := by
        have key : ∀ n, (∃ i, i < n ∧ listed.getD i true = false) → ∃ k, k < n ∧ listed.getD k true = false ∧ ∀ j, j < k → listed.getD j true = true := by
          intro n
          induction n with
          | zero => rintro ⟨i, hi, _⟩; omega
          | succ n ihn =>
            intro hex
            by_cases h1 : ∃ i, i < n ∧ listed.getD i true = false
            · obtain ⟨k, hk, h2, h3⟩ := ihn h1; exact ⟨k, by omega, h2, h3⟩
            · obtain ⟨i, hi, h2⟩ := hex
              have hin : i = n := by
                by_cases h : i < n
                · exact absurd ⟨i, h, h2⟩ h1
                · omega
              subst hin
              refine ⟨i, hi, h2, fun j hj => ?_⟩
              cases hb : listed.getD j true with
              | true => rfl
              | false => exact absurd ⟨j, hj, hb⟩ h1
        refine key N ?_
        refine Classical.byContradiction fun hno => hall fun i hi => ?_
        cases hb : listed.getD i true with
        | true => rfl
        | false => exact absurd ⟨i, hi, hb⟩ hno
      obtain ⟨k0, hk0, hk1, hk2⟩ := hleast
      have hk0f : listed.getD k0 false = false := by rw [getD_tf (by omega) false true]; exact hk1
      obtain ⟨o0, ho0⟩ : ∃ o, ops[k0]? = some o := ⟨_, Array.getElem?_eq_getElem (by omega)⟩
      have hr0 : k0 ∈ Region.ready .any ops listed := mem_ready.2 ⟨hk1, o0, ho0, fun e he hb => by
        have := hok.back k0 o0 ho0 e he hb
        rw [getD_tf (by omega) false true]; exact hk2 _ this⟩
      refine ⟨(fun h0 => by rw [h0] at hr0; cases hr0), fun i hi => ?_⟩
      obtain ⟨hiu, o, ho, hiall⟩ := mem_ready.1 hi
      have his : i < ops.size := (Array.getElem?_eq_some_iff.1 ho).1
      have hiN : i < N := by
        by_cases h : N ≤ i
        · exact absurd hi (not_ready hcl hk0f (hok.tail i k0 h his (by omega)))
        · omega
      obtain ⟨d, hd⟩ := hok.dsts i hiN
      have hod : o.dst = some d := by simpa [dstAt, ho] using hd
      have hsel : ∀ cs b, o.op ≠ .select cs b := fun cs b => Region.noSelect_spec hok.sel i o cs b ho
      obtain ⟨al, hal⟩ := Fits.exist (a0 := a0) hok V i (by omega)
      have hgi : Goods ops W φ i V M X := hg.congr (by omega) (fun _ _ => rfl)
      have hdep : ∀ j d', j < N → dstAt ops j = some d' → d' ∈ o.looksAt ops → j < i ∧ listed.getD j true = true := by
        intro j d' hj hd' hlk
        obtain ⟨h1, e, he, hb, heq⟩ := hok.looks i o j d' hiN hj ho hd' hlk
        refine ⟨h1, ?_⟩
        have := hiall e he hb
        rw [heq] at this
        rw [getD_tf (by omega) true false]; exact this
      obtain ⟨e1, e2⟩ := hal.sees hf hsel (fun j d' hj hd' hlk => by
        have := hdep j d' hj hd' hlk
        simp [this.1, this.2])
      have e3 : al.tmps.size = a.tmps.size := by
        have h1 := fun s => congrArg Option.isSome (hal.2 s)
        have h2 := fun s => congrArg Option.isSome (hf.2 s)
        simp only [Option.isSome_map] at h1 h2
        have h3 : ∀ s, s < al.tmps.size ↔ s < a.tmps.size := by
          intro s
          have h4 := (h1 s).trans (h2 s).symm
          by_cases h5 : s < al.tmps.size <;> by_cases h6 : s < a.tmps.size
          · exact ⟨fun _ => h6, fun _ => h5⟩
          · rw [Array.getElem?_eq_getElem h5, Array.getElem?_eq_none (by omega)] at h4; cases h4
          · rw [Array.getElem?_eq_getElem h6, Array.getElem?_eq_none (by omega)] at h4; cases h4
          · exact ⟨fun h => absurd h h5, fun h => absurd h h6⟩
        rcases Nat.lt_trichotomy al.tmps.size a.tmps.size with h | h | h
        · have := (h3 al.tmps.size).2 h; omega
        · exact h
        · have := (h3 a.tmps.size).1 h; omega
      have hs1 : stepUp P ops o a w (fun v w' => Up w w' ∧ φ i v w.heap.size w' ∧ (d = d0 → v = V s0)) := by
        by_cases h0 : d = d0
        · have hd0 : dstAt ops i = some d0 := by rw [hd, h0]
          obtain ⟨hop, hgd⟩ := hcp i o hiN ho (by rw [hod, h0])
          obtain ⟨j, hj, hdj⟩ := hs0
          have hlk : s0 ∈ o.looksAt ops := List.mem_append_left _ (List.mem_filterMap.2 ⟨.tmp s0, by simp [Op.operands, hop], rfl⟩)
          have hlj := (hdep j s0 hj hdj hlk).2
          have hval : a.tmps[s0]? = some (V s0) := by
            rw [hf.2 s0, Array.getElem?_eq_getElem hsz0]
            simp only [Option.map_some]
            rw [if_pos ⟨j, hj, hlj, hdj⟩]
          have hev : a.eval (.tmp s0) = V s0 := by
            show a.tmps.getD s0 undef = V s0
            rw [Array.getD_eq_getD_getElem?, hval]; rfl
          unfold stepUp
          rw [if_pos (by simp [Region.wanted, hgd])]
          have hrun : (execOp a.eval o).run P w = .ok (.value (V s0)) w := by
            rw [← hev]
            unfold execOp
            rw [hop]
            rfl
          rw [hrun]
          exact ⟨V s0, .inl rfl, Up.refl _, by rw [(hst i hiN).1 hd0]; trivial, fun _ => rfl⟩
        · have hn0 : dstAt ops i ≠ some d0 := by rw [hd]; intro e; exact h0 (Option.some.inj e)
          have hs2 := (hst i hiN).2 hn0 o ho V M X hgi al hal w hw (fun j d' hj hd' hlk => hx j d' (by omega) (hdep j d' (by omega) hd' hlk).2 hd')
          exact stepUp_mono (fun v w' h => ⟨h.1, h.2, fun e => absurd e h0⟩) (stepUp_congr hs2 e1 e2 e3)
      refine stepUp_op ho hs1 ?_
      rintro v w' ⟨hu, hv, hvd⟩
      rw [hod]
      have hne : ∀ j d', j < N → j ≠ i → dstAt ops j = some d' → d' ≠ d := by
        rintro j d' hj hji hd' rfl
        exact hji (hok.inj j i _ hj hiN hd' hd)
      have hget : ∀ j, j < ops.size → (listed.setIfInBounds i true).getD j true = true → j = i ∨ listed.getD j true = true := by
        intro j hj h
        by_cases hji : i = j
        · exact .inl hji.symm
        · rw [getD_set_ne true hji] at h; exact .inr h
      refine ih (listed.setIfInBounds i true) (fun s => if s = d then v else if s = d0 ∧ d = s0 then v else V s) (fun s => if s = d then w.heap.size else M s) (fun s => if s = d then w' else X s) _ w' (by simpa using hsz) (hcl.set hi) ?_ ?_ ?_ ?_ ?_ ?_ (hw.trans hu) ?_
      · intro k hk hks
        rw [getD_set_ne true (by omega)]; exact htl k hk hks
      · by_cases h1 : d = d0
        · have hne0 : s0 ≠ d := by rw [h1]; exact Ne.symm hds
          simp only [h1, if_true]
          rw [if_neg (by rw [← h1]; exact hne0), if_neg (by rintro ⟨e, _⟩; exact hds e.symm)]
          exact hvd h1
        · by_cases h2 : d = s0
          · simp only [h2, if_true, and_self, if_neg hds]
          · simp only [if_neg (Ne.symm h1), if_neg (Ne.symm h2), h2, and_false, if_false]
            exact hvv
      · intro j d' hj hd'
        by_cases hji : j = i
        · subst hji
          rw [hd] at hd'; cases hd'
          simp only [if_true]
          exact ⟨hv, hw.trans hu, hw.size⟩
        · simp only [if_neg (hne j d' hj hji hd')]
          by_cases h5 : d' = d0 ∧ d = s0
          · have := hg j d' hj hd'
            rw [(hst j hj).1 (by rw [hd', h5.1])] at this ⊢
            exact ⟨trivial, this.2⟩
          · simp only [if_neg h5]
            exact hg j d' hj hd'
      · intro j d' hj hlj hd'
        by_cases hji : j = i
        · subst hji
          rw [hd] at hd'; cases hd'
          simp only [if_true]
          exact Up.refl _
        · simp only [if_neg (hne j d' hj hji hd')]
          exact (hx j d' hj ((hget j (by omega) hlj).resolve_left hji) hd').trans hu
      · intro j k d1 d2 hj hk hjk hlj hlk h1 h2
        by_cases hji : j = i
        · subst hji
          rw [hd] at h1; cases h1
          have hkj : k ≠ j := Ne.symm hjk
          simp only [if_true, if_neg (hne k d2 hk hkj h2)]
          exact .inr (hx k d2 hk ((hget k (by omega) hlk).resolve_left hkj) h2).size
        · by_cases hki : k = i
          · subst hki
            rw [hd] at h2; cases h2
            simp only [if_true, if_neg (hne j d1 hj hji h1)]
            exact .inl (hx j d1 hj ((hget j (by omega) hlj).resolve_left hji) h1).size
          · simp only [if_neg (hne j d1 hj hji h1), if_neg (hne k d2 hk hki h2)]
            exact hdis j k d1 d2 hj hk hjk ((hget j (by omega) hlj).resolve_left hji) ((hget k (by omega) hlk).resolve_left hki) h1 h2
      · have hf2 : Fits N ops a0 (fun i => listed.getD i true) (fun s => if s = d then V s else if s = d0 ∧ d = s0 then v else V s) a := by
          refine hf.congr fun j d' hj hlj hd' => ?_
          by_cases h6 : d' = d
          · simp only [if_pos h6]
          · simp only [if_neg h6]
            by_cases h5 : d' = d0 ∧ d = s0
            · exfalso
              obtain ⟨oj, hoj⟩ : ∃ oj, ops[j]? = some oj := ⟨_, Array.getElem?_eq_getElem (by omega)⟩
              have hoj2 : oj.dst = some d0 := by have := hd'; simp only [dstAt, hoj, Option.bind_some] at this; rw [this, h5.1]
              obtain ⟨hop, _⟩ := hcp j oj hj hoj hoj2
              have hlk : d ∈ oj.looksAt ops := List.mem_append_left _ (List.mem_filterMap.2 ⟨.tmp s0, by simp [Op.operands, hop], by rw [h5.2]⟩)
              obtain ⟨_, e, he, hb, heq⟩ := hok.looks j oj i d hj hiN hoj hd hlk
              have h7 := hcl j oj hoj hlj (by omega) e he hb
              rw [heq, getD_tf (by omega) false true, hiu] at h7
              cases h7
            · simp only [if_neg h5]
        have := hf2.put (S' := fun j => (listed.setIfInBounds i true).getD j true) (V' := fun s => if s = d then v else if s = d0 ∧ d = s0 then v else V s) hiN hd (by
          intro j
          by_cases hji : i = j
          · subst hji; simp [Array.getD_eq_getD_getElem?, show i < listed.size by omega]
          · rw [getD_set_ne true hji]; simp; intro h; exact absurd h.symm hji) (by intro s hs; simp [hs])
        simpa using this
      · have := leftN_set hiu ops.size
        rw [if_pos his] at this
        omega

/-- THE RULE -/
def copyB (N : Nat) (l : List Oper) (d0 s0 : Nat) : Bool :=
  ((l.take N).all fun o => o.dst != some d0 || (match o.op with | .assign (.tmp s) => s == s0 | _ => false) && o.guard.isNone) && ((l.take N).any fun o => o.dst == some s0) && d0 != s0
theorem wp_region_flow {id : Nat} {l : List Oper} {Q : Exit → Act → World → Prop} {a : Act} {w : World} (N d0 s0 : Nat) (hm : P.follows .mixedOrders = true) (hB : flowB N l = true) (hC : copyB N l d0 s0 = true) (hsz0 : s0 < a.tmps.size)
    (h : Flow P l.toArray w d0 (flowEnd P l.toArray w d0 s0 Q) N l [] a) : (Code.region id l.toArray true).wp P Q a w := by
  have hok := flowB_spec hB
  have hN : N ≤ l.length := by simpa using hok.le
  obtain ⟨φ, _, hst, hend⟩ := flow_table (a0 := a) hok N 0 l [] a (fun _ _ _ _ => True) (by omega) (by simp) ⟨fun V M X _ => by have := Fits.none (N := N) (ops := l.toArray) (a0 := a) V; simpa [fill] using this, by simp⟩ h
  refine wp_region_any hm ?_
  obtain ⟨V0, M, X, T, hg0, _, _⟩ := goods_exist hok (fun i hi => hst i (Nat.zero_le _) hi) N (Nat.le_refl _)
  simp only [copyB, Bool.and_eq_true, List.all_eq_true, List.any_eq_true, bne_iff_ne, beq_iff_eq, Bool.or_eq_true] at hC
  obtain ⟨⟨hc1, o1, ho1, hc2⟩, hds⟩ := hC
  have hcp : ∀ i o, i < N → l.toArray[i]? = some o → o.dst = some d0 → o.op = .assign (.tmp s0) ∧ o.guard = none := by
    intro i o hi ho hd
    have hmem : o ∈ l.take N := List.mem_of_getElem? (i := i) (by rw [List.getElem?_take_of_lt hi]; simpa using ho)
    rcases hc1 o hmem with h1 | ⟨h1, h2⟩
    · exact absurd hd h1
    · refine ⟨?_, by simpa using h2⟩
      split at h1
      · rename_i s hs; rw [hs, beq_iff_eq.1 h1]
      · cases h1
  have hs0 : ∃ j, j < N ∧ dstAt l.toArray j = some s0 := by
    obtain ⟨j, hj, e⟩ := List.mem_iff_getElem.1 ho1
    rw [List.length_take] at hj
    rw [List.getElem_take] at e
    refine ⟨j, by omega, ?_⟩
    simp only [dstAt, List.getElem?_toArray]
    rw [List.getElem?_eq_getElem (by omega), e]; exact hc2
  obtain ⟨V, hvv, hg⟩ : ∃ V : Nat → Value, V d0 = V s0 ∧ Goods l.toArray w φ N V M X := by
    refine ⟨fun s => if s = d0 then V0 s0 else V0 s, by simp [Ne.symm hds], ?_⟩
    intro i d hi hd
    have h1 := hg0 i d hi hd
    by_cases h2 : d = d0
    · rw [(hst i (Nat.zero_le _) hi).1 (by rw [hd, h2])]
      exact ⟨trivial, h1.2⟩
    · simp only [if_neg h2]; exact h1
  have hun : ∀ i, i < l.length → (Array.replicate l.toArray.size false).getD i true = false := by
    intro i hi
    simp [Array.getD_eq_getD_getElem?, hi]
  refine run_flow hok (fun i hi => hst i (Nat.zero_le _) hi) hcp hs0 hds hsz0 (l2 := l.drop N) (by intro j; simp) (by simp; omega) hend _ _ V M X a _ (by simp) ?_ ?_ hvv hg ?_ ?_ ?_ ?_ ?_
  · intro j oj hj hl hs
    simp at hs
    rw [hun j hs] at hl; cases hl
  · intro k hk hks
    exact hun k (by simpa using hks)
  · intro i d hi hl
    rw [hun i (by omega)] at hl; cases hl
  · intro i j d d' hi hj hne hl
    rw [hun i (by omega)] at hl; cases hl
  · have := Fits.none (N := N) (ops := l.toArray) (a0 := a) V
    refine ⟨this.1, fun s => ?_⟩
    have hno : ¬ ∃ i, i < N ∧ (Array.replicate l.toArray.size false).getD i true = true ∧ dstAt l.toArray i = some s := by
      rintro ⟨i, hi, hl, _⟩
      rw [hun i (by omega)] at hl; cases hl
    simp only [if_neg hno]
    simp
  · exact ⟨rfl, rfl, rfl, Nat.le_refl _, fun _ _ => rfl⟩
  · have key : ∀ n, n ≤ l.length → leftN (Array.replicate l.toArray.size false) n ≤ n := by
      intro n
      induction n with
      | zero => intro _; simp [leftN]
      | succ n ih => intro h; unfold leftN; have := ih (by omega); split <;> omega
    simpa using key l.length (Nat.le_refl _)
end
end Go.Fc
