/- What the laws on products and on errors share: products with empty rows, steps of a flow for calls that answer a row and an error. -/
import Derived.Test.YtjgdbfhpjjmjkaaDoorNz
namespace Go.Proofs.YtjgdbfhpjjmjkaaDoor
open Go.RowKit Att Att.CRing
/- ───── products, with empty rows ───── -/
open Classical in
noncomputable def mm (l k : List F) : List F := if l.length = 0 ∨ k.length = 0 then [] else mulL l k
theorem mulOf_mm {l k : List F} (hl : l.length ≤ 10000) (hk : k.length ≤ 10000) : mulOf l k = (mm l k, 0) := by
  unfold mulOf mm
  by_cases h : l.length = 0 ∨ k.length = 0
  · rw [if_pos h, if_pos h]
  · rw [if_neg h, if_neg h, if_pos (by omega)]
theorem mm_len0 {l k : List F} (h : l.length = 0 ∨ k.length = 0) : (mm l k).length = 0 := by unfold mm; rw [if_pos h]; rfl
theorem mm_len {l k : List F} (hl : 0 < l.length) (hk : 0 < k.length) : (mm l k).length = l.length + k.length - 1 := by unfold mm; rw [if_neg (by omega), mulL_length]
theorem co_zero_len {l : List F} (h : l.length = 0) (i : Nat) : co l i = 0 := co_big l i (by omega)
theorem co_mm (l k : List F) (i : Nat) : co (mm l k) i = conv (co l) (co k) i := by
  unfold mm
  by_cases h : l.length = 0 ∨ k.length = 0
  · rw [if_pos h, co_nil]
    unfold conv
    symm
    apply sm_eq_zero
    intro j _
    rcases h with h | h
    · rw [co_zero_len h, zero_mul]
    · rw [co_zero_len h, mul_zero]
  · rw [if_neg h, co_mulL]
theorem mm_comm (l k : List F) : mm l k = mm k l := by
  refine list_ext_co ?_ (fun i _ => by rw [co_mm, co_mm, conv_comm])
  rcases Nat.eq_zero_or_pos l.length with h | h
  · rw [mm_len0 (.inl h), mm_len0 (.inr h)]
  · rcases Nat.eq_zero_or_pos k.length with h2 | h2
    · rw [mm_len0 (.inr h2), mm_len0 (.inl h2)]
    · rw [mm_len h h2, mm_len h2 h, Nat.add_comm]
theorem mm_assoc (a b c : List F) : mm (mm a b) c = mm a (mm b c) := by
  refine list_ext_co ?_ (fun i _ => by
    rw [co_mm, co_mm, conv_congr (f' := conv (co a) (co b)) (g' := co c) (fun j _ => co_mm a b j) (fun _ _ => rfl), conv_congr (f := co a) (f' := co a) (g' := conv (co b) (co c)) (fun _ _ => rfl) (fun j _ => co_mm b c j), conv_assoc])
  rcases Nat.eq_zero_or_pos a.length with h | h
  · rw [mm_len0 (.inl (mm_len0 (.inl h))), mm_len0 (.inl h)]
  · rcases Nat.eq_zero_or_pos b.length with h2 | h2
    · rw [mm_len0 (.inl (mm_len0 (.inr h2))), mm_len0 (.inr (mm_len0 (.inl h2)))]
    · rcases Nat.eq_zero_or_pos c.length with h3 | h3
      · rw [mm_len0 (.inr h3), mm_len0 (.inr (mm_len0 (.inr h3)))]
      · have e1 := mm_len h h2
        have e2 := mm_len h2 h3
        rw [mm_len (l := mm a b) (by omega) h3, mm_len (l := a) (k := mm b c) h (by omega), e1, e2]
        omega
theorem co_mm_add (a b c : List F) (i : Nat) : co (mm a (padd b c)) i = co (mm a b) i + co (mm a c) i := by
  rw [co_mm, co_mm, co_mm, ← conv_add]
  exact conv_congr (fun _ _ => rfl) (fun j _ => co_padd b c j)
theorem mm_one (a : List F) : mm a [fo 1] = a := by
  have e1 : (fo 1 : F) = 1 := rfl
  refine list_ext_co ?_ (fun i _ => ?_)
  · rcases Nat.eq_zero_or_pos a.length with h | h
    · rw [mm_len0 (.inl h), h]
    · rw [mm_len h (by simp)]; simp
  · rw [co_mm]
    unfold conv
    rw [sm_single i (by omega) (fun j hj hne => by
      rw [co_big [fo 1] (i - j) (by simp; omega), mul_zero])]
    rw [Nat.sub_self, co_cons_zero, e1, mul_one]
theorem r_add0 (y : F) (w : World) : Calls Tryd.prog 25 #[.int .u64 0, .int .u64 (Zm.i (y))] w fun e w' => e = .returned (.int .u64 (Zm.i (y))) ∧ w = w' := by
  have h := r_add 0 (Zm.i y) w
  rwa [int_i, int_zero, zero_add] at h
def fvE (l : List F) (r : Int) : Rel := fun v _ y => ∃ A n c, v = .tuple #[.slice A n c, .int .i64 r] ∧ SF y A n c l
def isFE (l : List F) (r : Int) (v : Value) (w : World) : Prop := ∃ A n c, v = .tuple #[.slice A n c, .int .i64 r] ∧ SF w A n c l
theorem isFE.up {l : List F} {r : Int} {v : Value} {x w : World} (h : isFE l r v x) (g : Up x w) : isFE l r v w := by
  obtain ⟨A, n, c, e, hs⟩ := h; exact ⟨A, n, c, e, hs.up (Gn.of g)⟩
section
variable {ops : Array Oper} {W : World} {o : Oper} {Γ : List Ent} {a : Act}
theorem arg_fe {l : List F} {r : Int} (i : Nat) {s : Nat} (h : Γ[i]? = some ⟨s, fvE l r⟩) (hs : Nat.ble (s + 1) a.tmps.size = true) (hl : (o.looksAt ops).contains s = true) : Arg ops W o Γ a (.tmp s) (isFE l r) := by
  have hm := List.mem_of_getElem? h
  intro V N X hΓ w _ hX
  rw [fill_mem (Nat.le_of_ble_eq_true hs) ⟨_, hm, rfl⟩]
  have h1 : fvE l r (V s) (N s) (X s) := (hΓ _ hm).1
  exact isFE.up h1 (hX _ hm (by simpa using hl))
theorem ex_mvF {x : Operand} {l : List F} {r : Int} (hx : Arg ops W o Γ a x (isFE l r)) (hop : o.op = .move x) (hw : ∀ V, Region.wanted o (yielded ops (fill Γ V a).tmps) = true) : ExS Tryd.prog ops W o Γ a (fvE l r) := by
  refine ⟨?_⟩
  intro V N X hΓ g hX K hK
  have h := hx V N X hΓ _ (Up.gr W g) hX
  simp only [wpList]
  rw [if_pos (hw V)]
  left
  unfold Oper.wp execOp
  simp only [hop]
  exact hK _ _ (Up.refl _) h
theorem ex_e0F {x : Operand} {l : List F} {r : Int} (hx : Arg ops W o Γ a x (isFE l r)) (hop : o.op = .extract x 0) (hw : ∀ V, Region.wanted o (yielded ops (fill Γ V a).tmps) = true) : ExS Tryd.prog ops W o Γ a (fv l) := by
  refine ⟨?_⟩
  intro V N X hΓ g hX K hK
  obtain ⟨A, n, c, he, hs⟩ := hx V N X hΓ _ (Up.gr W g) hX
  simp only [wpList]
  rw [if_pos (hw V)]
  left
  unfold Oper.wp execOp
  simp only [hop, he]
  exact hK (.slice A n c) _ (Up.refl _) ⟨A, n, c, rfl, hs⟩
theorem ex_e1F {x : Operand} {l : List F} {r : Int} (hx : Arg ops W o Γ a x (isFE l r)) (hop : o.op = .extract x 1) (hw : ∀ V, Region.wanted o (yielded ops (fill Γ V a).tmps) = true) : ExS Tryd.prog ops W o Γ a (fun v _ _ => v = .int .i64 r) := by
  refine ⟨?_⟩
  intro V N X hΓ g hX K hK
  obtain ⟨A, n, c, he, hs⟩ := hx V N X hΓ _ (Up.gr W g) hX
  simp only [wpList]
  rw [if_pos (hw V)]
  left
  unfold Oper.wp execOp
  simp only [hop, he]
  exact hK (.int .i64 r) _ (Up.refl _) rfl
end
theorem arg_and {R : Value → World → Prop} {S : World → Prop} {ops : Array Oper} {W : World} {o : Oper} {Γ : List Ent} {a : Act} {x : Operand} (hx : Arg ops W o Γ a x R) (hs : ∀ w, Up W w → S w) : Arg ops W o Γ a x (fun v w => R v w ∧ S w) :=
  fun V N X hΓ w hw hX => ⟨hx V N X hΓ w hw hX, hs w hw⟩
theorem arg_mk {m : Nat} {ops : Array Oper} {W : World} {o : Oper} {Γ : List Ent} {a : Act} (i : Nat) {s : Nat} (h : Γ[i]? = some ⟨s, mkF m⟩) (hs : Nat.ble (s + 1) a.tmps.size = true) (hl : (o.looksAt ops).contains s = true) (hm : m ≤ 9223372036854775807) : Arg ops W o Γ a (.tmp s) (isF (List.replicate m 0)) := by
  have hmem := List.mem_of_getElem? h
  intro V N X hΓ w _ hX
  rw [fill_mem (Nat.le_of_ble_eq_true hs) ⟨_, hmem, rfl⟩]
  have h1 : mkF m (V s) (N s) (X s) := (hΓ _ hmem).1
  obtain ⟨b, e, _, hB⟩ := h1
  refine isF.up ⟨_, _, _, e, ?_⟩ (hX _ hmem (by simpa using hl))
  have := hB.sf (by simpa using hm)
  rwa [List.length_replicate] at this
theorem k_mulE {l k r : List F} {z : Int} (hl : l.length ≤ 1000000) (hk : k.length ≤ 1000000) (he : mulOf l k = (r, z)) : ∀ u v w, (isF l u w ∧ Tab w) → isF k v w → Calls Tryd.prog 20 #[u, v] w (Ans (fvE r z) w) := by
  rintro u v w ⟨⟨A, n, c, rfl, h1⟩, hT⟩ ⟨B, m, d, rfl, h2⟩
  obtain rfl := h1.len
  obtain rfl := h2.len
  refine (n_mul _ _ _ _ _ _ _ _ _ hT h1 h2 hl hk).mono ?_
  rintro e w' ⟨⟨A', c', rfl, hs⟩, g⟩
  rw [he] at hs ⊢
  exact ⟨_, rfl, g.below, A', _, c', rfl, hs⟩
end Go.Proofs.YtjgdbfhpjjmjkaaDoor
