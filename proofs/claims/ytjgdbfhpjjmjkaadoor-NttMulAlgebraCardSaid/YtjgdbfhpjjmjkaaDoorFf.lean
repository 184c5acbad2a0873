/- Steps of a flow over slices of field elements and of raw numbers: made rows, stores, arguments. -/
import Derived.Test.YtjgdbfhpjjmjkaaDoorFg
import Derived.Test.YtjgdbfhpjjmjkaaDoorSu
namespace Go.Proofs.YtjgdbfhpjjmjkaaDoor
open Go.RowKit Att Att.CRing
/-- a made row of zeros -/
def mkF (m : Nat) : Rel := fun v n y => ∃ b, v = .slice (some ⟨b, 0, none⟩) m m ∧ n ≤ b ∧ BF y b (List.replicate m 0)
theorem ex_mkF {ops : Array Oper} {W : World} {Γ : List Ent} {a : Act} (d : Nat) (l c : Operand) (ty : TypeId) (pos : String) (aft : Array Edge) (m : Nat) (hl : ∀ V, (fill Γ V a).eval l = .int .i64 m) (hc : ∀ V, (fill Γ V a).eval c = .int .i64 m) (hm : m ≤ 1099511627776) :
    ExStep Tryd.prog ops W ⟨some d, .makeSlice 22 l c, ty, pos, aft, none⟩ Γ a (mkF m) := by
  intro V N X hΓ g hX K hK
  refine wpList_mkF l c m (hl V) (hc V) hm ?_
  refine wpList_nil ?_
  exact hK _ _ (Gn.al _).below ⟨_, rfl, Nat.le_refl _, hnew _ _⟩
theorem end_mkF2 {W : World} {Γ : List Ent} {V : Nat → Value} {N : Nat → Nat} {X : Nat → World} (h : ∀ e ∈ Γ, e.rel (V e.slot) (N e.slot) (X e.slot) ∧ Up W (X e.slot) ∧ W.heap.size ≤ N e.slot)
    (hd : ∀ e ∈ Γ, ∀ e' ∈ Γ, e.slot ≠ e'.slot → (X e.slot).heap.size ≤ N e'.slot ∨ (X e'.slot).heap.size ≤ N e.slot)
    {w : World} (hX : ∀ e ∈ Γ, Up (X e.slot) w) (s t m k : Nat) (hs : ⟨s, mkF m⟩ ∈ Γ) (ht : ⟨t, mkF k⟩ ∈ Γ) (hne : s ≠ t) :
    ∃ b c, V s = .slice (some ⟨b, 0, none⟩) m m ∧ V t = .slice (some ⟨c, 0, none⟩) k k ∧ b ≠ c ∧ W.heap.size ≤ b ∧ W.heap.size ≤ c ∧ BF w b (List.replicate m 0) ∧ BF w c (List.replicate k 0) := by
  have h0 := h _ hs
  have h1 := h _ ht
  dsimp only at h0 h1
  obtain ⟨⟨b, b1, b2, b3⟩, _, b4⟩ := h0
  obtain ⟨c, c1, c2, c3⟩ := h1.1
  have c4 := h1.2.2
  have b5 := blk_lt b3
  have c5 := blk_lt c3
  refine ⟨b, c, b1, c1, ?_, Nat.le_trans b4 b2, Nat.le_trans c4 c2, b3.up (Gn.of (hX _ hs)), c3.up (Gn.of (hX _ ht))⟩
  have := hd _ hs _ ht hne
  dsimp only at this
  omega
theorem run_storeF {w : World} {b i : Nat} {l : List F} {rest : List Value} {x : F} (h : RF w b l rest) (hi : i < l.length) : (Instr.storeAt 34 (.pointer (some ⟨b, i, none⟩)) (.int .u64 (Zm.i (x)))).run Tryd.prog w = .ok () (setF w b i x) := by
  have c0 := h.cell (List.getElem?_eq_getElem hi)
  have f0 := box_fz (i := i) h
  simp [go_sem, c0, f0]
  rfl
theorem tail_storeF {ops : Array Oper} {Q : Exit → Act → World → Prop} {l : List Oper} {a : Act} {w : World} {s t : Operand} {ty : TypeId} {pos : String} {aft : Array Edge} {b i : Nat} {x : F} {k : List F} {rest : List Value}
    (hs : a.eval s = .pointer (some ⟨b, i, none⟩)) (ht : a.eval t = .int .u64 (Zm.i (x))) (h : RF w b k rest) (hi : i < k.length) (kk : wpList Tryd.prog ops Q l a (setF w b i x)) :
    wpList Tryd.prog ops Q (⟨none, .store 34 s t, ty, pos, aft, none⟩ :: l) a w := by
  simp only [wpList, Region.wanted, if_true]
  left
  unfold Oper.wp
  have e : (execOp a.eval ⟨none, .store 34 s t, ty, pos, aft, none⟩).run Tryd.prog w = .ok .skip (setF w b i x) := by
    simp only [execOp, hs, ht]
    simp only [Sem.run_bind, run_storeF h hi]
    rfl
  rw [e]
  exact kk
/-- a slice of field elements, wherever it lies; raw numbers -/
def isF (l : List F) (v : Value) (w : World) : Prop := ∃ A n c, v = .slice A n c ∧ SF w A n c l
def isW (l : List Int) (v : Value) (w : World) : Prop := ∃ A n c, v = .slice A n c ∧ SW w A n c l
def fv (l : List F) : Rel := fun v _ y => isF l v y
theorem isF.up {l : List F} {v : Value} {x w : World} (h : isF l v x) (g : Up x w) : isF l v w := by
  obtain ⟨A, n, c, e, hs⟩ := h; exact ⟨A, n, c, e, hs.up (Gn.of g)⟩
theorem isW.up {l : List Int} {v : Value} {x w : World} (h : isW l v x) (g : Up x w) : isW l v w := by
  obtain ⟨A, n, c, e, hs⟩ := h; exact ⟨A, n, c, e, hs.up (Gn.of g)⟩
theorem isF.gn {l : List F} {v : Value} {x w : World} (h : isF l v x) (g : Gn x w) : isF l v w := h.up g.below
section
variable {ops : Array Oper} {W : World} {o : Oper} {Γ : List Ent} {a : Act}
theorem arg_fv {l : List F} (i : Nat) {s : Nat} (h : Γ[i]? = some ⟨s, fv l⟩) (hs : Nat.ble (s + 1) a.tmps.size = true) (hl : (o.looksAt ops).contains s = true) : Arg ops W o Γ a (.tmp s) (isF l) := by
  have hm := List.mem_of_getElem? h
  intro V N X hΓ w _ hX
  rw [fill_mem (Nat.le_of_ble_eq_true hs) ⟨_, hm, rfl⟩]
  have h1 : fv l (V s) (N s) (X s) := (hΓ _ hm).1
  exact isF.up h1 (hX _ hm (by simpa using hl))
theorem arg_f0 {l : List F} {s : Nat} {v : Value} (h : (Γ.all fun e => e.slot != s) = true) (hc : a.eval (.tmp s) = v) (hl : isF l v W) : Arg ops W o Γ a (.tmp s) (isF l) := by
  intro V N X _ w hw _
  rw [fill_else h, hc]
  exact hl.up hw
theorem arg_w0 {l : List Int} {s : Nat} {v : Value} (h : (Γ.all fun e => e.slot != s) = true) (hc : a.eval (.tmp s) = v) (hl : isW l v W) : Arg ops W o Γ a (.tmp s) (isW l) := by
  intro V N X _ w hw _
  rw [fill_else h, hc]
  exact hl.up hw
/-- an argument of which nothing is asked -/
theorem arg_any {x : Operand} : Arg ops W o Γ a x (fun _ _ => True) := fun _ _ _ _ _ _ _ => trivial
variable {φ : Rel}
theorem ex_call3 {f : FuncId} {x y z : Operand} {ats : Array TypeId} {R S T : Value → World → Prop} (hC : ∀ u v t w, R u w → S v w → T t w → Calls Tryd.prog f #[u, v, t] w (Ans φ w)) (hop : o.op = .call { callee := .value (.func f), args := #[x, y, z], argTypes := ats })
    (hf : (Tryd.prog.funcs[f]?).map (fun fn => (fn.name == "runtime.NumGoroutine", fn.body.isNone)) = some (false, false))
    (hw : ∀ V, Region.wanted o (yielded ops (fill Γ V a).tmps) = true) (hx : Arg ops W o Γ a x R) (hy : Arg ops W o Γ a y S) (hz : Arg ops W o Γ a z T) : ExS Tryd.prog ops W o Γ a φ :=
  ⟨ex_call hop hf hw fun V N' X hΓ w hw hX => by
    have h := hC _ _ _ w (hx V N' X hΓ w hw hX) (hy V N' X hΓ w hw hX) (hz V N' X hΓ w hw hX)
    rwa [show #[(fill Γ V a).eval x, (fill Γ V a).eval y, (fill Γ V a).eval z] = #[x, y, z].map (fill Γ V a).eval from by simp] at h⟩
end
theorem OF.is {w : World} {base : Nat} {v : Value} {l : List F} (h : OF w base v l) : isF l v w := by
  obtain ⟨A, c, rfl, hs⟩ := h.sf
  exact ⟨A, _, c, rfl, hs⟩
/-- x[:h] -/
theorem u64Size (w : World) : (sizeOf 34).run Tryd.prog w = .ok 1 w := by
  obtain ⟨i0, hi0, hz0, hz1, hz2⟩ := info_parts u64Info
  simp [sizeOf, typeInfo, hi0, hz1]
theorem addr0 (A : Option Addr) (k : Nat) : (if k = 0 then A else A.map (·.add (0 * 1))) = A := by
  cases A with
  | none => simp
  | some p => obtain ⟨b, o, s⟩ := p; simp [Addr.add]
theorem slice_h {A : Option Addr} {n c h : Nat} (hh : h ≤ c) (w : World) : (Instr.slice 22 (.slice A n c) none (some (.int .i64 h)) none).run Tryd.prog w = .ok (.slice A h c) w := by
  have hu : Tryd.prog.underlying 22 = some (.slice (Tryd.prog.elem 22)) := by kernel_rfl
  have he : Tryd.prog.elem 22 = 34 := by kernel_rfl
  rw [run_slice_h w 22 A n c hu .i64 _ (by omega) (by omega), he, u64Size]
  simp only [Result.andThen, sliced, Int.toNat_natCast, Nat.sub_zero, addr0]
theorem slice_hm {A : Option Addr} {n c h : Nat} (hh : h ≤ c) (w : World) : (Instr.slice 22 (.slice A n c) none (some (.int .i64 h)) (some (.int .i64 h))).run Tryd.prog w = .ok (.slice A h h) w := by
  have hu : Tryd.prog.underlying 22 = some (.slice (Tryd.prog.elem 22)) := by kernel_rfl
  have he : Tryd.prog.elem 22 = 34 := by kernel_rfl
  rw [run_slice_hm w 22 A n c hu .i64 .i64 _ _ (by omega) (by omega) (by omega), he, u64Size]
  simp only [Result.andThen, sliced, Int.toNat_natCast, Nat.sub_zero, addr0]
theorem SF.takeM {w : World} {A : Option Addr} {n c : Nat} {l : List F} (h : SF w A n c l) {k : Nat} (hk : k ≤ n) : SF w A k k (l.take k) := by
  have h1 := h.take hk
  exact ⟨h1.len, Nat.le_refl _, Nat.le_trans h1.le h1.small, h1.cells⟩
end Go.Proofs.YtjgdbfhpjjmjkaaDoor
