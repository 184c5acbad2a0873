/- Steps of a flow that build slices. -/
import Derived.Test.YtjchccpicddpoaaKc
namespace Go.Proofs.Ytjchccpicddpoaa
open Go.RowKit Att Att.CRing
section
variable {ops : Array Oper} {W : World} {o : Oper} {Γ : List Ent} {a : Act}
theorem ex_bld {t e : TypeId} {n : Nat} {parts : Array (Nat × Operand)} {φ : Rel} (hop : o.op = .buildSlice t n parts) (hw : ∀ V, Region.wanted o (yielded ops (fill Γ V a).tmps) = true)
    (hr : ∀ (V : Nat → Value) (N : Nat → Nat) (X : Nat → World), (∀ e ∈ Γ, e.rel (V e.slot) (N e.slot) (X e.slot) ∧ Up W (X e.slot)) → ∀ w, Up W w → (∀ e ∈ Γ, e.slot ∈ o.looksAt ops → Up (X e.slot) w) →
      ∃ cells, (Instr.buildSlice t n (parts.map fun (i, x) => (i, (fill Γ V a).eval x))).run Try.prog w = .ok (.slice (some ⟨w.heap.size, 0, none⟩) n n) (w.alloc (.cells cells e)) ∧ φ (.slice (some ⟨w.heap.size, 0, none⟩) n n) w.heap.size (w.alloc (.cells cells e))) :
    ExStep Try.prog ops W o Γ a φ := by
  intro V N X hΓ g hX K hK
  obtain ⟨cells, h1, h2⟩ := hr V N X hΓ _ (Up.gr W g) hX
  simp only [wpList]
  rw [if_pos (hw V)]
  left
  unfold Oper.wp execOp
  simp only [hop, Sem.run_bind, h1, Result.andThen_ok]
  exact hK _ _ (Gn.al _).below h2
theorem ex_one' {s : Operand} {x : Ext} (hx : Arg ops W o Γ a s (isV (.agg #[.int .u64 (Zm.i (Ext.a (x))), .int .u64 (Zm.i (Ext.b (x)))]))) (hop : o.op = .buildSlice 22 1 #[(0, s)]) (hw : ∀ V, Region.wanted o (yielded ops (fill Γ V a).tmps) = true) : ExS Try.prog ops W o Γ a (sv [x]) := by
  refine ⟨ex_bld (e := 25) hop hw fun V N X hΓ w hw hX => ?_⟩
  have h1 : (fill Γ V a).eval s = .agg #[.int .u64 (Zm.i (Ext.a (x))), .int .u64 (Zm.i (Ext.b (x)))] := hx V N X hΓ w hw hX
  obtain ⟨i0, hi, hz0, hz1, hz2⟩ := info_parts extInfo
  have hr := run_buildSlice (P := Try.prog) w 22 25 1 #[(0, .agg #[.int .u64 (Zm.i (Ext.a (x))), .int .u64 (Zm.i (Ext.b (x)))])] #[.int .u64 (Zm.i (Ext.a x)), .int .u64 (Zm.i (Ext.b x))] i0 _ Try.underlying22 hi hz0 (by rw [hz1]; decide) (by rw [hz1]; decide) (by rw [hz1]; kernel_rfl)
  refine ⟨_, ?_, sl_one x⟩
  rw [← hr]
  simp [h1]
theorem ex_two {s t : Operand} {x y : Ext} (hx : Arg ops W o Γ a s (isV (.agg #[.int .u64 (Zm.i (Ext.a (x))), .int .u64 (Zm.i (Ext.b (x)))]))) (hy : Arg ops W o Γ a t (isV (.agg #[.int .u64 (Zm.i (Ext.a (y))), .int .u64 (Zm.i (Ext.b (y)))]))) (hop : o.op = .buildSlice 22 2 #[(0, s), (1, t)]) (hw : ∀ V, Region.wanted o (yielded ops (fill Γ V a).tmps) = true) : ExS Try.prog ops W o Γ a (sv [x, y]) := by
  refine ⟨ex_bld (e := 25) hop hw fun V N X hΓ w hw hX => ?_⟩
  have h1 : (fill Γ V a).eval s = .agg #[.int .u64 (Zm.i (Ext.a (x))), .int .u64 (Zm.i (Ext.b (x)))] := hx V N X hΓ w hw hX
  have h2 : (fill Γ V a).eval t = .agg #[.int .u64 (Zm.i (Ext.a (y))), .int .u64 (Zm.i (Ext.b (y)))] := hy V N X hΓ w hw hX
  obtain ⟨i0, hi, hz0, hz1, hz2⟩ := info_parts extInfo
  have hr := run_buildSlice (P := Try.prog) w 22 25 2 #[(0, .agg #[.int .u64 (Zm.i (Ext.a (x))), .int .u64 (Zm.i (Ext.b (x)))]), (1, .agg #[.int .u64 (Zm.i (Ext.a (y))), .int .u64 (Zm.i (Ext.b (y)))])] #[.int .u64 (Zm.i (Ext.a x)), .int .u64 (Zm.i (Ext.b x)), .int .u64 (Zm.i (Ext.a y)), .int .u64 (Zm.i (Ext.b y))] i0 _ Try.underlying22 hi hz0 (by rw [hz1]; decide) (by rw [hz1]; decide) (by rw [hz1]; kernel_rfl)
  refine ⟨_, ?_, sl_two x y⟩
  rw [← hr]
  simp [h1, h2]
theorem int64Info : (Try.prog.info? 2).map (fun i => (i.zero, i.size, i.bytes)) = some (some (.int .i64 0), 1, 8) := by kernel_rfl
theorem SlI.of' {w : World} {b : Nat} {l : List Int} (h : w.heap[b]? = some (.cells (fi l).toArray 2)) (hr : ∀ z ∈ l, -9223372036854775808 ≤ z ∧ z ≤ 9223372036854775807) (hs : l.length ≤ 9223372036854775807) : SlI w (some ⟨b, 0, none⟩) l.length l.length l :=
  ⟨rfl, Nat.le_refl _, hs, hr, fun _ => ⟨b, 0, rfl, blk_lt h, fun i z hz => by
    rw [Nat.zero_add]
    exact obj_cell h _ (by simp [fi, hz])⟩⟩
/-- constant integers -/
theorem ex_bi {l : List Int} {n : Nat} {parts : Array (Nat × Operand)} (hop : o.op = .buildSlice 46 n parts) (hw : ∀ V, Region.wanted o (yielded ops (fill Γ V a).tmps) = true) (hp : parts.all (fun p => match p.2 with | .const _ => true | _ => false) = true)
    (hn : l.length = n) (hr : ∀ z ∈ l, -9223372036854775808 ≤ z ∧ z ≤ 9223372036854775807) (hs : n ≤ 1000) (h0 : 0 < n)
    (hf : Instr.fill (fun i => some (i * 1, 1)) ((Array.range (n * 1)).map ((Value.int .i64 0).cells[· % (Value.int .i64 0).cells.size]!)) (parts.map fun p => (p.1, match p.2 with | .const c => c | _ => undef)).toList = some (fi l).toArray) : ExS Try.prog ops W o Γ a (si l) := by
  refine ⟨ex_bld (e := 2) hop hw fun V N X hΓ w hw hX => ?_⟩
  have he : (parts.map fun p => (p.1, (fill Γ V a).eval p.2)) = parts.map fun p => (p.1, match p.2 with | .const c => c | _ => undef) := by
    apply Array.map_congr_left
    intro p hpm
    have := (Array.all_eq_true'.1 hp) p hpm
    obtain ⟨i, x⟩ := p
    cases x <;> simp at this
    rfl
  obtain ⟨i0, hi, hz0, hz1, hz2⟩ := info_parts int64Info
  have hr' := run_buildSlice (P := Try.prog) w 46 2 n _ (fi l).toArray i0 _ Try.underlying46 hi hz0 (by rw [hz1]; omega) (by rw [hz1]; omega) (by rw [hz1]; exact hf)
  subst hn
  refine ⟨_, ?_, _, _, _, rfl, SlI.of' (hnew w _) hr (by omega)⟩
  rw [← hr', ← he]
end
end Go.Proofs.Ytjchccpicddpoaa
