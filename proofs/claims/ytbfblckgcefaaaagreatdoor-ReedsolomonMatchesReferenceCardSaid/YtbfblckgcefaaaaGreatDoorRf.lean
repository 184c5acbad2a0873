/- Steps of a flow over rows of field elements: literal rows, lengths, the reference's Same and Distance. -/
import Derived.Test.YtbfblckgcefaaaaGreatDoorRw10
namespace Go.Proofs.YtbfblckgcefaaaaGreatDoor
open Go.RowKit Att Att.CRing
section
variable {ops : Array Oper} {W : World} {o : Oper} {Γ : List Ent} {a : Act}
theorem ex_bld {t e : TypeId} {n : Nat} {parts : Array (Nat × Operand)} {φ : Rel} (hop : o.op = .buildSlice t n parts) (hw : ∀ V, Region.wanted o (yielded ops (fill Γ V a).tmps) = true)
    (hr : ∀ (V : Nat → Value) (N : Nat → Nat) (X : Nat → World), (∀ e ∈ Γ, e.rel (V e.slot) (N e.slot) (X e.slot) ∧ Up W (X e.slot)) → ∀ w, Up W w → (∀ e ∈ Γ, e.slot ∈ o.looksAt ops → Up (X e.slot) w) →
      ∃ cells, (Instr.buildSlice t n (parts.map fun (i, x) => (i, (fill Γ V a).eval x))).run Tryz.prog w = .ok (.slice (some ⟨w.heap.size, 0, none⟩) n n) (w.alloc (.cells cells e)) ∧ φ (.slice (some ⟨w.heap.size, 0, none⟩) n n) w.heap.size (w.alloc (.cells cells e))) :
    ExStep Tryz.prog ops W o Γ a φ := by
  intro V N X hΓ g hX K hK
  obtain ⟨cells, h1, h2⟩ := hr V N X hΓ _ (Up.gr W g) hX
  simp only [wpList]
  rw [if_pos (hw V)]
  left
  unfold Oper.wp execOp
  simp only [hop, Sem.run_bind, h1, Result.andThen_ok]
  exact hK _ _ (Gn.al _).below h2
theorem ex_row1 {s0 : Operand} {x0 : F} (h0 : Arg ops W o Γ a s0 (isV (.int .u64 (Zm.i (x0))))) (hop : o.op = .buildSlice 22 1 #[(0, s0)]) (hw : ∀ V, Region.wanted o (yielded ops (fill Γ V a).tmps) = true) : ExS Tryz.prog ops W o Γ a (fv [x0]) := by
  refine ⟨ex_bld (e := 39) hop hw fun V N X hΓ w hw hX => ?_⟩
  have e0 : (fill Γ V a).eval s0 = .int .u64 (Zm.i (x0)) := h0 V N X hΓ w hw hX
  obtain ⟨i0, hi, hz0, hz1, hz2⟩ := info_parts u64Info
  have hr := run_buildSlice (P := Tryz.prog) w 22 39 1 #[(0, .int .u64 (Zm.i (x0)))] #[.int .u64 (Zm.i (x0))] i0 _ Tryz.underlying22 hi hz0 (by rw [hz1]; decide) (by rw [hz1]; decide) (by rw [hz1]; kernel_rfl)
  refine ⟨_, ?_, _, _, _, rfl, (show BF (w.alloc (.cells #[.int .u64 (Zm.i (x0))] 39)) w.heap.size [x0] from hnew w _).sf (by simp)⟩
  rw [← hr]
  simp [e0]
theorem ex_row2 {s0 s1 : Operand} {x0 x1 : F} (h0 : Arg ops W o Γ a s0 (isV (.int .u64 (Zm.i (x0))))) (h1 : Arg ops W o Γ a s1 (isV (.int .u64 (Zm.i (x1))))) (hop : o.op = .buildSlice 22 2 #[(0, s0), (1, s1)]) (hw : ∀ V, Region.wanted o (yielded ops (fill Γ V a).tmps) = true) : ExS Tryz.prog ops W o Γ a (fv [x0, x1]) := by
  refine ⟨ex_bld (e := 39) hop hw fun V N X hΓ w hw hX => ?_⟩
  have e0 : (fill Γ V a).eval s0 = .int .u64 (Zm.i (x0)) := h0 V N X hΓ w hw hX
  have e1 : (fill Γ V a).eval s1 = .int .u64 (Zm.i (x1)) := h1 V N X hΓ w hw hX
  obtain ⟨i0, hi, hz0, hz1, hz2⟩ := info_parts u64Info
  have hr := run_buildSlice (P := Tryz.prog) w 22 39 2 #[(0, .int .u64 (Zm.i (x0))), (1, .int .u64 (Zm.i (x1)))] #[.int .u64 (Zm.i (x0)), .int .u64 (Zm.i (x1))] i0 _ Tryz.underlying22 hi hz0 (by rw [hz1]; decide) (by rw [hz1]; decide) (by rw [hz1]; kernel_rfl)
  refine ⟨_, ?_, _, _, _, rfl, (show BF (w.alloc (.cells #[.int .u64 (Zm.i (x0)), .int .u64 (Zm.i (x1))] 39)) w.heap.size [x0, x1] from hnew w _).sf (by simp)⟩
  rw [← hr]
  simp [e0, e1]
theorem ex_row3 {s0 s1 s2 : Operand} {x0 x1 x2 : F} (h0 : Arg ops W o Γ a s0 (isV (.int .u64 (Zm.i (x0))))) (h1 : Arg ops W o Γ a s1 (isV (.int .u64 (Zm.i (x1))))) (h2 : Arg ops W o Γ a s2 (isV (.int .u64 (Zm.i (x2))))) (hop : o.op = .buildSlice 22 3 #[(0, s0), (1, s1), (2, s2)]) (hw : ∀ V, Region.wanted o (yielded ops (fill Γ V a).tmps) = true) : ExS Tryz.prog ops W o Γ a (fv [x0, x1, x2]) := by
  refine ⟨ex_bld (e := 39) hop hw fun V N X hΓ w hw hX => ?_⟩
  have e0 : (fill Γ V a).eval s0 = .int .u64 (Zm.i (x0)) := h0 V N X hΓ w hw hX
  have e1 : (fill Γ V a).eval s1 = .int .u64 (Zm.i (x1)) := h1 V N X hΓ w hw hX
  have e2 : (fill Γ V a).eval s2 = .int .u64 (Zm.i (x2)) := h2 V N X hΓ w hw hX
  obtain ⟨i0, hi, hz0, hz1, hz2⟩ := info_parts u64Info
  have hr := run_buildSlice (P := Tryz.prog) w 22 39 3 #[(0, .int .u64 (Zm.i (x0))), (1, .int .u64 (Zm.i (x1))), (2, .int .u64 (Zm.i (x2)))] #[.int .u64 (Zm.i (x0)), .int .u64 (Zm.i (x1)), .int .u64 (Zm.i (x2))] i0 _ Tryz.underlying22 hi hz0 (by rw [hz1]; decide) (by rw [hz1]; decide) (by rw [hz1]; kernel_rfl)
  refine ⟨_, ?_, _, _, _, rfl, (show BF (w.alloc (.cells #[.int .u64 (Zm.i (x0)), .int .u64 (Zm.i (x1)), .int .u64 (Zm.i (x2))] 39)) w.heap.size [x0, x1, x2] from hnew w _).sf (by simp)⟩
  rw [← hr]
  simp [e0, e1, e2]
theorem ex_row4 {s0 s1 s2 s3 : Operand} {x0 x1 x2 x3 : F} (h0 : Arg ops W o Γ a s0 (isV (.int .u64 (Zm.i (x0))))) (h1 : Arg ops W o Γ a s1 (isV (.int .u64 (Zm.i (x1))))) (h2 : Arg ops W o Γ a s2 (isV (.int .u64 (Zm.i (x2))))) (h3 : Arg ops W o Γ a s3 (isV (.int .u64 (Zm.i (x3))))) (hop : o.op = .buildSlice 22 4 #[(0, s0), (1, s1), (2, s2), (3, s3)]) (hw : ∀ V, Region.wanted o (yielded ops (fill Γ V a).tmps) = true) : ExS Tryz.prog ops W o Γ a (fv [x0, x1, x2, x3]) := by
  refine ⟨ex_bld (e := 39) hop hw fun V N X hΓ w hw hX => ?_⟩
  have e0 : (fill Γ V a).eval s0 = .int .u64 (Zm.i (x0)) := h0 V N X hΓ w hw hX
  have e1 : (fill Γ V a).eval s1 = .int .u64 (Zm.i (x1)) := h1 V N X hΓ w hw hX
  have e2 : (fill Γ V a).eval s2 = .int .u64 (Zm.i (x2)) := h2 V N X hΓ w hw hX
  have e3 : (fill Γ V a).eval s3 = .int .u64 (Zm.i (x3)) := h3 V N X hΓ w hw hX
  obtain ⟨i0, hi, hz0, hz1, hz2⟩ := info_parts u64Info
  have hr := run_buildSlice (P := Tryz.prog) w 22 39 4 #[(0, .int .u64 (Zm.i (x0))), (1, .int .u64 (Zm.i (x1))), (2, .int .u64 (Zm.i (x2))), (3, .int .u64 (Zm.i (x3)))] #[.int .u64 (Zm.i (x0)), .int .u64 (Zm.i (x1)), .int .u64 (Zm.i (x2)), .int .u64 (Zm.i (x3))] i0 _ Tryz.underlying22 hi hz0 (by rw [hz1]; decide) (by rw [hz1]; decide) (by rw [hz1]; kernel_rfl)
  refine ⟨_, ?_, _, _, _, rfl, (show BF (w.alloc (.cells #[.int .u64 (Zm.i (x0)), .int .u64 (Zm.i (x1)), .int .u64 (Zm.i (x2)), .int .u64 (Zm.i (x3))] 39)) w.heap.size [x0, x1, x2, x3] from hnew w _).sf (by simp)⟩
  rw [← hr]
  simp [e0, e1, e2, e3]
theorem arg_lit {n : Nat} (h : n < 18446744069414584321) : Arg ops W o Γ a (.const (.int .u64 (n : Int))) (isV (.int .u64 (Zm.i (fo n)))) := fun _ _ _ _ _ _ _ => by
  rw [i_fo h]; rfl
end
section
variable {ops : Array Oper} {W : World} {Γ : List Ent} {a : Act}
theorem is_min {d : Nat} {x : Operand} {k n m : Int} {ats : Array TypeId} {ty : TypeId} {pos : String} {aft : Array Edge} (hx : a.eval x = .int .i64 n) (hm : (if k < n then k else n) = m) :
    IsStep Tryz.prog ops W ⟨some d, .call { callee := .builtin .min, args := #[x, .const (.int .i64 k)], argTypes := ats }, ty, pos, aft, none⟩ a (a.put (some d) (.int .i64 m)) := by
  intro g K hK
  have hk : a.eval (.const (.int .i64 k)) = .int .i64 k := rfl
  simp only [wpList, Region.wanted, if_true]
  left
  unfold Oper.wp execOp
  simp only [resolve, invoke, builtin, Sem.run_bind, Sem.run_pure, Result.andThen_ok, List.map_toArray, List.map_cons, List.map_nil, hx, hk, run_min_int2, hm]
  exact hK _ (Up.refl _)
theorem is_len {d : Nat} {x : Operand} {A : Option Addr} {n c : Nat} {ty : TypeId} {pos : String} {aft : Array Edge} (hx : a.eval x = .slice A n c) :
    IsStep Tryz.prog ops W ⟨some d, .call { callee := .builtin .len, args := #[x], argTypes := #[22] }, ty, pos, aft, none⟩ a (a.put (some d) (.int .i64 n)) := by
  intro g K hK
  simp only [wpList, Region.wanted, if_true]
  left
  unfold Oper.wp execOp
  simp only [resolve, invoke, builtin, Sem.run_bind, Sem.run_pure, Result.andThen_ok, List.map_toArray, List.map_cons, List.map_nil, hx]
  have hu := Tryz.underlying22
  simp [Builtin.len_, run_underlying hu]
  exact hK _ (Up.refl _)
theorem is_sliceH {d : Nat} {s h : Operand} {v u v' : Value} {ty : TypeId} {pos : String} {aft : Array Edge} (hr : ∀ w, (Instr.slice 22 v none (some u) none).run Tryz.prog w = .ok v' w) (hv : a.eval s = v) (hu : a.eval h = u) :
    IsStep Tryz.prog ops W ⟨some d, .slice 22 s none (some h) none, ty, pos, aft, none⟩ a (a.put (some d) v') := by
  intro g K hK
  simp only [wpList, Region.wanted, if_true]
  left
  unfold Oper.wp execOp
  have hu' : Tryz.prog.underlying 22 = some (.slice (Tryz.prog.elem 22)) := by kernel_rfl
  simp only [Sem.run_bind, Option.map_some, Option.map_none, hv, hu, run_sliceAt_slice (P := Tryz.prog) (h := hu'), hr, Result.andThen_ok]
  exact hK _ (Up.refl _)
theorem ex_lenF {o : Oper} {x : Operand} {l : List F} {z : Int} (hz : (l.length : Int) = z) (hop : o.op = .call { callee := .builtin .len, args := #[x], argTypes := #[22] })
    (hw : ∀ V, Region.wanted o (yielded ops (fill Γ V a).tmps) = true) (hx : Arg ops W o Γ a x (isF l)) : ExS Tryz.prog ops W o Γ a (fun v _ _ => v = .int .i64 z) := by
  subst hz
  refine ⟨?_⟩
  intro V N X hΓ g hX K hK
  obtain ⟨A, n, c, he, hs⟩ := hx V N X hΓ _ (Up.gr W g) hX
  obtain rfl := hs.len
  simp only [wpList]
  rw [if_pos (hw V)]
  left
  unfold Oper.wp execOp
  simp only [hop, resolve, invoke, builtin, Sem.run_bind, Sem.run_pure, Result.andThen_ok, List.map_toArray, List.map_cons, List.map_nil, he]
  have hu := Tryz.underlying22
  simp [Builtin.len_, run_underlying hu]
  exact hK _ _ (Up.refl _) rfl
theorem ex_asF {o : Oper} {x : Operand} {l : List F} (hx : Arg ops W o Γ a x (isF l)) (hop : o.op = .assign x) (hw : ∀ V, Region.wanted o (yielded ops (fill Γ V a).tmps) = true) : ExS Tryz.prog ops W o Γ a (fv l) := by
  refine ⟨?_⟩
  intro V N X hΓ g hX K hK
  have h := hx V N X hΓ _ (Up.gr W g) hX
  simp only [wpList]
  rw [if_pos (hw V)]
  left
  unfold Oper.wp execOp
  simp only [hop]
  exact hK _ _ (Up.refl _) h
theorem end_fv {V : Nat → Value} {N : Nat → Nat} {X : Nat → World} (h : ∀ e ∈ Γ, e.rel (V e.slot) (N e.slot) (X e.slot) ∧ Up W (X e.slot) ∧ W.heap.size ≤ N e.slot) {w : World} (hX : ∀ e ∈ Γ, Up (X e.slot) w) (s i : Nat) {l : List F} (hs : Γ[i]? = some ⟨s, fv l⟩) : ∃ A c, V s = .slice A l.length c ∧ SF w A l.length c l := by
  have hm := List.mem_of_getElem? hs
  obtain ⟨h1, _⟩ := h _ hm
  obtain ⟨A, n, c, e, h2⟩ := isF.up h1 (hX _ hm)
  obtain rfl := h2.len
  exact ⟨A, c, e, h2⟩
end
theorem min_nat (n k : Nat) : (if (k : Int) < (n : Int) then (k : Int) else (n : Int)) = ((min n k : Nat) : Int) := by split <;> omega
theorem take_redL (l : List Int) {m n : Nat} (h : l.length = n) (hm : m ≤ n) : (redL (l.take m)).length = m := by rw [redL_length, List.length_take]; omega
theorem k_reduce {z : Int} (h : In64 z) {x : F} (e : int z = x) : ∀ u w, isV (.int .u64 z) u w → Calls Tryz.prog 34 #[u] w (Ans (fun v _ _ => v = .int .u64 (Zm.i (x))) w) := by
  rintro u w rfl
  refine (@r_reduce z h w).mono ?_
  rintro e w' ⟨rfl, rfl⟩
  rw [← e]
  exact ⟨_, rfl, Up.refl _, rfl⟩

theorem k_same9 {l k : List F} (hl : l.length ≤ 1000000) (e : l = k) : ∀ u v w, isF l u w → isF k v w → Calls Tryz.prog 13 #[u, v] w (Ans (fun v _ _ => v = .bool true) w) := by
  rintro u v w ⟨A, n, c, rfl, h1⟩ ⟨B, m, d, rfl, h2⟩
  obtain rfl := h1.len
  obtain rfl := h2.len
  refine (y_same_true h1 h2 hl (by rw [← e]; exact hl) e).mono ?_
  rintro e w' ⟨rfl, g⟩
  exact ⟨_, rfl, g.below, rfl⟩
theorem k_dist9 {l k : List F} {d : Nat} (hl : l.length ≤ 1000000) (hk : k.length ≤ 1000000) (e : disL l k = d) : ∀ u v w, isF l u w → isF k v w → Calls Tryz.prog 23 #[u, v] w (Ans (fun v _ _ => v = .int .i64 d) w) := by
  subst e
  rintro u v w ⟨A, n, c, rfl, h1⟩ ⟨B, m, d, rfl, h2⟩
  obtain rfl := h1.len
  obtain rfl := h2.len
  refine (s_distance _ _ _ _ _ _ _ _ _ h1 h2 hl hk).mono ?_
  rintro e w' ⟨rfl, g, hg⟩
  exact ⟨_, rfl, by rw [hg]; exact gr_below _ _, rfl⟩
end Go.Proofs.YtbfblckgcefaaaaGreatDoor
