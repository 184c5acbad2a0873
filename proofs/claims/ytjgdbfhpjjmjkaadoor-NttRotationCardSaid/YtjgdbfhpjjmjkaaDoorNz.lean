/- What the laws of ntt share further: steps of a flow (min, len, rows told by a property), contracts by elements, plain facts on rotated rows and on extensions. -/
import Derived.Test.YtjgdbfhpjjmjkaaDoorNy
namespace Go.Proofs.YtjgdbfhpjjmjkaaDoor
open Go.RowKit Att Att.CRing
theorem r_reduceF (x : F) (w : World) : Calls Tryd.prog 24 #[.int .u64 (Zm.i (x))] w fun e w' => e = .returned (.int .u64 (Zm.i (x))) ∧ w = w' := by
  have h := r_reduce (Zm.i x) w
  rwa [int_i] at h
theorem r_powF (x : F) (n : Nat) (hn : n < 18446744073709551616) (w : World) : Calls Tryd.prog 30 #[.int .u64 (Zm.i (x)), .int .u64 n] w fun e w' => e = .returned (.int .u64 (Zm.i (pw x n))) ∧ w = w' := by
  have h := r_pow (Zm.i x) (n : Int) (by omega) (by omega) w
  rwa [int_i, Int.toNat_natCast] at h
section
variable {ops : Array Oper} {W : World} {Γ : List Ent} {a : Act}
theorem is_min {d : Nat} {x : Operand} {k n m : Int} {ats : Array TypeId} {ty : TypeId} {pos : String} {aft : Array Edge} (hx : a.eval x = .int .i64 n) (hm : (if k < n then k else n) = m) :
    IsStep Tryd.prog ops W ⟨some d, .call { callee := .builtin .min, args := #[x, .const (.int .i64 k)], argTypes := ats }, ty, pos, aft, none⟩ a (a.put (some d) (.int .i64 m)) := by
  intro g K hK
  have hk : a.eval (.const (.int .i64 k)) = .int .i64 k := rfl
  simp only [wpList, Region.wanted, if_true]
  left
  unfold Oper.wp execOp
  simp only [resolve, invoke, builtin, Sem.run_bind, Sem.run_pure, Result.andThen_ok, List.map_toArray, List.map_cons, List.map_nil, hx, hk, run_min_int2, hm]
  exact hK _ (Up.refl _)
theorem is_len {d : Nat} {x : Operand} {A : Option Addr} {n c : Nat} {ty : TypeId} {pos : String} {aft : Array Edge} (hx : a.eval x = .slice A n c) :
    IsStep Tryd.prog ops W ⟨some d, .call { callee := .builtin .len, args := #[x], argTypes := #[22] }, ty, pos, aft, none⟩ a (a.put (some d) (.int .i64 n)) := by
  intro g K hK
  simp only [wpList, Region.wanted, if_true]
  left
  unfold Oper.wp execOp
  simp only [resolve, invoke, builtin, Sem.run_bind, Sem.run_pure, Result.andThen_ok, List.map_toArray, List.map_cons, List.map_nil, hx]
  have hu := Tryd.underlying22
  simp [Builtin.len_, run_underlying hu]
  exact hK _ (Up.refl _)
theorem is_sliceH {d : Nat} {s h : Operand} {v u v' : Value} {ty : TypeId} {pos : String} {aft : Array Edge} (hr : ∀ w, (Instr.slice 22 v none (some u) none).run Tryd.prog w = .ok v' w) (hv : a.eval s = v) (hu : a.eval h = u) :
    IsStep Tryd.prog ops W ⟨some d, .slice 22 s none (some h) none, ty, pos, aft, none⟩ a (a.put (some d) v') := by
  intro g K hK
  simp only [wpList, Region.wanted, if_true]
  left
  unfold Oper.wp execOp
  have hu' : Tryd.prog.underlying 22 = some (.slice (Tryd.prog.elem 22)) := by kernel_rfl
  simp only [Sem.run_bind, Option.map_some, Option.map_none, hv, hu, run_sliceAt_slice (P := Tryd.prog) (h := hu'), hr, Result.andThen_ok]
  exact hK _ (Up.refl _)
theorem ex_lenF {o : Oper} {x : Operand} {l : List F} {z : Int} (hz : (l.length : Int) = z) (hop : o.op = .call { callee := .builtin .len, args := #[x], argTypes := #[22] })
    (hw : ∀ V, Region.wanted o (yielded ops (fill Γ V a).tmps) = true) (hx : Arg ops W o Γ a x (isF l)) : ExS Tryd.prog ops W o Γ a (fun v _ _ => v = .int .i64 z) := by
  subst hz
  refine ⟨?_⟩
  intro V N X hΓ g hX K hK
  obtain ⟨A, n, c, he, hs⟩ := hx V N X hΓ _ (Up.gr W g) hX
  obtain rfl := hs.len
  simp only [wpList]
  rw [if_pos (hw V)]
  left
  unfold Oper.wp execOp
  simp only [hop, resolve, invoke, builtin, Sem.run_bind, Sem.run_pure, Result.andThen_ok, List.map_toArray, List.map_cons, List.map_nil, he]
  have hu := Tryd.underlying22
  simp [Builtin.len_, run_underlying hu]
  exact hK _ _ (Up.refl _) rfl
theorem ex_asF {o : Oper} {x : Operand} {l : List F} (hx : Arg ops W o Γ a x (isF l)) (hop : o.op = .assign x) (hw : ∀ V, Region.wanted o (yielded ops (fill Γ V a).tmps) = true) : ExS Tryd.prog ops W o Γ a (fv l) := by
  refine ⟨?_⟩
  intro V N X hΓ g hX K hK
  have h := hx V N X hΓ _ (Up.gr W g) hX
  simp only [wpList]
  rw [if_pos (hw V)]
  left
  unfold Oper.wp execOp
  simp only [hop]
  exact hK _ _ (Up.refl _) h
theorem end_fv {V : Nat → Value} {N : Nat → Nat} {X : Nat → World} (h : ∀ e ∈ Γ, e.rel (V e.slot) (N e.slot) (X e.slot) ∧ Up W (X e.slot) ∧ W.heap.size ≤ N e.slot) {w : World} (hX : ∀ e ∈ Γ, Up (X e.slot) w) (s i : Nat) {l : List F} (hs : Γ[i]? = some ⟨s, fv l⟩) : ∃ A c, V s = .slice A l.length c ∧ SF w A l.length c l := by
  have hm := List.mem_of_getElem? hs
  obtain ⟨h1, _⟩ := h _ hm
  obtain ⟨A, n, c, e, h2⟩ := isF.up h1 (hX _ hm)
  obtain rfl := h2.len
  exact ⟨A, c, e, h2⟩
end
theorem min_nat (n k : Nat) : (if (k : Int) < (n : Int) then (k : Int) else (n : Int)) = ((min n k : Nat) : Int) := by split <;> omega
theorem take_redL (l : List Int) {m n : Nat} (h : l.length = n) (hm : m ≤ n) : (redL (l.take m)).length = m := by rw [redL_length, List.length_take]; omega
/-- the last coefficient by itself -/
theorem ev_last {l : List F} {n : Nat} (h : l.length = n + 1) (x : F) : ev l x = ev (l.take n) x + pw x n * co l n := by
  have e : l = l.take n ++ [co l n] := by
    rw [co_get l n (by omega), List.take_append_getElem (by omega), List.take_of_length_le (by omega)]
  have e2 : ev l x = ev (l.take n ++ [co l n]) x := congrArg (fun t => ev t x) e
  rw [e2, ev_append, List.length_take, Nat.min_eq_left (by omega)]
  congr 2
  show 0 * x + co l n = co l n
  rw [zero_mul, zero_add]
/-- the row turned by one place -/
def rotF (l : List F) (n : Nat) : List F := co l (n - 1) :: l.take (n - 1)
theorem rotF_length {l : List F} {n : Nat} (h : l.length = n) (h0 : 0 < n) : (rotF l n).length = n := by
  unfold rotF; rw [List.length_cons, List.length_take]; omega
theorem ev_rotF {l : List F} {n : Nat} (h : l.length = n) (h0 : 0 < n) {u : F} (hu : pw u n = 1) (i : Nat) : ev (rotF l n) (pw u i) = ev l (pw u i) * pw u i := by
  have hx : pw (pw u i) n = 1 := by rw [← pw_mul, Nat.mul_comm, pw_mul, hu, one_pw]
  have hx2 : pw (pw u i) (n - 1) * pw u i = 1 := by rw [← pw_succ, show n - 1 + 1 = n from by omega, hx]
  unfold rotF
  rw [ev_cons, ev_last (l := l) (n := n - 1) (by omega) (pw u i), add_mul]
  congr 1
  have e : pw (pw u i) (n - 1) * co l (n - 1) * pw u i = (pw (pw u i) (n - 1) * pw u i) * co l (n - 1) := ring_of [pw (pw u i) (n - 1), co l (n - 1), pw u i] (v0 * v1 * v2) (v0 * v2 * v1) rfl
  rw [e, hx2, one_mul]
theorem root_ext (s m : Nat) (h : s + m ≤ 32) (i : Nat) : pw (root (s + m)) (2 ^ m * i) = pw (root s) i := by rw [pw_mul, root_pow m s h]
end Go.Proofs.YtjgdbfhpjjmjkaaDoor
