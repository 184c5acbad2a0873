/- Slices of elements: what they read as; told anew of each world that grows. -/
import Derived.Test.YtjchccpicddpoaaSt
import Derived.Test.YtjchccpicddpoaaPol
import Derived.LoopTactic
import Derived.OwnWalk
import Derived.Maps.AppendAt
import Derived.Deep.AppendLies
import Derived.Great.BuildSlice
namespace Go.Proofs.Ytjchccpicddpoaa
open Go.RowKit Att Att.CRing

/-- the slice value '.slice A n c' reads as the list l -/
structure Sl (w : World) (A : Option Addr) (n c : Nat) (l : List Ext) : Prop where
  len : l.length = n
  le : n ≤ c
  small : c ≤ 9223372036854775807
  cells : 0 < n → ∃ b o, A = some ⟨b, o, none⟩ ∧ b < w.heap.size ∧ ∀ i x, l[i]? = some x → w.cell? ⟨b, o + i * 2, none⟩ = some (.int .u64 (Zm.i (Ext.a x))) ∧ w.cell? ⟨b, o + i * 2 + 1, none⟩ = some (.int .u64 (Zm.i (Ext.b x)))
theorem Sl.up {a b : World} {A : Option Addr} {n c : Nat} {l : List Ext} (h : Sl a A n c l) (g : Gn a b) : Sl b A n c l :=
  ⟨h.len, h.le, h.small, fun hn => by
    obtain ⟨k, o, e, hk, hc⟩ := h.cells hn
    exact ⟨k, o, e, Nat.lt_of_lt_of_le hk g.size, fun i x hx => ⟨(g.below.cell (p := ⟨k, _, none⟩) hk).trans (hc i x hx).1, (g.below.cell (p := ⟨k, _, none⟩) hk).trans (hc i x hx).2⟩⟩⟩
theorem Sl.nil (w : World) : Sl w none 0 0 [] := ⟨rfl, Nat.le_refl _, by omega, fun h => absurd h (by omega)⟩
theorem Sl.at_ {w : World} {A : Option Addr} {n c : Nat} {l : List Ext} (h : Sl w A n c l) {j : Nat} (hj : j < n) :
    ∃ b o x, A = some ⟨b, o, none⟩ ∧ l[j]? = some x ∧ b < w.heap.size ∧ w.cell? ⟨b, o + j * 2, none⟩ = some (.int .u64 (Zm.i (Ext.a x))) ∧ w.cell? ⟨b, o + j * 2 + 1, none⟩ = some (.int .u64 (Zm.i (Ext.b x))) := by
  obtain ⟨b, o, e, hb, hc⟩ := h.cells (by omega)
  have hl : j < l.length := by rw [h.len]; exact hj
  exact ⟨b, o, l[j], e, List.getElem?_eq_getElem hl, hb, hc j _ (List.getElem?_eq_getElem hl)⟩
theorem ext_eq (x y : Ext) : x = y ↔ x.a.i = y.a.i ∧ x.b.i = y.b.i := ⟨fun h => by rw [h]; exact ⟨rfl, rfl⟩, fun h => Ext.ext (i_inj h.1) (i_inj h.2)⟩
/-- whether two elements are equal, as the walk asks -/
theorem eqs (x y : Ext) : (x = y ∧ (Zm.i (Ext.a x) == Zm.i (Ext.a y)) = true ∧ (Zm.i (Ext.b x) == Zm.i (Ext.b y)) = true) ∨ (x ≠ y ∧ (Zm.i (Ext.a x) == Zm.i (Ext.a y)) = false ∧ True) ∨ (x ≠ y ∧ (Zm.i (Ext.a x) == Zm.i (Ext.a y)) = true ∧ (Zm.i (Ext.b x) == Zm.i (Ext.b y)) = false) := by
  by_cases h1 : x.a.i = y.a.i
  · by_cases h2 : x.b.i = y.b.i
    · exact .inl ⟨Ext.ext (i_inj h1) (i_inj h2), by simp [h1], by simp [h2]⟩
    · exact .inr (.inr ⟨fun h => h2 (by rw [h]), by simp [h1], by simp [h2]⟩)
  · exact .inr (.inl ⟨fun h => h1 (by rw [h]), by simp [h1], trivial⟩)
theorem take_step {α : Type} {l k : List α} {j : Nat} {x : α} (h : l.take j = k.take j) (hx : l[j]? = some x) (hy : k[j]? = some x) : l.take (j + 1) = k.take (j + 1) := by
  rw [List.take_add_one, List.take_add_one, h, hx, hy]

/- ───── the cells of a row of elements ───── -/
def fl : List Ext → List Value
  | [] => []
  | x :: l => .int .u64 (Zm.i (Ext.a x)) :: .int .u64 (Zm.i (Ext.b x)) :: fl l
theorem fl_length : ∀ l : List Ext, (fl l).length = l.length * 2
  | [] => rfl
  | _ :: l => by simp [fl, fl_length l]; omega
theorem fl_append : ∀ l k : List Ext, fl (l ++ k) = fl l ++ fl k
  | [], _ => rfl
  | _ :: l, k => by simp [fl, fl_append l k]
theorem fl_get : ∀ (l : List Ext) (i : Nat) (x : Ext), l[i]? = some x → (fl l)[i * 2]? = some (.int .u64 (Zm.i (Ext.a x))) ∧ (fl l)[i * 2 + 1]? = some (.int .u64 (Zm.i (Ext.b x)))
  | [], i, x, h => by simp at h
  | y :: l, 0, x, h => by simp at h; subst h; exact ⟨rfl, rfl⟩
  | y :: l, i + 1, x, h => by
    have := fl_get l i x (by simpa using h)
    rw [show (i + 1) * 2 = i * 2 + 2 from by omega]
    exact this
theorem fl_set : ∀ (l : List Ext) (i : Nat) (x : Ext), i < l.length → fl (l.set i x) = ((fl l).set (i * 2) (.int .u64 (Zm.i (Ext.a x)))).set (i * 2 + 1) (.int .u64 (Zm.i (Ext.b x)))
  | [], i, x, h => by simp at h
  | y :: l, 0, x, h => rfl
  | y :: l, i + 1, x, h => by
    have := fl_set l i x (by simpa using h)
    rw [show (i + 1) * 2 = i * 2 + 2 from by omega]
    simp only [List.set_cons_succ, fl, this]
theorem fl_one : ∀ (l : List Ext), ∀ u ∈ fl l, u.oneCell' = true
  | [], _, h => by simp [fl] at h
  | x :: l, u, h => by
    simp only [fl, List.mem_cons] at h
    rcases h with rfl | rfl | h
    · rfl
    · rfl
    · exact fl_one l u h
theorem fl_zero : ∀ n : Nat, fl (List.replicate n 0) = List.replicate (n * 2) (.int .u64 0)
  | 0 => rfl
  | n + 1 => by
    rw [show (n + 1) * 2 = n * 2 + 1 + 1 from by omega]
    simp only [List.replicate_succ, fl, fl_zero n]
    rfl
/-- a block that holds just the elements l -/
def Blk (w : World) (g : Nat) (l : List Ext) : Prop := w.heap[g]? = some (.cells (fl l).toArray 25)
theorem Blk.sl {w : World} {g : Nat} {l : List Ext} (h : Blk w g l) (hs : l.length ≤ 9223372036854775807) : Sl w (some ⟨g, 0, none⟩) l.length l.length l :=
  ⟨rfl, Nat.le_refl _, hs, fun _ => ⟨g, 0, rfl, blk_lt h, fun i x hx => by
    have := fl_get l i x hx
    rw [Nat.zero_add]
    exact ⟨obj_cell h _ (by simpa using this.1), obj_cell h _ (by simpa using this.2)⟩⟩⟩
theorem Blk.up {a b : World} {g : Nat} {l : List Ext} (h : Blk a g l) (k : Gn a b) : Blk b g l := k.block h
theorem Blk.cell {w : World} {g : Nat} {l : List Ext} (h : Blk w g l) {i : Nat} {x : Ext} (hx : l[i]? = some x) : w.cell? ⟨g, i * 2, none⟩ = some (.int .u64 (Zm.i (Ext.a x))) ∧ w.cell? ⟨g, i * 2 + 1, none⟩ = some (.int .u64 (Zm.i (Ext.b x))) := by
  have := fl_get l i x hx
  exact ⟨obj_cell h _ (by simpa using this.1), obj_cell h _ (by simpa using this.2)⟩
/-- the world behind a store into a row -/
def setE (w : World) (g i : Nat) (x : Ext) : World := (w.setCell ⟨g, i * 2, none⟩ (.int .u64 (Zm.i (Ext.a x)))).setCell ⟨g, i * 2 + 1, none⟩ (.int .u64 (Zm.i (Ext.b x)))
theorem Blk.set {w : World} {g i : Nat} {l : List Ext} (h : Blk w g l) (hi : i < l.length) (x : Ext) : Blk (setE w g i x) g (l.set i x) := by
  unfold Blk at h ⊢
  rw [fl_set l i x hi]
  simp [setE, World.setCell, Array.getElem?_modify, h]
theorem setE_below {W w : World} {g i : Nat} (h : Gn W w) (hb : W.heap.size ≤ g) (x : Ext) : Gn W (setE w g i x) := Gn.of ((h.below.setCell hb _).setCell hb _)
theorem setE_other {w : World} {g i c : Nat} (hc : c ≠ g) (x : Ext) : (setE w g i x).heap[c]? = w.heap[c]? :=
  (Below.heap_setCell _ _ _ c hc).trans (Below.heap_setCell _ _ _ c hc)
theorem fl_new (n : Nat) : madeCells #[.int .u64 0, .int .u64 0] (n * 2) = (fl (List.replicate n 0)).toArray := by
  rw [fl_zero]
  apply Array.ext
  · simp [madeCells]
  · intro i h1 h2
    have h3 : i % 2 = 0 ∨ i % 2 = 1 := by omega
    rcases h3 with h3 | h3 <;> simp [madeCells, h3]
theorem extInfo : (Try.prog.info? 25).map (fun i => (i.zero, i.size, i.bytes)) = some (some (.agg #[.int .u64 0, .int .u64 0]), 2, 16) := by kernel_rfl
/-- make of n zero elements -/
theorem wpList_mk {ops : Array Oper} {rest : List Oper} {a : Act} {w : World} {Q : Exit → Act → World → Prop} {d : Option Nat} {ty : TypeId} {pos : String} {aft : Array Edge} (l c : Operand) (n : Nat)
    (hl : a.eval l = .int .i64 n) (hc : a.eval c = .int .i64 n) (hn : n ≤ 1099511627776)
    (hK : wpList Try.prog ops Q rest (a.put d (.slice (some ⟨w.heap.size, 0, none⟩) n n)) (w.alloc (.cells (fl (List.replicate n 0)).toArray 25))) :
    wpList Try.prog ops Q (⟨d, .makeSlice 22 l c, ty, pos, aft, none⟩ :: rest) a w := by
  obtain ⟨i0, hi, hz0, hz1, hz2⟩ := info_parts extInfo
  have hrun := run_make (P := Try.prog) w 22 25 i0 _ Try.underlying22 hi hz0 .i64 .i64 n n (by omega) (by omega) (by rw [hz2]; omega) (by omega)
  refine wpList_plain rfl fun K hK' => ?_
  unfold Oper.wp
  simp only [execOp, hl, hc, Sem.run_bind, hrun]
  simp only [Result.andThen, Oper.upon, Sem.run_pure]
  refine hK' _ _ ?_
  have e : madeCells (Value.cells (.agg #[.int .u64 0, .int .u64 0])) ((n : Int).toNat * i0.size) = (fl (List.replicate n 0)).toArray := by
    rw [hz1, Int.toNat_natCast]; exact fl_new n
  rw [e, Int.toNat_natCast]
  exact hK

/- ───── a row that grows by append ───── -/
/-- v is a slice of this call's own, with the elements l -/
def Ow (w : World) (base : Nat) (v : Value) (l : List Ext) : Prop := w.ownsRow base 25 2 v l.length (fl l)
theorem Ow.nil (w : World) (base : Nat) : Ow w base (.slice none 0 0) [] := ⟨rfl, .inl ⟨rfl, rfl⟩⟩
theorem Ow.empty (w : World) {base : Nat} (hb : base ≤ w.heap.size) : Ow (w.alloc (.cells #[] 25)) base (.slice (some ⟨w.heap.size, 0, none⟩) 0 0) [] :=
  ⟨rfl, .inr ⟨_, 0, #[], rfl, hb, hnew w _, Nat.le_refl _, by unfold maxLen; omega, rfl, rfl⟩⟩
theorem Ow.sl {w : World} {base : Nat} {v : Value} {l : List Ext} (h : Ow w base v l) : ∃ A c, v = .slice A l.length c ∧ Sl w A l.length c l := by
  rcases h.2 with ⟨rfl, h0⟩ | ⟨g, cap, cur, rfl, hb, hg, hn, hc, hsz, htake⟩
  · have hl : l = [] := List.eq_nil_of_length_eq_zero h0
    subst hl
    exact ⟨none, 0, rfl, Sl.nil w⟩
  · refine ⟨_, cap, rfl, rfl, hn, by unfold maxLen at hc; omega, fun _ => ⟨g, 0, rfl, blk_lt hg, fun i x hx => ?_⟩⟩
    have hf := fl_get l i x hx
    have hil : i < l.length := (List.getElem?_eq_some_iff.1 hx).1
    have key : ∀ j u, (fl l)[j]? = some u → j < l.length * 2 → cur[j]? = some u := by
      intro j u hu hj
      rw [← htake, List.getElem?_take_of_lt hj] at hu
      simpa using hu
    rw [Nat.zero_add]
    exact ⟨obj_cell hg _ (key _ _ hf.1 (by omega)), obj_cell hg _ (key _ _ hf.2 (by omega))⟩
theorem Ow.up {a b : World} {base : Nat} {v : Value} {l : List Ext} (h : Ow a base v l) (k : Gn a b) : Ow b base v l := by
  rcases h with ⟨h1, h2 | ⟨g, cap, cur, hv, hb, hg, hn, hc, hsz, htake⟩⟩
  · exact ⟨h1, .inl h2⟩
  · exact ⟨h1, .inr ⟨g, cap, cur, hv, hb, k.block hg, hn, hc, hsz, htake⟩⟩
theorem grown_gn {W a b : World} {v : Value} {base : Nat} {l : List Ext} (h : Gn W a) (ho : Ow a base v l) (hb : W.heap.size ≤ base) (hg : a.grownBy b v.ownBlock) : Gn W b := by
  refine Gn.of (h.below.grown hg h.size ?_)
  intro k hk
  rcases ho.2 with ⟨rfl, _⟩ | ⟨g, cap, cur, rfl, hbb, _⟩
  · simp [Value.ownBlock] at hk
  · simp [Value.ownBlock] at hk; omega
/-- append of a slice -/
theorem run_app {w : World} {ty : TypeId} {base : Nat} {v : Value} {l : List Ext} (ho : Ow w base v l) (hbase : base ≤ w.heap.size) {A : Option Addr} {m c : Nat} {k : List Ext} (hs : Sl w A m c k) (hn : l.length + m ≤ 1099511627776) :
    ∃ v' w', (Builtin.append_ #[22, 22] ty #[v, .slice A m c]).run Try.prog w = .ok v' w' ∧ Ow w' base v' (l ++ k) ∧ w.grownBy w' v.ownBlock := by
  obtain ⟨i0, hi, hz0, hz1, hz2⟩ := info_parts extInfo
  have hfix : ∀ {v' w'}, w'.ownsRow base 25 2 v' (l.length + m) (fl l ++ fl k) → Ow w' base v' (l ++ k) := by
    intro v' w' h
    unfold Ow
    rw [List.length_append, hs.len, fl_append]; exact h
  rcases Nat.eq_zero_or_pos m with h0 | h0
  · subst h0
    have hk : k = [] := List.eq_nil_of_length_eq_zero hs.len
    subst hk
    cases A with
    | none =>
      refine ⟨v, w, ?_, by simpa using ho, World.grownBy.refl w _⟩
      rcases ho.2 with ⟨rfl, _⟩ | ⟨g, cap, cur, rfl, _, _, hnc, _⟩
      · simp [Builtin.append_, run_underlying Try.underlying22, sizeOf, typeInfo, hi, Builtin.lenOf, Builtin.firstCells]
      · simp [Builtin.append_, run_underlying Try.underlying22, sizeOf, typeInfo, hi, Builtin.lenOf, Builtin.firstCells, hnc, storeCells]
    | some ad =>
      obtain ⟨v', w', hrun, h2, h3, _, _⟩ := run_append_own_at (P := Try.prog) w base 22 ty 25 i0 _ 2 16 Try.underlying22 hi hz0 hz1 hz2 rfl (by omega) v l.length (fl l) ho ad 0 c [] rfl (by simp) (by simp)
        (by unfold maxLen; omega) (by omega) hbase
      exact ⟨v', w', hrun, by simpa [Ow] using h2, h3⟩
  · obtain ⟨b, o, rfl, hb, hc⟩ := hs.cells h0
    obtain ⟨v', w', hrun, h2, h3, _, _⟩ := run_append_own_at (P := Try.prog) w base 22 ty 25 i0 _ 2 16 Try.underlying22 hi hz0 hz1 hz2 rfl (by omega) v l.length (fl l) ho ⟨b, o, none⟩ m c (fl k)
      (by rw [fl_length, hs.len]) (by
        intro j u hu
        have hj : j < k.length * 2 := by rw [← fl_length]; exact (List.getElem?_eq_some_iff.1 hu).1
        have hx : k[j / 2]? = some k[j / 2] := List.getElem?_eq_getElem (by omega)
        have h4 := fl_get k (j / 2) _ hx
        have h5 := hc _ _ hx
        have hadd : (⟨b, o, none⟩ : Addr).add j = ⟨b, o + j, none⟩ := by unfold Addr.add; split <;> simp_all
        rw [hadd]
        rcases Nat.mod_two_eq_zero_or_one j with h6 | h6
        · have e : j / 2 * 2 = j := by omega
          rw [e] at h4 h5
          rw [hu] at h4
          rw [h5.1, ← h4.1]
        · have e : j / 2 * 2 + 1 = j := by omega
          rw [Nat.add_assoc, e] at h5
          rw [e, hu] at h4
          rw [h5.2, ← h4.2]) (fl_one k) (by unfold maxLen; omega) (by omega) hbase
    exact ⟨v', w', hrun, hfix h2, h3⟩
theorem wpList_app {ops : Array Oper} {rest : List Oper} {a : Act} {w : World} {Q : Exit → Act → World → Prop} {d : Option Nat} {ty : TypeId} {pos : String} {aft : Array Edge} (s x : Operand)
    {base : Nat} {v : Value} {l : List Ext} (hs : a.eval s = v) (ho : Ow w base v l) (hbase : base ≤ w.heap.size) {A : Option Addr} {m c : Nat} {k : List Ext} (hx : a.eval x = .slice A m c) (hk : Sl w A m c k) (hn : l.length + m ≤ 1099511627776)
    (hK : ∀ v' w', Ow w' base v' (l ++ k) → w.grownBy w' v.ownBlock → wpList Try.prog ops Q rest (a.put d v') w') :
    wpList Try.prog ops Q (⟨d, .call { callee := .builtin .append, args := #[s, x], argTypes := #[22, 22] }, ty, pos, aft, none⟩ :: rest) a w := by
  obtain ⟨v', w', hrun, h2, h3⟩ := run_app (ty := ty) ho hbase hk hn
  refine wpList_plain rfl fun K hK' => ?_
  unfold Oper.wp execOp
  simp only [resolve, invoke, builtin, Sem.run_bind, Sem.run_pure, Result.andThen_ok, List.map_toArray, List.map_cons, List.map_nil, hs, hx, hrun]
  exact hK' _ _ (hK v' w' h2 h3)

/- ───── slices of raw pairs, of integers ───── -/
def mkP (p : Int × Int) : Ext := mk p.1 p.2
structure SlR (w : World) (A : Option Addr) (n c : Nat) (l : List (Int × Int)) : Prop where
  len : l.length = n
  le : n ≤ c
  small : c ≤ 9223372036854775807
  rng : ∀ p ∈ l, In64 p.1 ∧ In64 p.2
  cells : 0 < n → ∃ b o, A = some ⟨b, o, none⟩ ∧ b < w.heap.size ∧ ∀ i (p : Int × Int), l[i]? = some p → w.cell? ⟨b, o + i * 2, none⟩ = some (.int .u64 p.1) ∧ w.cell? ⟨b, o + i * 2 + 1, none⟩ = some (.int .u64 p.2)
theorem SlR.up {a b : World} {A : Option Addr} {n c : Nat} {l : List (Int × Int)} (h : SlR a A n c l) (g : Gn a b) : SlR b A n c l :=
  ⟨h.len, h.le, h.small, h.rng, fun hn => by
    obtain ⟨k, o, e, hk, hc⟩ := h.cells hn
    exact ⟨k, o, e, Nat.lt_of_lt_of_le hk g.size, fun i x hx => ⟨(g.below.cell (p := ⟨k, _, none⟩) hk).trans (hc i x hx).1, (g.below.cell (p := ⟨k, _, none⟩) hk).trans (hc i x hx).2⟩⟩⟩
theorem SlR.at_ {w : World} {A : Option Addr} {n c : Nat} {l : List (Int × Int)} (h : SlR w A n c l) {j : Nat} (hj : j < n) :
    ∃ b o p q, A = some ⟨b, o, none⟩ ∧ l[j]? = some (p, q) ∧ b < w.heap.size ∧ w.cell? ⟨b, o + j * 2, none⟩ = some (.int .u64 p) ∧ w.cell? ⟨b, o + j * 2 + 1, none⟩ = some (.int .u64 q) ∧ In64 p ∧ In64 q := by
  obtain ⟨b, o, e, hb, hc⟩ := h.cells (by omega)
  have hl : j < l.length := by rw [h.len]; exact hj
  have hg : l[j]? = some l[j] := List.getElem?_eq_getElem hl
  have hr := h.rng _ (List.getElem_mem hl)
  exact ⟨b, o, l[j].1, l[j].2, e, hg, hb, (hc j _ hg).1, (hc j _ hg).2, hr.1, hr.2⟩
structure SlI (w : World) (A : Option Addr) (n c : Nat) (l : List Int) : Prop where
  len : l.length = n
  le : n ≤ c
  small : c ≤ 9223372036854775807
  rng : ∀ z ∈ l, -9223372036854775808 ≤ z ∧ z ≤ 9223372036854775807
  cells : 0 < n → ∃ b o, A = some ⟨b, o, none⟩ ∧ b < w.heap.size ∧ ∀ i (z : Int), l[i]? = some z → w.cell? ⟨b, o + i, none⟩ = some (.int .i64 z)
theorem SlI.up {a b : World} {A : Option Addr} {n c : Nat} {l : List Int} (h : SlI a A n c l) (g : Gn a b) : SlI b A n c l :=
  ⟨h.len, h.le, h.small, h.rng, fun hn => by
    obtain ⟨k, o, e, hk, hc⟩ := h.cells hn
    exact ⟨k, o, e, Nat.lt_of_lt_of_le hk g.size, fun i x hx => (g.below.cell (p := ⟨k, _, none⟩) hk).trans (hc i x hx)⟩⟩
theorem SlI.at_ {w : World} {A : Option Addr} {n c : Nat} {l : List Int} (h : SlI w A n c l) {j : Nat} (hj : j < n) :
    ∃ b o z, A = some ⟨b, o, none⟩ ∧ l[j]? = some z ∧ b < w.heap.size ∧ w.cell? ⟨b, o + j, none⟩ = some (.int .i64 z) ∧ -9223372036854775808 ≤ z ∧ z ≤ 9223372036854775807 := by
  obtain ⟨b, o, e, hb, hc⟩ := h.cells (by omega)
  have hl : j < l.length := by rw [h.len]; exact hj
  have hg : l[j]? = some l[j] := List.getElem?_eq_getElem hl
  have hr := h.rng _ (List.getElem_mem hl)
  exact ⟨b, o, l[j], e, hg, hb, hc j _ hg, hr.1, hr.2⟩
theorem Blk.one {w : World} (x : Ext) : Blk (w.alloc (.cells #[.int .u64 (Zm.i (Ext.a x)), .int .u64 (Zm.i (Ext.b x))] 25)) w.heap.size [x] := hnew w _
theorem take_snoc' {α : Type} {l : List α} {j : Nat} {x : α} (h : l[j]? = some x) : l.take (j + 1) = l.take j ++ [x] := by
  rw [List.take_add_one, h]; rfl

/- ───── a row that is filled from its head ───── -/
def Fi (res : List Ext) (i : Nat) : List Ext := res.take i ++ List.replicate (res.length - i) 0
theorem Fi_zero (res : List Ext) : Fi res 0 = List.replicate res.length 0 := by simp [Fi]
theorem Fi_length (res : List Ext) {i : Nat} (h : i ≤ res.length) : (Fi res i).length = res.length := by simp [Fi]; omega
theorem Fi_end (res : List Ext) : Fi res res.length = res := by simp [Fi]
theorem Fi_get (res : List Ext) {i : Nat} (h : i < res.length) : (Fi res i)[i]? = some 0 := by
  unfold Fi
  rw [List.getElem?_append_right (by simp; omega), List.getElem?_replicate, if_pos (by simp; omega)]
theorem Fi_set {res : List Ext} {i : Nat} {x : Ext} (h : res[i]? = some x) : (Fi res i).set i x = Fi res (i + 1) := by
  have hi : i < res.length := (List.getElem?_eq_some_iff.1 h).1
  unfold Fi
  rw [take_snoc' h, show res.length - i = (res.length - (i + 1)) + 1 from by omega, List.replicate_succ, List.set_append_right _ _ (by simp; omega)]
  simp [Nat.min_eq_left (Nat.le_of_lt hi)]
theorem Fi_set2 {res : List Ext} {i : Nat} {x y : Ext} (h : res[i]? = some y) : ((Fi res i).set i x).set i y = Fi res (i + 1) := by
  rw [List.set_set]; exact Fi_set h

/- ───── stores into a row; a made row in a flow ───── -/
theorem run_storeE {b i : Nat} {x : Ext} {l : List Ext} {w : World} (h : Blk w b l) (hi : i < l.length) :
    (Instr.storeAt 25 (.pointer (some ⟨b, i * 2, none⟩)) (.agg #[.int .u64 (Zm.i (Ext.a (x))), .int .u64 (Zm.i (Ext.b (x)))])).run Try.prog w = .ok () (setE w b i x) := by
  obtain ⟨c0, c1⟩ := h.cell (List.getElem?_eq_getElem hi)
  have f0 := box_fz (i := i * 2) h
  have f1 := box_fz (i := i * 2 + 1) h
  simp [go_sem, c0, c1, f0, f1]
  rfl
theorem tail_storeE {ops : Array Oper} {Q : Exit → Act → World → Prop} {l : List Oper} {a : Act} {w : World} {s t : Operand} {ty : TypeId} {pos : String} {aft : Array Edge} {b i : Nat} {x : Ext} {k : List Ext}
    (hs : a.eval s = .pointer (some ⟨b, i * 2, none⟩)) (ht : a.eval t = .agg #[.int .u64 (Zm.i (Ext.a (x))), .int .u64 (Zm.i (Ext.b (x)))]) (h : Blk w b k) (hi : i < k.length) (kk : wpList Try.prog ops Q l a (setE w b i x)) :
    wpList Try.prog ops Q (⟨none, .store 25 s t, ty, pos, aft, none⟩ :: l) a w := by
  simp only [wpList, Region.wanted, if_true]
  left
  unfold Oper.wp
  have e : (execOp a.eval ⟨none, .store 25 s t, ty, pos, aft, none⟩).run Try.prog w = .ok .skip (setE w b i x) := by
    simp only [execOp, hs, ht]
    simp only [Sem.run_bind, run_storeE h hi]
    rfl
  rw [e]
  exact kk
/-- what is known of a slice of one element that a flow made -/
def oneSl (x : Ext) : Rel := fun v n y => ∃ b, v = .slice (some ⟨b, 0, none⟩) 1 1 ∧ n ≤ b ∧ Blk y b [x]
theorem run_one (ρ : Operand → Value) (d : Option Nat) (s : Operand) (ty : TypeId) (pos : String) (aft : Array Edge) (x : Ext) (h : ρ s = .agg #[.int .u64 (Zm.i (Ext.a (x))), .int .u64 (Zm.i (Ext.b (x)))]) (w : World) :
    (execOp ρ ⟨d, .buildSlice 22 1 #[(0, s)], ty, pos, aft, none⟩).run Try.prog w = .ok (.value (.slice (some ⟨w.heap.size, 0, none⟩) 1 1)) (w.alloc (.cells #[.int .u64 (Zm.i (Ext.a x)), .int .u64 (Zm.i (Ext.b x))] 25)) := by
  obtain ⟨i0, hi, hz0, hz1, hz2⟩ := info_parts extInfo
  have hr := run_buildSlice (P := Try.prog) w 22 25 1 #[(0, .agg #[.int .u64 (Zm.i (Ext.a (x))), .int .u64 (Zm.i (Ext.b (x)))])] #[.int .u64 (Zm.i (Ext.a x)), .int .u64 (Zm.i (Ext.b x))] i0 _ Try.underlying22 hi hz0 (by rw [hz1]; decide) (by rw [hz1]; decide) (by rw [hz1]; kernel_rfl)
  simp [execOp, h, hr]
theorem ex_one {ops : Array Oper} {W : World} {Γ : List Ent} {a : Act} (d : Nat) (s : Operand) (ty : TypeId) (pos : String) (aft : Array Edge) (x : Ext) (h : ∀ V, (fill Γ V a).eval s = .agg #[.int .u64 (Zm.i (Ext.a (x))), .int .u64 (Zm.i (Ext.b (x)))]) :
    ExStep Try.prog ops W ⟨some d, .buildSlice 22 1 #[(0, s)], ty, pos, aft, none⟩ Γ a (oneSl x) := by
  intro V N X hΓ g hX K hK
  simp only [wpList, Region.wanted, if_true]
  left
  unfold Oper.wp
  rw [run_one _ _ _ _ _ _ x (h V)]
  exact hK _ _ (Gn.al _).below ⟨_, rfl, Nat.le_refl _, hnew _ _⟩
theorem end_one {W : World} {Γ : List Ent} {V : Nat → Value} {N : Nat → Nat} {X : Nat → World} (h : ∀ e ∈ Γ, e.rel (V e.slot) (N e.slot) (X e.slot) ∧ Up W (X e.slot) ∧ W.heap.size ≤ N e.slot)
    {w : World} (hX : ∀ e ∈ Γ, Up (X e.slot) w) {s : Nat} {x : Ext} (hs : ⟨s, oneSl x⟩ ∈ Γ) : ∃ b, V s = .slice (some ⟨b, 0, none⟩) 1 1 ∧ W.heap.size ≤ b ∧ Blk w b [x] := by
  obtain ⟨⟨b, h1, h2, h3⟩, _, h4⟩ := h _ hs
  exact ⟨b, h1, Nat.le_trans h4 h2, h3.up (Gn.of (hX _ hs))⟩
end Go.Proofs.Ytjchccpicddpoaa
