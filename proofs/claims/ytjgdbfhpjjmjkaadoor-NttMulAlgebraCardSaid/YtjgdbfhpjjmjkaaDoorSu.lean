/- Slices of field elements ([]uint64): what they read as; told anew of each world that grows. -/
import Derived.Test.YtjgdbfhpjjmjkaaDoorGb
import Derived.Test.YtjgdbfhpjjmjkaaDoorPol
import Derived.LoopTactic
import Derived.OwnWalk
import Derived.Maps.AppendAt
import Derived.Deep.AppendLies
import Derived.Great.BuildSlice
namespace Go.Proofs.YtjgdbfhpjjmjkaaDoor
open Go.RowKit Att Att.CRing
def ff (l : List F) : List Value := l.map fun x => .int .u64 (Zm.i (x))
theorem ff_get {l : List F} {i : Nat} {x : F} (h : l[i]? = some x) : (ff l)[i]? = some (.int .u64 (Zm.i (x))) := by simp [ff, h]
theorem ff_length (l : List F) : (ff l).length = l.length := by simp [ff]
theorem ff_append (l k : List F) : ff (l ++ k) = ff l ++ ff k := by simp [ff]
theorem ff_one (l : List F) : ∀ u ∈ ff l, u.oneCell' = true := by
  intro u hu
  simp only [ff, List.mem_map] at hu
  obtain ⟨x, _, rfl⟩ := hu
  rfl
/-- the slice value '.slice A n c' reads as the list l -/
structure SF (w : World) (A : Option Addr) (n c : Nat) (l : List F) : Prop where
  len : l.length = n
  le : n ≤ c
  small : c ≤ 9223372036854775807
  cells : 0 < n → ∃ b o, A = some ⟨b, o, none⟩ ∧ b < w.heap.size ∧ ∀ i x, l[i]? = some x → w.cell? ⟨b, o + i, none⟩ = some (.int .u64 (Zm.i (x)))
theorem SF.up {a b : World} {A : Option Addr} {n c : Nat} {l : List F} (h : SF a A n c l) (g : Gn a b) : SF b A n c l :=
  ⟨h.len, h.le, h.small, fun hn => by
    obtain ⟨k, o, e, hk, hc⟩ := h.cells hn
    exact ⟨k, o, e, Nat.lt_of_lt_of_le hk g.size, fun i x hx => (g.below.cell (p := ⟨k, _, none⟩) hk).trans (hc i x hx)⟩⟩
theorem SF.nil (w : World) : SF w none 0 0 [] := ⟨rfl, Nat.le_refl _, by omega, fun h => absurd h (by omega)⟩
theorem SF.at_ {w : World} {A : Option Addr} {n c : Nat} {l : List F} (h : SF w A n c l) {j : Nat} (hj : j < n) :
    ∃ b o x, A = some ⟨b, o, none⟩ ∧ l[j]? = some x ∧ b < w.heap.size ∧ w.cell? ⟨b, o + j, none⟩ = some (.int .u64 (Zm.i (x))) := by
  obtain ⟨b, o, e, hb, hc⟩ := h.cells (by omega)
  have hl : j < l.length := by rw [h.len]; exact hj
  exact ⟨b, o, l[j], e, List.getElem?_eq_getElem hl, hb, hc j _ (List.getElem?_eq_getElem hl)⟩
theorem SF.take {w : World} {A : Option Addr} {n c : Nat} {l : List F} (h : SF w A n c l) {k : Nat} (hk : k ≤ n) : SF w A k c (l.take k) :=
  ⟨by rw [List.length_take, h.len]; omega, Nat.le_trans hk h.le, h.small, fun hn => by
    obtain ⟨b, o, e, hb, hc⟩ := h.cells (by omega)
    exact ⟨b, o, e, hb, fun i x hx => hc i x (by
      have hi : i < (l.take k).length := (List.getElem?_eq_some_iff.1 hx).1
      rw [List.length_take] at hi
      rw [List.getElem?_take_of_lt (by omega)] at hx; exact hx)⟩⟩
/-- a block that holds just the elements l -/
def BF (w : World) (g : Nat) (l : List F) : Prop := w.heap[g]? = some (.cells (ff l).toArray 34)
theorem BF.up {a b : World} {g : Nat} {l : List F} (h : BF a g l) (k : Gn a b) : BF b g l := k.block h
theorem BF.cell {w : World} {g : Nat} {l : List F} (h : BF w g l) {i : Nat} {x : F} (hx : l[i]? = some x) : w.cell? ⟨g, i, none⟩ = some (.int .u64 (Zm.i (x))) :=
  obj_cell h _ (by simpa using ff_get hx)
theorem BF.sf {w : World} {g : Nat} {l : List F} (h : BF w g l) (hs : l.length ≤ 9223372036854775807) : SF w (some ⟨g, 0, none⟩) l.length l.length l :=
  ⟨rfl, Nat.le_refl _, hs, fun _ => ⟨g, 0, rfl, blk_lt h, fun i x hx => by rw [Nat.zero_add]; exact h.cell hx⟩⟩
/-- the world behind a store into a row -/
def setF (w : World) (g i : Nat) (x : F) : World := w.setCell ⟨g, i, none⟩ (.int .u64 (Zm.i (x)))
theorem BF.set {w : World} {g i : Nat} {l : List F} (h : BF w g l) (x : F) : BF (setF w g i x) g (l.set i x) := by
  unfold BF at h ⊢
  have e : (ff l).set i (.int .u64 (Zm.i (x))) = ff (l.set i x) := by simp [ff, List.map_set]
  rw [← e]
  simp [setF, World.setCell, Array.getElem?_modify, h]
theorem setF_below {W w : World} {g i : Nat} (h : Gn W w) (hb : W.heap.size ≤ g) (x : F) : Gn W (setF w g i x) := Gn.of (h.below.setCell hb _)
theorem setF_other {w : World} {g i c : Nat} (hc : c ≠ g) (x : F) : (setF w g i x).heap[c]? = w.heap[c]? := Below.heap_setCell _ _ _ c hc
theorem u64Info : (Tryd.prog.info? 34).map (fun i => (i.zero, i.size, i.bytes)) = some (some (.int .u64 0), 1, 8) := by kernel_rfl
theorem ff_zero (n : Nat) : ff (List.replicate n 0) = List.replicate n (.int .u64 0) := by
  unfold ff; rw [List.map_replicate]; rfl
theorem madeF (n : Nat) : madeCells #[.int .u64 0] n = (ff (List.replicate n 0)).toArray := by
  rw [ff_zero]
  apply Array.ext
  · simp [madeCells]
  · intro i h1 h2; simp [madeCells, Nat.mod_one]
/-- a block that begins with the elements l -/
def RF (w : World) (g : Nat) (l : List F) (rest : List Value) : Prop := w.heap[g]? = some (.cells (ff l ++ rest).toArray 34)
theorem RF.up {a b : World} {g : Nat} {l : List F} {rest : List Value} (h : RF a g l rest) (k : Gn a b) : RF b g l rest := k.block h
theorem RF.cell {w : World} {g : Nat} {l : List F} {rest : List Value} (h : RF w g l rest) {i : Nat} {x : F} (hx : l[i]? = some x) : w.cell? ⟨g, i, none⟩ = some (.int .u64 (Zm.i (x))) := by
  have hi : i < (ff l).length := by rw [ff_length]; exact (List.getElem?_eq_some_iff.1 hx).1
  exact obj_cell h _ (by simpa [List.getElem?_append_left hi] using ff_get hx)
theorem RF.set {w : World} {g i : Nat} {l : List F} {rest : List Value} (h : RF w g l rest) (hi : i < l.length) (x : F) : RF (setF w g i x) g (l.set i x) rest := by
  unfold RF at h ⊢
  have e : (ff l ++ rest).set i (.int .u64 (Zm.i (x))) = ff (l.set i x) ++ rest := by
    rw [List.set_append_left _ _ (by rw [ff_length]; exact hi)]
    simp [ff, List.map_set]
  rw [← e]
  simp [setF, World.setCell, Array.getElem?_modify, h]
theorem RF.sf {w : World} {g c : Nat} {l : List F} {rest : List Value} (h : RF w g l rest) (hc : l.length ≤ c) (hs : c ≤ 9223372036854775807) : SF w (some ⟨g, 0, none⟩) l.length c l :=
  ⟨rfl, hc, hs, fun _ => ⟨g, 0, rfl, blk_lt h, fun i x hx => by rw [Nat.zero_add]; exact h.cell hx⟩⟩
theorem BF.rf {w : World} {g : Nat} {l : List F} (h : BF w g l) : RF w g l [] := by unfold RF; rw [List.append_nil]; exact h
theorem RF.bf {w : World} {g : Nat} {l : List F} (h : RF w g l []) : BF w g l := by unfold RF at h; rwa [List.append_nil] at h
/-- make of n zeros -/
theorem wpList_mkF {ops : Array Oper} {rest : List Oper} {a : Act} {w : World} {Q : Exit → Act → World → Prop} {d : Option Nat} {ty : TypeId} {pos : String} {aft : Array Edge} (l c : Operand) (n : Nat)
    (hl : a.eval l = .int .i64 n) (hc : a.eval c = .int .i64 n) (hn : n ≤ 1099511627776)
    (hK : wpList Tryd.prog ops Q rest (a.put d (.slice (some ⟨w.heap.size, 0, none⟩) n n)) (w.alloc (.cells (ff (List.replicate n 0)).toArray 34))) :
    wpList Tryd.prog ops Q (⟨d, .makeSlice 22 l c, ty, pos, aft, none⟩ :: rest) a w := by
  obtain ⟨i0, hi, hz0, hz1, hz2⟩ := info_parts u64Info
  have hrun := run_make (P := Tryd.prog) w 22 34 i0 _ Tryd.underlying22 hi hz0 .i64 .i64 n n (by omega) (by omega) (by rw [hz2]; omega) (by omega)
  refine wpList_plain rfl fun K hK' => ?_
  unfold Oper.wp
  simp only [execOp, hl, hc, Sem.run_bind, hrun]
  simp only [Result.andThen, Oper.upon, Sem.run_pure]
  refine hK' _ _ ?_
  have e : madeCells (Value.cells (.int .u64 0)) ((n : Int).toNat * i0.size) = (ff (List.replicate n 0)).toArray := by
    rw [hz1, Int.toNat_natCast, Nat.mul_one]; exact madeF n
  rw [e, Int.toNat_natCast]
  exact hK

/- ───── a row that grows by append ───── -/
def OF (w : World) (base : Nat) (v : Value) (l : List F) : Prop := w.ownsRow base 34 1 v l.length (ff l)
theorem OF.nil (w : World) (base : Nat) : OF w base (.slice none 0 0) [] := ⟨rfl, .inl ⟨rfl, rfl⟩⟩
theorem OF.empty (w : World) {base : Nat} (hb : base ≤ w.heap.size) : OF (w.alloc (.cells #[] 34)) base (.slice (some ⟨w.heap.size, 0, none⟩) 0 0) [] :=
  ⟨rfl, .inr ⟨_, 0, #[], rfl, hb, hnew w _, Nat.le_refl _, by unfold maxLen; omega, rfl, rfl⟩⟩
theorem OF.up {a b : World} {base : Nat} {v : Value} {l : List F} (h : OF a base v l) (k : Gn a b) : OF b base v l := by
  rcases h with ⟨h1, h2 | ⟨g, cap, cur, hv, hb, hg, hn, hc, hsz, htake⟩⟩
  · exact ⟨h1, .inl h2⟩
  · exact ⟨h1, .inr ⟨g, cap, cur, hv, hb, k.block hg, hn, hc, hsz, htake⟩⟩
theorem OF.sf {w : World} {base : Nat} {v : Value} {l : List F} (h : OF w base v l) : ∃ A c, v = .slice A l.length c ∧ SF w A l.length c l := by
  rcases h.2 with ⟨rfl, h0⟩ | ⟨g, cap, cur, rfl, hb, hg, hn, hc, hsz, htake⟩
  · have hl : l = [] := List.eq_nil_of_length_eq_zero h0
    subst hl
    exact ⟨none, 0, rfl, SF.nil w⟩
  · refine ⟨_, cap, rfl, rfl, hn, by unfold maxLen at hc; omega, fun _ => ⟨g, 0, rfl, blk_lt hg, fun i x hx => ?_⟩⟩
    have hil : i < l.length := (List.getElem?_eq_some_iff.1 hx).1
    have hf := ff_get hx
    rw [← htake, List.getElem?_take_of_lt (by omega)] at hf
    rw [Nat.zero_add]
    exact obj_cell hg _ (by simpa using hf)
/-- a row of one's own that is not empty lies in a block -/
theorem OF.rf {w : World} {base : Nat} {v : Value} {l : List F} (h : OF w base v l) (h0 : 0 < l.length) : ∃ g c rest, v = .slice (some ⟨g, 0, none⟩) l.length c ∧ RF w g l rest ∧ base ≤ g ∧ l.length ≤ c ∧ c ≤ 9223372036854775807 := by
  rcases h.2 with ⟨rfl, h1⟩ | ⟨g, cap, cur, rfl, hb, hg, hn, hc, hsz, htake⟩
  · omega
  · refine ⟨g, cap, cur.toList.drop l.length, rfl, ?_, hb, hn, by unfold maxLen at hc; omega⟩
    unfold RF
    rw [Nat.mul_one] at htake
    rw [← htake, List.take_append_drop]
    exact hg
theorem grown_gnF {W a b : World} {v : Value} {base : Nat} {l : List F} (h : Gn W a) (ho : OF a base v l) (hb : W.heap.size ≤ base) (hg : a.grownBy b v.ownBlock) : Gn W b := by
  refine Gn.of (h.below.grown hg h.size ?_)
  intro k hk
  rcases ho.2 with ⟨rfl, _⟩ | ⟨g, cap, cur, rfl, hbb, _⟩
  · simp [Value.ownBlock] at hk
  · simp [Value.ownBlock] at hk; omega
theorem OF.base {w : World} {base base' : Nat} {v : Value} {l : List F} (h : OF w base v l) (hb : base' ≤ base) : OF w base' v l := by
  rcases h with ⟨h1, h2 | ⟨g, cap, cur, hv, hbb, hg, hn, hc, hsz, htake⟩⟩
  · exact ⟨h1, .inl h2⟩
  · exact ⟨h1, .inr ⟨g, cap, cur, hv, Nat.le_trans hb hbb, hg, hn, hc, hsz, htake⟩⟩
theorem run_appF {w : World} {ty : TypeId} {base : Nat} {v : Value} {l : List F} (ho : OF w base v l) (hbase : base ≤ w.heap.size) {A : Option Addr} {m c : Nat} {k : List F} (hs : SF w A m c k) (hn : l.length + m ≤ 1099511627776) :
    ∃ v' w', (Builtin.append_ #[22, 22] ty #[v, .slice A m c]).run Tryd.prog w = .ok v' w' ∧ OF w' base v' (l ++ k) ∧ w.grownBy w' v.ownBlock := by
  obtain ⟨i0, hi, hz0, hz1, hz2⟩ := info_parts u64Info
  have hfix : ∀ {v' w'}, w'.ownsRow base 34 1 v' (l.length + m) (ff l ++ ff k) → OF w' base v' (l ++ k) := by
    intro v' w' h
    unfold OF
    rw [List.length_append, hs.len, ff_append]; exact h
  rcases Nat.eq_zero_or_pos m with h0 | h0
  · subst h0
    have hk : k = [] := List.eq_nil_of_length_eq_zero hs.len
    subst hk
    cases A with
    | none =>
      refine ⟨v, w, ?_, by simpa using ho, World.grownBy.refl w _⟩
      rcases ho.2 with ⟨rfl, _⟩ | ⟨g, cap, cur, rfl, _, _, hnc, _⟩
      · simp [Builtin.append_, run_underlying Tryd.underlying22, sizeOf, typeInfo, hi, Builtin.lenOf, Builtin.firstCells]
      · simp [Builtin.append_, run_underlying Tryd.underlying22, sizeOf, typeInfo, hi, Builtin.lenOf, Builtin.firstCells, hnc, storeCells]
    | some ad =>
      obtain ⟨v', w', hrun, h2, h3, _, _⟩ := run_append_own_at (P := Tryd.prog) w base 22 ty 34 i0 _ 1 8 Tryd.underlying22 hi hz0 hz1 hz2 rfl (by omega) v l.length (ff l) ho ad 0 c [] rfl (by simp) (by simp)
        (by unfold maxLen; omega) (by omega) hbase
      exact ⟨v', w', hrun, by simpa [OF] using h2, h3⟩
  · obtain ⟨b, o, rfl, hb, hc⟩ := hs.cells h0
    obtain ⟨v', w', hrun, h2, h3, _, _⟩ := run_append_own_at (P := Tryd.prog) w base 22 ty 34 i0 _ 1 8 Tryd.underlying22 hi hz0 hz1 hz2 rfl (by omega) v l.length (ff l) ho ⟨b, o, none⟩ m c (ff k)
      (by rw [ff_length, hs.len, Nat.mul_one]) (by
        intro j u hu
        have hj : j < k.length := by rw [← ff_length]; exact (List.getElem?_eq_some_iff.1 hu).1
        have hx : k[j]? = some k[j] := List.getElem?_eq_getElem hj
        rw [ff_get hx] at hu
        cases hu
        have hadd : (⟨b, o, none⟩ : Addr).add j = ⟨b, o + j, none⟩ := by unfold Addr.add; split <;> simp_all
        rw [hadd]
        exact hc _ _ hx) (ff_one k) (by unfold maxLen; omega) (by omega) hbase
    exact ⟨v', w', hrun, hfix h2, h3⟩
theorem wpList_appF {ops : Array Oper} {rest : List Oper} {a : Act} {w : World} {Q : Exit → Act → World → Prop} {d : Option Nat} {ty : TypeId} {pos : String} {aft : Array Edge} (s x : Operand)
    {base : Nat} {v : Value} {l : List F} (hs : a.eval s = v) (ho : OF w base v l) (hbase : base ≤ w.heap.size) {A : Option Addr} {m c : Nat} {k : List F} (hx : a.eval x = .slice A m c) (hk : SF w A m c k) (hn : l.length + m ≤ 1099511627776)
    (hK : ∀ v' w', OF w' base v' (l ++ k) → w.grownBy w' v.ownBlock → wpList Tryd.prog ops Q rest (a.put d v') w') :
    wpList Tryd.prog ops Q (⟨d, .call { callee := .builtin .append, args := #[s, x], argTypes := #[22, 22] }, ty, pos, aft, none⟩ :: rest) a w := by
  obtain ⟨v', w', hrun, h2, h3⟩ := run_appF (ty := ty) ho hbase hk hn
  refine wpList_plain rfl fun K hK' => ?_
  unfold Oper.wp execOp
  simp only [resolve, invoke, builtin, Sem.run_bind, Sem.run_pure, Result.andThen_ok, List.map_toArray, List.map_cons, List.map_nil, hs, hx, hrun]
  exact hK' _ _ (hK v' w' h2 h3)
theorem BF.one {w : World} (x : F) : BF (w.alloc (.cells #[.int .u64 (Zm.i (x))] 34)) w.heap.size [x] := hnew w _

/- ───── slices of raw numbers ───── -/
structure SW (w : World) (A : Option Addr) (n c : Nat) (l : List Int) : Prop where
  len : l.length = n
  le : n ≤ c
  small : c ≤ 9223372036854775807
  rng : ∀ z ∈ l, In64 z
  cells : 0 < n → ∃ b o, A = some ⟨b, o, none⟩ ∧ b < w.heap.size ∧ ∀ i (z : Int), l[i]? = some z → w.cell? ⟨b, o + i, none⟩ = some (.int .u64 z)
theorem SW.up {a b : World} {A : Option Addr} {n c : Nat} {l : List Int} (h : SW a A n c l) (g : Gn a b) : SW b A n c l :=
  ⟨h.len, h.le, h.small, h.rng, fun hn => by
    obtain ⟨k, o, e, hk, hc⟩ := h.cells hn
    exact ⟨k, o, e, Nat.lt_of_lt_of_le hk g.size, fun i x hx => (g.below.cell (p := ⟨k, _, none⟩) hk).trans (hc i x hx)⟩⟩
theorem SW.at_ {w : World} {A : Option Addr} {n c : Nat} {l : List Int} (h : SW w A n c l) {j : Nat} (hj : j < n) :
    ∃ b o z, A = some ⟨b, o, none⟩ ∧ l[j]? = some z ∧ b < w.heap.size ∧ w.cell? ⟨b, o + j, none⟩ = some (.int .u64 z) ∧ In64 z := by
  obtain ⟨b, o, e, hb, hc⟩ := h.cells (by omega)
  have hl : j < l.length := by rw [h.len]; exact hj
  have hg : l[j]? = some l[j] := List.getElem?_eq_getElem hl
  exact ⟨b, o, l[j], e, hg, hb, hc j _ hg, h.rng _ (List.getElem_mem hl)⟩
theorem SW.take {w : World} {A : Option Addr} {n c : Nat} {l : List Int} (h : SW w A n c l) {k : Nat} (hk : k ≤ n) : SW w A k c (l.take k) :=
  ⟨by rw [List.length_take, h.len]; omega, Nat.le_trans hk h.le, h.small, fun z hz => h.rng z (List.mem_of_mem_take hz), fun hn => by
    obtain ⟨b, o, e, hb, hc⟩ := h.cells (by omega)
    exact ⟨b, o, e, hb, fun i x hx => hc i x (by
      have hi : i < (l.take k).length := (List.getElem?_eq_some_iff.1 hx).1
      rw [List.length_take] at hi
      rw [List.getElem?_take_of_lt (by omega)] at hx; exact hx)⟩⟩
end Go.Proofs.YtjgdbfhpjjmjkaaDoor
