/- Two rows that grow by append, side by side. -/
import Derived.Test.YtjchccpicddpoaaKc
namespace Go.Proofs.Ytjchccpicddpoaa
open Go.RowKit Att Att.CRing
structure Two (w : World) (base : Nat) (v1 : Value) (l1 : List Ext) (v2 : Value) (l2 : List Ext) : Prop where
  a : Ow w base v1 l1
  b : Ow w base v2 l2
  ne : ∀ k, v1.ownBlock = some k → v2.ownBlock ≠ some k
theorem Two.symm {w : World} {base : Nat} {v1 v2 : Value} {l1 l2 : List Ext} (h : Two w base v1 l1 v2 l2) : Two w base v2 l2 v1 l1 := ⟨h.b, h.a, fun k h2 h1 => h.ne k h1 h2⟩
theorem Two.up {w w' : World} {base : Nat} {v1 v2 : Value} {l1 l2 : List Ext} (h : Two w base v1 l1 v2 l2) (g : Gn w w') : Two w' base v1 l1 v2 l2 := ⟨h.a.up g, h.b.up g, h.ne⟩
theorem Ow.own_lt {w : World} {base : Nat} {v : Value} {l : List Ext} (h : Ow w base v l) {k : Nat} (hk : v.ownBlock = some k) : k < w.heap.size := by
  rcases h.2 with ⟨rfl, _⟩ | ⟨g, cap, cur, rfl, hb, hg, _⟩
  · cases hk
  · cases hk; exact blk_lt hg
theorem Ow.kept {w w' : World} {base : Nat} {v : Value} {l : List Ext} (h : Ow w base v l) {row : Option Nat} (hg : w.grownBy w' row) (hne : ∀ k, v.ownBlock = some k → row ≠ some k) : Ow w' base v l := by
  rcases h with ⟨h1, h2 | ⟨g, cap, cur, hv, hb, hgc, hn, hc, hsz, htake⟩⟩
  · exact ⟨h1, .inl h2⟩
  · refine ⟨h1, .inr ⟨g, cap, cur, hv, hb, (hg.block g (blk_lt hgc) (fun e => hne g (by rw [hv]; rfl) e.symm)).trans hgc, hn, hc, hsz, htake⟩⟩
theorem Two.app {w w' : World} {base : Nat} {v1 v2 v' : Value} {l1 l2 l' : List Ext} (h : Two w base v1 l1 v2 l2) (ho : Ow w' base v' l') (hg : w.grownBy w' v1.ownBlock) (hb : v'.ownBlock = v1.ownBlock ∨ v'.ownBlock = some w.heap.size) : Two w' base v' l' v2 l2 := by
  refine ⟨ho, h.b.kept hg (fun k hk e => h.ne k e hk), ?_⟩
  intro k hk hk2
  rcases hb with e | e
  · exact h.ne k (e.symm.trans hk) hk2
  · rw [e] at hk
    cases hk
    exact absurd (h.b.own_lt hk2) (by omega)
theorem Ow.empty' {w : World} {base b : Nat} (h : w.heap[b]? = some (.cells #[] 25)) (hb : base ≤ b) : Ow w base (.slice (some ⟨b, 0, none⟩) 0 0) [] :=
  ⟨rfl, .inr ⟨_, 0, #[], rfl, hb, h, Nat.le_refl _, by unfold maxLen; omega, rfl, rfl⟩⟩
theorem wpList_app2 {ops : Array Oper} {rest : List Oper} {a : Act} {w : World} {Q : Exit → Act → World → Prop} {d : Option Nat} {ty : TypeId} {pos : String} {aft : Array Edge} (s x : Operand)
    {base : Nat} {v : Value} {l : List Ext} (hs : a.eval s = v) (ho : Ow w base v l) (hbase : base ≤ w.heap.size) {A : Option Addr} {m c : Nat} {k : List Ext} (hx : a.eval x = .slice A m c) (hk : Sl w A m c k) (h0 : 0 < m) (hn : l.length + m ≤ 1099511627776)
    (hK : ∀ v' w', Ow w' base v' (l ++ k) → w.grownBy w' v.ownBlock → (v'.ownBlock = v.ownBlock ∨ v'.ownBlock = some w.heap.size) → wpList Try.prog ops Q rest (a.put d v') w') :
    wpList Try.prog ops Q (⟨d, .call { callee := .builtin .append, args := #[s, x], argTypes := #[22, 22] }, ty, pos, aft, none⟩ :: rest) a w := by
  obtain ⟨i0, hi, hz0, hz1, hz2⟩ := info_parts extInfo
  obtain ⟨b, o, rfl, hb, hc⟩ := hk.cells h0
  obtain ⟨v', w', hrun, h2, h3, _, h5⟩ := run_append_own_at (P := Try.prog) w base 22 ty 25 i0 _ 2 16 Try.underlying22 hi hz0 hz1 hz2 rfl (by omega) v l.length (fl l) ho ⟨b, o, none⟩ m c (fl k)
    (by rw [fl_length, hk.len]) (by
      intro j u hu
      have hj : j < k.length * 2 := by rw [← fl_length]; exact (List.getElem?_eq_some_iff.1 hu).1
      have hx : k[j / 2]? = some k[j / 2] := List.getElem?_eq_getElem (by omega)
      have h4 := fl_get k (j / 2) _ hx
      have h5 := hc _ _ hx
      have hadd : (⟨b, o, none⟩ : Addr).add j = ⟨b, o + j, none⟩ := by unfold Addr.add; split <;> simp_all
      rw [hadd]
      rcases Nat.mod_two_eq_zero_or_one j with h6 | h6
      · have e : j / 2 * 2 = j := by omega
        rw [e] at h4 h5
        rw [hu] at h4
        rw [h5.1, ← h4.1]
      · have e : j / 2 * 2 + 1 = j := by omega
        rw [Nat.add_assoc, e] at h5
        rw [e, hu] at h4
        rw [h5.2, ← h4.2]) (fl_one k) (by unfold maxLen; omega) (by omega) hbase
  refine wpList_plain rfl fun K hK' => ?_
  unfold Oper.wp execOp
  simp only [resolve, invoke, builtin, Sem.run_bind, Sem.run_pure, Result.andThen_ok, List.map_toArray, List.map_cons, List.map_nil, hs, hx, hrun]
  refine hK' _ _ (hK v' w' ?_ h3 h5)
  unfold Ow
  rw [List.length_append, hk.len, fl_append]; exact h2
end Go.Proofs.Ytjchccpicddpoaa
