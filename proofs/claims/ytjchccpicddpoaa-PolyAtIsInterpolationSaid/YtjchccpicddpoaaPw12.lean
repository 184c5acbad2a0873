/- Rows of integers that grow by append; Roots. -/
import Derived.Test.YtjchccpicddpoaaPw11
namespace Go.Proofs.Ytjchccpicddpoaa
open Go.RowKit Att Att.CRing
def fi (l : List Int) : List Value := l.map (Value.int .i64 ·)
def OwI (w : World) (base : Nat) (v : Value) (l : List Int) : Prop := w.ownsRow base 3 1 v l.length (fi l)
theorem OwI.nil (w : World) (base : Nat) : OwI w base (.slice none 0 0) [] := ⟨rfl, .inl ⟨rfl, rfl⟩⟩
theorem OwI.empty (w : World) {base : Nat} (hb : base ≤ w.heap.size) : OwI (w.alloc (.cells #[] 3)) base (.slice (some ⟨w.heap.size, 0, none⟩) 0 0) [] :=
  ⟨rfl, .inr ⟨_, 0, #[], rfl, hb, hnew w _, Nat.le_refl _, by unfold maxLen; omega, rfl, rfl⟩⟩
theorem OwI.up {a b : World} {base : Nat} {v : Value} {l : List Int} (h : OwI a base v l) (k : Gn a b) : OwI b base v l := by
  rcases h with ⟨h1, h2 | ⟨g, cap, cur, hv, hb, hg, hn, hc, hsz, htake⟩⟩
  · exact ⟨h1, .inl h2⟩
  · exact ⟨h1, .inr ⟨g, cap, cur, hv, hb, k.block hg, hn, hc, hsz, htake⟩⟩
theorem OwI.sl {w : World} {base : Nat} {v : Value} {l : List Int} (h : OwI w base v l) (hr : ∀ z ∈ l, -9223372036854775808 ≤ z ∧ z ≤ 9223372036854775807) : ∃ A c, v = .slice A l.length c ∧ SlI w A l.length c l := by
  rcases h.2 with ⟨rfl, h0⟩ | ⟨g, cap, cur, rfl, hb, hg, hn, hc, hsz, htake⟩
  · have hl : l = [] := List.eq_nil_of_length_eq_zero h0
    subst hl
    exact ⟨none, 0, rfl, rfl, Nat.le_refl _, by omega, hr, fun h => absurd h (by simp)⟩
  · refine ⟨_, cap, rfl, rfl, hn, by unfold maxLen at hc; omega, hr, fun _ => ⟨g, 0, rfl, blk_lt hg, fun i x hx => ?_⟩⟩
    have hil : i < l.length := (List.getElem?_eq_some_iff.1 hx).1
    have hf : (fi l)[i]? = some (.int .i64 x) := by simp [fi, hx]
    rw [← htake, List.getElem?_take_of_lt (by omega)] at hf
    rw [Nat.zero_add]
    exact obj_cell hg _ (by simpa using hf)
theorem grown_gnI {W a b : World} {v : Value} {base : Nat} {l : List Int} (h : Gn W a) (ho : OwI a base v l) (hb : W.heap.size ≤ base) (hg : a.grownBy b v.ownBlock) : Gn W b := by
  refine Gn.of (h.below.grown hg h.size ?_)
  intro k hk
  rcases ho.2 with ⟨rfl, _⟩ | ⟨g, cap, cur, rfl, hbb, _⟩
  · simp [Value.ownBlock] at hk
  · simp [Value.ownBlock] at hk; omega
theorem intInfo : (Try.prog.info? 3).map (fun i => (i.zero, i.size, i.bytes)) = some (some (.int .i64 0), 1, 8) := by kernel_rfl
theorem wpList_appI {ops : Array Oper} {rest : List Oper} {a : Act} {w : World} {Q : Exit → Act → World → Prop} {d : Option Nat} {ty : TypeId} {pos : String} {aft : Array Edge} (s x : Operand)
    {base : Nat} {v : Value} {l : List Int} (hs : a.eval s = v) (ho : OwI w base v l) (hbase : base ≤ w.heap.size) {b : Nat} {z : Int} (hx : a.eval x = .slice (some ⟨b, 0, none⟩) 1 1) (hk : w.heap[b]? = some (.cells #[.int .i64 z] 3)) (hn : l.length + 1 ≤ 1099511627776)
    (hK : ∀ v' w', OwI w' base v' (l ++ [z]) → w.grownBy w' v.ownBlock → wpList Try.prog ops Q rest (a.put d v') w') :
    wpList Try.prog ops Q (⟨d, .call { callee := .builtin .append, args := #[s, x], argTypes := #[38, 38] }, ty, pos, aft, none⟩ :: rest) a w := by
  obtain ⟨i0, hi, hz0, hz1, hz2⟩ := info_parts intInfo
  obtain ⟨v', w', hrun, h2, h3, _, _⟩ := run_append_own_at (P := Try.prog) w base 38 ty 3 i0 _ 1 8 Try.underlying38 hi hz0 hz1 hz2 rfl (by omega) v l.length (fi l) ho ⟨b, 0, none⟩ 1 1 (fi [z])
    rfl (by
      intro j u hu
      have hj : j = 0 := by have := (List.getElem?_eq_some_iff.1 hu).1; simp [fi] at this; omega
      subst hj
      simp [fi] at hu
      subst hu
      exact obj_cell hk 0 rfl) (by intro u hu; simp [fi] at hu; subst hu; rfl) (by unfold maxLen; omega) (by omega) hbase
  refine wpList_plain rfl fun K hK' => ?_
  unfold Oper.wp execOp
  simp only [resolve, invoke, builtin, Sem.run_bind, Sem.run_pure, Result.andThen_ok, List.map_toArray, List.map_cons, List.map_nil, hs, hx, hrun]
  refine hK' _ _ (hK v' w' ?_ h3)
  unfold OwI
  rw [List.length_append]
  simpa [fi] using h2
/-- the indices of the roots among the first k elements -/
def rts (p l : List Ext) (k : Nat) : List Int := ((List.range k).filter fun i => decide (ev p (co l i) = 0)).map Int.ofNat
theorem rts_yes {p l : List Ext} {k : Nat} (h : ev p (co l k) = 0) : rts p l (k + 1) = rts p l k ++ [(k : Int)] := by simp [rts, List.range_succ, h]
theorem rts_no {p l : List Ext} {k : Nat} (h : ev p (co l k) ≠ 0) : rts p l (k + 1) = rts p l k := by simp [rts, List.range_succ, h]
theorem rts_le (p l : List Ext) (k : Nat) : (rts p l k).length ≤ k := by
  unfold rts; rw [List.length_map]; exact Nat.le_trans (List.length_filter_le _ _) (by simp)
theorem rts_rng (p l : List Ext) (k : Nat) (hk : k ≤ 1000000) : ∀ z ∈ rts p l k, -9223372036854775808 ≤ z ∧ z ≤ 9223372036854775807 := by
  intro z hz
  simp only [rts, List.mem_map, List.mem_filter, List.mem_range] at hz
  obtain ⟨i, ⟨hi, _⟩, rfl⟩ := hz
  simp; omega
def RetI (w : World) (l : List Int) (e : Ending) (w' : World) : Prop := ∃ A c, e = .returned (.slice A l.length c) ∧ SlI w' A l.length c l ∧ Gn w w'

set_option maxHeartbeats 1000000 in
theorem x_roots (A : Option Addr) (n c : Nat) (l : List Ext) (A2 : Option Addr) (m c2 : Nat) (l2 : List Ext) (w : World) (hl : Sl w A n c l) (hl2 : Sl w A2 m c2 l2) (hn : n ≤ 1000000) (hm : m ≤ 1000000) :
    Calls Try.prog 32 #[.slice A n c, .slice A2 m c2] w (RetI w (rts l l2 m)) := by
  have n1 := hl2.le; have n2 := hl2.small
  go_enter Try.func32, Try.ntmps32
  go_wp2_with fail
  go_loopw [5, 6] (fun v i wr => ∃ k : Nat, k ≤ m ∧ i = .int .i64 k ∧ OwI wr w.heap.size v (rts l l2 k) ∧ Gn w wr) (fun _ i _ => m - (intOf i).toNat)
  case atStart => exact ⟨0, by omega, rfl, OwI.empty w (Nat.le_refl _), Gn.al _⟩
  case round =>
    obtain ⟨k, hk, rfl, ho, hg⟩ := hrel
    have hle := rts_le l l2 k
    by_cases h1 : k < m
    · obtain ⟨b, o, z, rfl, hx, q1, q2, q3⟩ := (hl2.up hg).at_ h1
      have hc := co_at hx
      clear hx
      go_wp2_with fail
      refine (x_eval A n c l z wr (hl.up hg) hn).mono ?_
      rintro e w2 ⟨rfl, k2⟩
      have ho2 := ho.up k2
      have hg2 := hg.trans k2
      clear q1 q2 q3
      by_cases hz : ev l z = 0
      · have HR := Lib.hid (rts_yes (p := l) (l := l2) (k := k) (by rw [hc]; exact hz))
        have HZ := Lib.hid hz; clear hz hc
        go_wp2_with fail
        refine (xisz _ HZ.out _).mono ?_
        rintro e w3 ⟨rfl, k3⟩
        have ho3 := ho2.up k3
        have hg3 := hg2.trans k3
        go_wp2_with (at_builtin; refine wpList_appI (.tmp 21) (.tmp 23) rfl (ho3.up (Gn.al _)) (by have := hg3.size; simp; omega) rfl (hnew _ _) (by omega) ?_; intro v4 w4 ho4 hg4; have hg5 := grown_gnI (hg3.trans (Gn.al _)) (ho3.up (Gn.al _)) (Nat.le_refl _) hg4; clear hg4)
        exact ⟨⟨k + 1, by omega, by go_num, by rw [HR.out]; exact ho4, hg5⟩, by simp [intOf]; omega⟩
      · have HR := Lib.hid (rts_no (p := l) (l := l2) (k := k) (by rw [hc]; exact hz))
        have HZ := Lib.hid hz; clear hz hc
        go_wp2_with fail
        refine (xisn _ HZ.out _).mono ?_
        rintro e w3 ⟨rfl, k3⟩
        have ho3 := ho2.up k3
        have hg3 := hg2.trans k3
        go_wp2_with fail
        exact ⟨⟨k + 1, by omega, by go_num, by rw [HR.out]; exact ho3, hg3⟩, by simp [intOf]; omega⟩
    · obtain rfl : k = m := by omega
      go_wp2_with fail
      obtain ⟨A', c', rfl, hs⟩ := ho.sl (rts_rng l l2 k hm)
      go_ret
      exact ⟨_, _, rfl, hs, hg⟩
end Go.Proofs.Ytjchccpicddpoaa
