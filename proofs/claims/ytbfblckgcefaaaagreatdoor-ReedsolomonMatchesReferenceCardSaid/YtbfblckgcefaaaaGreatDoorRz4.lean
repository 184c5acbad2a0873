/- Rows of positions (slices of integers); the walk of the reference's next. -/
import Derived.Test.YtbfblckgcefaaaaGreatDoorRz3
namespace Go.Proofs.YtbfblckgcefaaaaGreatDoor
open Go.RowKit Att Att.CRing
def fi (l : List Int) : List Value := l.map (Value.int .i64 ·)
def OwI (w : World) (base : Nat) (v : Value) (l : List Int) : Prop := w.ownsRow base 3 1 v l.length (fi l)
theorem OwI.nil (w : World) (base : Nat) : OwI w base (.slice none 0 0) [] := ⟨rfl, .inl ⟨rfl, rfl⟩⟩
theorem OwI.empty (w : World) {base : Nat} (hb : base ≤ w.heap.size) : OwI (w.alloc (.cells #[] 3)) base (.slice (some ⟨w.heap.size, 0, none⟩) 0 0) [] :=
  ⟨rfl, .inr ⟨_, 0, #[], rfl, hb, hnew w _, Nat.le_refl _, by unfold maxLen; omega, rfl, rfl⟩⟩
theorem OwI.up {a b : World} {base : Nat} {v : Value} {l : List Int} (h : OwI a base v l) (k : Gn a b) : OwI b base v l := by
  rcases h with ⟨h1, h2 | ⟨g, cap, cur, hv, hb, hg, hn, hc, hsz, htake⟩⟩
  · exact ⟨h1, .inl h2⟩
  · exact ⟨h1, .inr ⟨g, cap, cur, hv, hb, k.block hg, hn, hc, hsz, htake⟩⟩
theorem OwI.sl {w : World} {base : Nat} {v : Value} {l : List Int} (h : OwI w base v l) (hr : ∀ z ∈ l, -9223372036854775808 ≤ z ∧ z ≤ 9223372036854775807) : ∃ A c, v = .slice A l.length c ∧ SlI w A l.length c l := by
  rcases h.2 with ⟨rfl, h0⟩ | ⟨g, cap, cur, rfl, hb, hg, hn, hc, hsz, htake⟩
  · have hl : l = [] := List.eq_nil_of_length_eq_zero h0
    subst hl
    exact ⟨none, 0, rfl, rfl, Nat.le_refl _, by omega, hr, fun h => absurd h (by simp)⟩
  · refine ⟨_, cap, rfl, rfl, hn, by unfold maxLen at hc; omega, hr, fun _ => ⟨g, 0, rfl, blk_lt hg, fun i x hx => ?_⟩⟩
    have hil : i < l.length := (List.getElem?_eq_some_iff.1 hx).1
    have hf : (fi l)[i]? = some (.int .i64 x) := by simp [fi, hx]
    rw [← htake, List.getElem?_take_of_lt (by omega)] at hf
    rw [Nat.zero_add]
    exact obj_cell hg _ (by simpa using hf)
theorem grown_gnI {W a b : World} {v : Value} {base : Nat} {l : List Int} (h : Gn W a) (ho : OwI a base v l) (hb : W.heap.size ≤ base) (hg : a.grownBy b v.ownBlock) : Gn W b := by
  refine Gn.of (h.below.grown hg h.size ?_)
  intro k hk
  rcases ho.2 with ⟨rfl, _⟩ | ⟨g, cap, cur, rfl, hbb, _⟩
  · simp [Value.ownBlock] at hk
  · simp [Value.ownBlock] at hk; omega
theorem intInfo : (Tryz.prog.info? 3).map (fun i => (i.zero, i.size, i.bytes)) = some (some (.int .i64 0), 1, 8) := by kernel_rfl
theorem wpList_appI {ops : Array Oper} {rest : List Oper} {a : Act} {w : World} {Q : Exit → Act → World → Prop} {d : Option Nat} {ty : TypeId} {pos : String} {aft : Array Edge} (s x : Operand)
    {base : Nat} {v : Value} {l : List Int} (hs : a.eval s = v) (ho : OwI w base v l) (hbase : base ≤ w.heap.size) {b : Nat} {z : Int} (hx : a.eval x = .slice (some ⟨b, 0, none⟩) 1 1) (hk : w.heap[b]? = some (.cells #[.int .i64 z] 3)) (hn : l.length + 1 ≤ 1099511627776)
    (hK : ∀ v' w', OwI w' base v' (l ++ [z]) → w.grownBy w' v.ownBlock → wpList Tryz.prog ops Q rest (a.put d v') w') :
    wpList Tryz.prog ops Q (⟨d, .call { callee := .builtin .append, args := #[s, x], argTypes := #[68, 68] }, ty, pos, aft, none⟩ :: rest) a w := by
  obtain ⟨i0, hi, hz0, hz1, hz2⟩ := info_parts intInfo
  obtain ⟨v', w', hrun, h2, h3, _, _⟩ := run_append_own_at (P := Tryz.prog) w base 68 ty 3 i0 _ 1 8 Tryz.underlying68 hi hz0 hz1 hz2 rfl (by omega) v l.length (fi l) ho ⟨b, 0, none⟩ 1 1 (fi [z])
    rfl (by
      intro j u hu
      have hj : j = 0 := by have := (List.getElem?_eq_some_iff.1 hu).1; simp [fi] at this; omega
      subst hj
      simp [fi] at hu
      subst hu
      exact obj_cell hk 0 rfl) (by intro u hu; simp [fi] at hu; subst hu; rfl) (by unfold maxLen; omega) (by omega) hbase
  refine wpList_plain rfl fun K hK' => ?_
  unfold Oper.wp execOp
  simp only [resolve, invoke, builtin, Sem.run_bind, Sem.run_pure, Result.andThen_ok, List.map_toArray, List.map_cons, List.map_nil, hs, hx, hrun]
  refine hK' _ _ (hK v' w' ?_ h3)
  unfold OwI
  rw [List.length_append]
  simpa [fi] using h2
theorem fi_get {l : List Int} {i : Nat} {z : Int} (h : l[i]? = some z) : (fi l)[i]? = some (.int .i64 z) := by simp [fi, h]
theorem fi_length (l : List Int) : (fi l).length = l.length := by simp [fi]
/-- a block that begins with the integers l -/
def RI (w : World) (g : Nat) (l : List Int) (rest : List Value) : Prop := w.heap[g]? = some (.cells (fi l ++ rest).toArray 3)
theorem RI.up {a b : World} {g : Nat} {l : List Int} {rest : List Value} (h : RI a g l rest) (k : Gn a b) : RI b g l rest := k.block h
theorem RI.cell {w : World} {g : Nat} {l : List Int} {rest : List Value} (h : RI w g l rest) {i : Nat} {z : Int} (hx : l[i]? = some z) : w.cell? ⟨g, i, none⟩ = some (.int .i64 z) := by
  have hi : i < (fi l).length := by rw [fi_length]; exact (List.getElem?_eq_some_iff.1 hx).1
  exact obj_cell h _ (by simpa [List.getElem?_append_left hi] using fi_get hx)
def setI (w : World) (g i : Nat) (z : Int) : World := w.setCell ⟨g, i, none⟩ (.int .i64 z)
theorem RI.set {w : World} {g i : Nat} {l : List Int} {rest : List Value} (h : RI w g l rest) (hi : i < l.length) (z : Int) : RI (setI w g i z) g (l.set i z) rest := by
  unfold RI at h ⊢
  have e : (fi l ++ rest).set i (.int .i64 z) = fi (l.set i z) ++ rest := by
    rw [List.set_append_left _ _ (by rw [fi_length]; exact hi)]
    simp [fi, List.map_set]
  rw [← e]
  simp [setI, World.setCell, Array.getElem?_modify, h]
theorem setI_below {W w : World} {g i : Nat} (h : Gn W w) (hb : W.heap.size ≤ g) (z : Int) : Gn W (setI w g i z) := Gn.of (h.below.setCell hb _)
theorem RI.sl {w : World} {g c : Nat} {l : List Int} {rest : List Value} (h : RI w g l rest) (hc : l.length ≤ c) (hs : c ≤ 9223372036854775807) (hr : ∀ z ∈ l, -9223372036854775808 ≤ z ∧ z ≤ 9223372036854775807) : SlI w (some ⟨g, 0, none⟩) l.length c l :=
  ⟨rfl, hc, hs, hr, fun _ => ⟨g, 0, rfl, blk_lt h, fun i x hx => by rw [Nat.zero_add]; exact h.cell hx⟩⟩
theorem OwI.ri {w : World} {base : Nat} {v : Value} {l : List Int} (h : OwI w base v l) (h0 : 0 < l.length) : ∃ g c rest, v = .slice (some ⟨g, 0, none⟩) l.length c ∧ RI w g l rest ∧ base ≤ g ∧ l.length ≤ c ∧ c ≤ 9223372036854775807 := by
  rcases h.2 with ⟨rfl, h1⟩ | ⟨g, cap, cur, rfl, hb, hg, hn, hc, hsz, htake⟩
  · omega
  · refine ⟨g, cap, cur.toList.drop l.length, rfl, ?_, hb, hn, by unfold maxLen at hc; omega⟩
    unfold RI
    rw [Nat.mul_one] at htake
    rw [← htake, List.take_append_drop]
    exact hg
/-- the first k positions -/
def idl (k : Nat) (s : Nat → Nat) : List Int := (List.range k).map fun j => (s j : Int)
theorem idl_length (k : Nat) (s : Nat → Nat) : (idl k s).length = k := by simp [idl]
theorem idl_get {k : Nat} {s : Nat → Nat} {j : Nat} (h : j < k) : (idl k s)[j]? = some (s j : Int) := by
  unfold idl; rw [List.getElem?_map, List.getElem?_range h]; rfl
theorem idl_succ (k : Nat) (s : Nat → Nat) : idl (k + 1) s = idl k s ++ [(s k : Int)] := by simp [idl, List.range_succ]
theorem idl_congr {k : Nat} {s t : Nat → Nat} (h : ∀ j, j < k → s j = t j) : idl k s = idl k t := by
  unfold idl; exact List.map_congr_left fun j hj => by rw [h j (List.mem_range.1 hj)]
theorem idl_set {k : Nat} {s t : Nat → Nat} {j : Nat} (hj : j < k) (ho : ∀ x, x ≠ j → t x = s x) : (idl k s).set j (t j : Int) = idl k t := by
  apply List.ext_getElem?
  intro i
  by_cases e : i = j
  · subst e
    rw [List.getElem?_set_self (by rw [idl_length]; exact hj), idl_get hj]
  · rw [List.getElem?_set_ne (Ne.symm e)]
    by_cases hi : i < k
    · rw [idl_get hi, idl_get hi, ho i e]
    · rw [List.getElem?_eq_none (by rw [idl_length]; omega), List.getElem?_eq_none (by rw [idl_length]; omega)]
theorem idl_rng {k : Nat} {s : Nat → Nat} {n : Nat} (h : ∀ j, j < k → s j < n) (hn : n ≤ 1000000) : ∀ z ∈ idl k s, -9223372036854775808 ≤ z ∧ z ≤ 9223372036854775807 := by
  intro z hz
  unfold idl at hz
  obtain ⟨j, hj, rfl⟩ := List.mem_map.1 hz
  have := h j (List.mem_range.1 hj)
  omega
/-- the next positions, of which those below t are written -/
def mds (s : Nat → Nat) (i t : Nat) : Nat → Nat := fun x => if x < i then s x else if x < t then s i + 1 + (x - i) else s x
theorem mds_one (s : Nat → Nat) (i : Nat) : mds s i (i + 1) i = s i + 1 := by unfold mds; rw [if_neg (by omega), if_pos (by omega)]; omega
theorem mds_one' (s : Nat → Nat) (i x : Nat) (h : x ≠ i) : mds s i (i + 1) x = s x := by
  unfold mds
  by_cases h1 : x < i
  · rw [if_pos h1]
  · rw [if_neg h1, if_neg (by omega)]
theorem mds_step (s : Nat → Nat) {i t : Nat} (h : i < t) : mds s i (t + 1) t = s i + 1 + (t - i) := by unfold mds; rw [if_neg (by omega), if_pos (by omega)]
theorem mds_prev (s : Nat → Nat) {i t : Nat} (h : i ≤ t) : mds s i (t + 1) t = s i + 1 + (t - i) := by unfold mds; rw [if_neg (by omega), if_pos (by omega)]
theorem mds_step' (s : Nat → Nat) {i t x : Nat} (h : x ≠ t) : mds s i (t + 1) x = mds s i t x := by
  unfold mds
  by_cases h1 : x < i
  · rw [if_pos h1, if_pos h1]
  · rw [if_neg h1, if_neg h1]
    by_cases h2 : x < t
    · rw [if_pos h2, if_pos (by omega)]
    · rw [if_neg h2, if_neg (by omega)]
theorem mds_end (s : Nat → Nat) {i k x : Nat} (h : x < k) : mds s i k x = nxt s i x := by
  unfold mds nxt
  by_cases h1 : x < i
  · rw [if_pos h1, if_pos h1]
  · rw [if_neg h1, if_neg h1, if_pos h]
set_option maxHeartbeats 4000000 in
theorem y_next (g k c n : Nat) (s : Nat → Nat) (rest : List Value) (W w : World) (hW : Gn W w) (hb : W.heap.size ≤ g) (hr : RI w g (idl k s) rest) (hc : k ≤ c) (hs : Inc k n s) (hn : n ≤ 100000) (hkn : k ≤ n) :
    Calls Tryz.prog 43 #[.slice (some ⟨g, 0, none⟩) k c, .int .i64 n] w fun e w' => Gn W w' ∧
      ((∃ i, i < k ∧ s i + (k - i) < n ∧ (∀ j, i < j → j < k → s j + (k - j) = n) ∧ e = .returned (.bool true) ∧ RI w' g (idl k (nxt s i)) rest) ∨ ((∀ j, j < k → s j + (k - j) = n) ∧ e = .returned (.bool false))) := by
  go_enter Tryz.func43, Tryz.ntmps43
  go_wp2_with fail
  go_loopw [5] (fun v wr => ∃ j : Nat, j ≤ k ∧ v = .int .i64 ((j : Int) - 1) ∧ Hid (∀ t, j ≤ t → t < k → s t + (k - t) = n) ∧ wr = w) (fun v _ => (intOf v + 1).toNat)
  case atStart => exact ⟨k, Nat.le_refl _, rfl, Lib.hid (fun t h1 h2 => by omega), rfl⟩
  case round =>
    obtain ⟨j, hj, rfl, htop, rfl⟩ := hrel
    cases j with
    | zero =>
      clear hs
      go_wp2_with fail
      go_ret
      exact ⟨hW, .inr ⟨fun j hj => htop.out j (by omega) hj, rfl⟩⟩
    | succ j =>
      rw [show ((j + 1 : Nat) : Int) - 1 = (j : Int) from by omega]
      have hjk : j < k := by omega
      have hsj := hs.1 j hjk
      have htp := hs.top hjk
      have c1 := hr.cell (idl_get (s := s) hjk)
      have c2 := blk_lt hr
      obtain ⟨p, hp⟩ : ∃ p, p = s j := ⟨_, rfl⟩
      rw [← hp] at c1 hsj htp
      by_cases he : p + (k - j) = n
      · have hb1 : ((p : Int) == (n : Int) - (k : Int) + (j : Int)) = true := by rw [beq_iff_eq]; omega
        have htop2 := Lib.hid (show ∀ t, j ≤ t → t < k → s t + (k - t) = n from fun t h1 h2 => by
          by_cases e : t = j
          · subst e; rw [← hp]; exact he
          · exact htop.out t (by omega) h2)
        replace hp := Lib.hid hp
        clear hs htop he
        go_wp2_with fail
        exact ⟨⟨j, by omega, by go_num, htop2, by first | rfl | trivial⟩, by simp [intOf]⟩
      · have hb1 : ((p : Int) == (n : Int) - (k : Int) + (j : Int)) = false := by rw [beq_eq_false_iff_ne]; omega
        have f1 := box_fz (i := j) hr
        have hlt : p + (k - j) < n := by omega
        have hr2 := hr.set (i := j) (by rw [idl_length]; exact hjk) ((mds s j (j + 1) j : Nat) : Int)
        rw [idl_set hjk (fun x h => mds_one' s j x h), mds_one, ← hp] at hr2
        have hg2 := setI_below (i := j) hW hb ((p + 1 : Nat) : Int)
        have hi1 : ((p + 1 : Nat) : Int) = (p : Int) + 1 := by omega
        rw [hi1] at hr2 hg2
        replace hp := Lib.hid hp
        clear hs he hi1
        go_wp2_with fail
        have hw : wr.setCell ⟨g, j, none⟩ (.int .i64 ((p : Int) + 1)) = setI wr g j ((p : Int) + 1) := rfl
        try rw [hw]
        clear hw
        generalize setI wr g j ((p : Int) + 1) = w1 at *
        clear c1 c2 f1 hr hW
        go_loopw [6] (fun v wr => ∃ t : Nat, j + 1 ≤ t ∧ t ≤ k ∧ v = .int .i64 t ∧ RI wr g (idl k (mds s j t)) rest ∧ Gn W wr) (fun v _ => k - (intOf v).toNat)
        case atStart => exact ⟨j + 1, by omega, by omega, by go_num, hr2, hg2⟩
        case round =>
          clear hr2 hg2
          obtain ⟨t, ht1, ht2, rfl, hr, hg⟩ := hrel
          by_cases htk : t < k
          · obtain ⟨t, rfl⟩ : ∃ t', t = t' + 1 := ⟨t - 1, by omega⟩
            have htk1 : t < k := by omega
            have c1 := hr.cell (idl_get (s := mds s j (t + 1)) htk1)
            rw [mds_prev s (show j ≤ t by omega), ← hp.out] at c1
            have c1' := hr.cell (idl_get (s := mds s j (t + 1)) htk)
            have c2 := blk_lt hr
            have f1 := box_fz (i := t + 1) hr
            have hr2 := hr.set (i := t + 1) (by rw [idl_length]; exact htk) ((mds s j (t + 1 + 1) (t + 1) : Nat) : Int)
            rw [idl_set htk (fun x h => mds_step' s h), mds_step s (show j < t + 1 by omega), ← hp.out] at hr2
            have hi1 : ((p + 1 + (t + 1 - j) : Nat) : Int) = ((p + 1 + (t - j) : Nat) : Int) + 1 := by omega
            rw [hi1] at hr2
            have hg2 := setI_below (i := t + 1) hg hb (((p + 1 + (t - j) : Nat) : Int) + 1)
            have hq : p + 1 + (t - j) ≤ n := by omega
            generalize mds s j (t + 1) (t + 1) = x0 at *
            generalize p + 1 + (t - j) = q at *
            rw [show (((t + 1 : Nat) : Nat) : Int) = (t : Int) + 1 from by omega]
            have hi2 : (t : Int) + 1 - 1 = (t : Int) := by omega
            clear hi1
            go_wp2_with fail
            exact ⟨⟨t + 1 + 1, by omega, by omega, by go_num, hr2, hg2⟩, by simp [intOf]; omega⟩
          · obtain rfl : t = k := by omega
            have he2 : idl t (mds s j t) = idl t (nxt s j) := idl_congr fun x hx => mds_end s hx
            rw [he2] at hr
            clear he2
            go_wp2_with fail
            go_ret
            exact ⟨hg, .inl ⟨j, hjk, by rw [← hp.out]; exact hlt, fun x h1 h2 => htop.out x (by omega) h2, rfl, hr⟩⟩
end Go.Proofs.YtbfblckgcefaaaaGreatDoor
