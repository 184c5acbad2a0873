/- The walks of package poly and its reference: Same, Clone, Trim, Degree. -/
import Derived.Test.YtjchccpicddpoaaSl
namespace Go.Proofs.Ytjchccpicddpoaa
open Go.RowKit Att Att.CRing

/-- a slice of the call's own is returned -/
def RetSl (w : World) (l : List Ext) (e : Ending) (w' : World) : Prop := ∃ A n c, e = .returned (.slice A n c) ∧ Sl w' A n c l ∧ Gn w w'
theorem RetSl.of {w w' : World} {l : List Ext} {v : Value} {base : Nat} (ho : Ow w' base v l) (hg : Gn w w') : RetSl w l (.returned v) w' := by
  obtain ⟨A, c, rfl, hs⟩ := ho.sl
  exact ⟨A, _, c, rfl, hs, hg⟩

/-- a slice of the call's own is returned, that may still grow -/
def RetOw (w : World) (l : List Ext) (e : Ending) (w' : World) : Prop := ∃ v, e = .returned v ∧ Ow w' w.heap.size v l ∧ Gn w w'
theorem RetOw.sl {w w' : World} {l : List Ext} {e : Ending} (h : RetOw w l e w') : RetSl w l e w' := by
  obtain ⟨v, rfl, ho, hg⟩ := h
  exact RetSl.of ho hg
theorem Ow.base {w : World} {base base' : Nat} {v : Value} {l : List Ext} (h : Ow w base v l) (hb : base' ≤ base) : Ow w base' v l := by
  rcases h with ⟨h1, h2 | ⟨g, cap, cur, hv, hbb, hg, hn, hc, hsz, htake⟩⟩
  · exact ⟨h1, .inl h2⟩
  · exact ⟨h1, .inr ⟨g, cap, cur, hv, Nat.le_trans hb hbb, hg, hn, hc, hsz, htake⟩⟩
set_option maxHeartbeats 1000000 in
theorem p_cloneO (A : Option Addr) (n c : Nat) (l : List Ext) (w : World) (hl : Sl w A n c l) (hn : n ≤ 1000000000) :
    Calls Try.prog 47 #[.slice A n c] w (RetOw w l) := by
  have he := fun (w : World) => Lib.run_eql_slice_nil (P := Try.prog) w 22 25 A n c 0 0 Try.underlying22
  cases A with
  | none =>
    have hl0 : l = [] := by
      rcases Nat.eq_zero_or_pos n with h | h
      · exact List.eq_nil_of_length_eq_zero (hl.len.trans h)
      · obtain ⟨b, o, e, _⟩ := hl.cells h; cases e
    subst hl0
    go_enter Try.func47, Try.ntmps47
    go_wp2_with fail
    go_ret
    exact ⟨_, rfl, Ow.nil w _, Gn.refl w⟩
  | some ad =>
    go_enter Try.func47, Try.ntmps47
    go_wp2_with (at_builtin; refine wpList_app (.tmp 5) (.tmp 6) rfl (Ow.empty w (Nat.le_refl _)) (by simp) rfl (hl.up (Gn.al _)) (by simp; omega) ?_; intro v1 w1 ho hg)
    go_ret
    exact ⟨_, rfl, ho, grown_gn (Gn.al _) (Ow.empty w (Nat.le_refl _)) (Nat.le_refl _) hg⟩

/- Trim -/
theorem isz (x : Ext) (h : x = 0) (w : World) : Calls Try.prog 46 #[.agg #[.int .u64 (Zm.i (Ext.a (x))), .int .u64 (Zm.i (Ext.b (x)))]] w fun e w' => e = .returned (.bool true) ∧ ∃ g, w' = gr w g := by
  have := e_isZero x w; rwa [decide_eq_true h] at this
theorem isn (x : Ext) (h : x ≠ 0) (w : World) : Calls Try.prog 46 #[.agg #[.int .u64 (Zm.i (Ext.a (x))), .int .u64 (Zm.i (Ext.b (x)))]] w fun e w' => e = .returned (.bool false) ∧ ∃ g, w' = gr w g := by
  have := e_isZero x w; rwa [decide_eq_false h] at this
theorem xisz (x : Ext) (h : x = 0) (w : World) : Calls Try.prog 48 #[.agg #[.int .u64 (Zm.i (Ext.a (x))), .int .u64 (Zm.i (Ext.b (x)))]] w fun e w' => e = .returned (.bool true) ∧ ∃ g, w' = gr w g := by
  have := x_isZero x w; rwa [decide_eq_true h] at this
theorem xisn (x : Ext) (h : x ≠ 0) (w : World) : Calls Try.prog 48 #[.agg #[.int .u64 (Zm.i (Ext.a (x))), .int .u64 (Zm.i (Ext.b (x)))]] w fun e w' => e = .returned (.bool false) ∧ ∃ g, w' = gr w g := by
  have := x_isZero x w; rwa [decide_eq_false h] at this
theorem Sl.take {w : World} {A : Option Addr} {n c : Nat} {l : List Ext} (h : Sl w A n c l) {k : Nat} (hk : k ≤ n) : Sl w A k c (l.take k) :=
  ⟨by rw [List.length_take, h.len]; omega, Nat.le_trans hk h.le, h.small, fun hn => by
    obtain ⟨b, o, e, hb, hc⟩ := h.cells (by omega)
    exact ⟨b, o, e, hb, fun i x hx => hc i x (by
      have hi : i < (l.take k).length := (List.getElem?_eq_some_iff.1 hx).1
      rw [List.length_take] at hi
      rw [List.getElem?_take_of_lt (by omega)] at hx; exact hx)⟩⟩
theorem trim_take {l : List Ext} {k : Nat} (hk : k ≤ l.length) (hz : ∀ i, k ≤ i → co l i = 0) (hn : k = 0 ∨ co l (k - 1) ≠ 0) : trim l = l.take k := by
  have e : trim l = trim (l.take k) := trim_ext (fun i => by
    by_cases hi : i < k
    · rw [co_get _ _ (by omega), co_get _ _ (by rw [List.length_take]; omega), List.getElem_take]
    · rw [hz i (by omega), co_big _ _ (by rw [List.length_take]; omega)])
  rw [e]
  refine trim_of_last ?_
  rcases hn with rfl | hn
  · exact .inl rfl
  · by_cases h0 : k = 0
    · subst h0; exact .inl rfl
    · refine .inr ?_
      rw [List.length_take, Nat.min_eq_left hk, co_get _ _ (by rw [List.length_take]; omega), List.getElem_take]
      rwa [co_get _ _ (by omega)] at hn
theorem co_at {l : List Ext} {j : Nat} {x : Ext} (h : l[j]? = some x) : co l j = x := by
  unfold co; rw [List.getD_eq_getElem?_getD, h]; rfl

set_option maxHeartbeats 1000000 in
theorem p_trimO (A : Option Addr) (n c : Nat) (l : List Ext) (w : World) (hl : Sl w A n c l) (hn : n ≤ 1000000000) :
    Calls Try.prog 15 #[.slice A n c] w (RetOw w (trim l)) := by
  have l1 := Lib.hid hl.len
  have n1 := hl.le; have n2 := hl.small
  go_enter Try.func15, Try.ntmps15
  go_wp2_with fail
  go_loopw [3] (fun v wr => ∃ k : Nat, k ≤ n ∧ v = .int .i64 k ∧ (∀ i, k ≤ i → co l i = 0) ∧ Gn w wr) (fun v _ => (intOf v).toNat)
  case atStart => exact ⟨n, Nat.le_refl _, rfl, fun i hi => co_big _ _ (by rw [l1.out]; exact hi), Gn.refl w⟩
  case round =>
    obtain ⟨k, hk, rfl, hz, hg⟩ := hrel
    have HZ := Lib.hid hz; clear hz
    cases k with
    | zero =>
      have HT := Lib.hid (trim_take (l := l) (k := 0) (by omega) HZ.out (.inl rfl))
      go_wp2_with fail
      refine (p_cloneO A 0 c (l.take 0) _ ((hl.up hg).take (by omega)) (by omega)).mono ?_
      rintro e w' ⟨v', rfl, ho', hg'⟩
      go_wp2_with fail
      go_ret
      exact ⟨_, rfl, by rw [HT.out]; exact ho'.base hg.size, hg.trans hg'⟩
    | succ j =>
      obtain ⟨b, o, x, rfl, hx, q1, q2, q3⟩ := (hl.up hg).at_ (j := j) (by omega)
      have HX := Lib.hid hx; clear hx
      by_cases hx0 : x = 0
      · have H0 := Lib.hid hx0; clear hx0
        go_wp2_with (go_at_call 46; with_reducible refine (isz x H0.out _).mono ?_; rintro e w' ⟨rfl, hg2⟩)
        exact ⟨⟨j, by omega, by go_num, fun i hi => by
          by_cases hij : i = j
          · rw [hij, co_at HX.out, H0.out]
          · exact HZ.out i (by omega), hg.trans hg2⟩, by simp [intOf]⟩
      · have H0 := Lib.hid hx0; clear hx0
        have HT := Lib.hid (trim_take (l := l) (k := j + 1) (by have := l1.out; omega) HZ.out (.inr (by rw [Nat.add_sub_cancel, co_at HX.out]; exact H0.out)))
        go_wp2_with (first
          | (go_at_call 46; with_reducible refine (isn x H0.out _).mono ?_; rintro e w' ⟨rfl, hg2⟩)
          | (go_at_call 47; refine (p_cloneO _ (j + 1) c (l.take (j + 1)) _ ((hl.up (hg.trans hg2)).take (by omega)) (by omega)).mono ?_; rintro e w' ⟨v', rfl, ho', hg'⟩))
        go_ret
        exact ⟨_, rfl, by rw [HT.out]; exact ho'.base (hg.trans hg2).size, (hg.trans hg2).trans hg'⟩

set_option maxHeartbeats 1000000 in
theorem x_trimO (A : Option Addr) (n c : Nat) (l : List Ext) (w : World) (hl : Sl w A n c l) (hn : n ≤ 1000000000) :
    Calls Try.prog 16 #[.slice A n c] w (RetOw w (trim l)) := by
  have l1 := Lib.hid hl.len
  have n1 := hl.le; have n2 := hl.small
  go_enter Try.func16, Try.ntmps16
  go_wp2_with fail
  go_loopw [3] (fun v wr => ∃ k : Nat, k ≤ n ∧ v = .int .i64 k ∧ (∀ i, k ≤ i → co l i = 0) ∧ Gn w wr) (fun v _ => (intOf v).toNat)
  case atStart => exact ⟨n, Nat.le_refl _, rfl, fun i hi => co_big _ _ (by rw [l1.out]; exact hi), Gn.refl w⟩
  case round =>
    obtain ⟨k, hk, rfl, hz, hg⟩ := hrel
    have HZ := Lib.hid hz; clear hz
    cases k with
    | zero =>
      have HT := Lib.hid (trim_take (l := l) (k := 0) (by omega) HZ.out (.inl rfl))
      go_wp2_with (at_builtin; refine wpList_app (.tmp 18) (.tmp 21) rfl (Ow.empty wr (base := w.heap.size) hg.size) (by have := hg.size; simp; omega) rfl (((hl.up hg).take (k := 0) (by omega)).up (Gn.al _)) (by simp) ?_; intro v1 w1 ho hg1)
      go_ret
      have := grown_gn (hg.trans (Gn.al _)) (Ow.empty wr hg.size) (Nat.le_refl _) hg1
      rw [HT.out]
      exact ⟨_, rfl, ho, this⟩
    | succ j =>
      obtain ⟨b, o, x, rfl, hx, q1, q2, q3⟩ := (hl.up hg).at_ (j := j) (by omega)
      have HX := Lib.hid hx; clear hx
      by_cases hx0 : x = 0
      · have H0 := Lib.hid hx0; clear hx0
        go_wp2_with (go_at_call 48; with_reducible refine (xisz x H0.out _).mono ?_; rintro e w' ⟨rfl, hg2⟩)
        exact ⟨⟨j, by omega, by go_num, fun i hi => by
          by_cases hij : i = j
          · rw [hij, co_at HX.out, H0.out]
          · exact HZ.out i (by omega), hg.trans hg2⟩, by simp [intOf]⟩
      · have H0 := Lib.hid hx0; clear hx0
        have HT := Lib.hid (trim_take (l := l) (k := j + 1) (by have := l1.out; omega) HZ.out (.inr (by rw [Nat.add_sub_cancel, co_at HX.out]; exact H0.out)))
        go_wp2_with (first
          | (go_at_call 48; (with_reducible refine (xisn x H0.out _).mono ?_); rintro e w' ⟨rfl, hg2⟩; have hgg := Gn.trans hg hg2)
          | (at_builtin; refine wpList_app (.tmp 18) (.tmp 21) rfl (Ow.empty w' (base := w.heap.size) hgg.size) (by have := hgg.size; simp; omega) rfl (((hl.up hgg).take (k := j + 1) (by omega)).up (Gn.al _)) (by simp; omega) ?_; intro v1 w1 ho hg1))
        go_ret
        have := grown_gn (hgg.trans (Gn.al _)) (Ow.empty w' hgg.size) (Nat.le_refl _) hg1
        rw [HT.out]
        exact ⟨_, rfl, ho, this⟩

theorem p_trim (A : Option Addr) (n c : Nat) (l : List Ext) (w : World) (hl : Sl w A n c l) (hn : n ≤ 1000000000) :
    Calls Try.prog 15 #[.slice A n c] w (RetSl w (trim l)) := (p_trimO A n c l w hl hn).mono fun _ _ h => h.sl
theorem x_trim (A : Option Addr) (n c : Nat) (l : List Ext) (w : World) (hl : Sl w A n c l) (hn : n ≤ 1000000000) :
    Calls Try.prog 16 #[.slice A n c] w (RetSl w (trim l)) := (x_trimO A n c l w hl hn).mono fun _ _ h => h.sl
theorem trim_le {l : List Ext} {n : Nat} (h : l.length = n) : (trim l).length ≤ n := by rw [← h]; exact trim_length_le l
theorem p_degree (A : Option Addr) (n c : Nat) (l : List Ext) (w : World) (hl : Sl w A n c l) (hn : n ≤ 1000000000) :
    Calls Try.prog 17 #[.slice A n c] w fun e w' => e = .returned (.int .i64 (((trim l).length : Int) - 1)) ∧ ∃ g, w' = gr w g := by
  have l1 := trim_le hl.len
  go_enter Try.func17, Try.ntmps17
  go_wp2_with fail
  refine (p_trim A n c l _ hl hn).mono ?_
  rintro e w' ⟨A', n', c', rfl, hs, hg⟩
  obtain rfl : (trim l).length = n' := hs.len
  go_wp2_with fail
  go_ret
  exact ⟨rfl, hg⟩
theorem x_degree (A : Option Addr) (n c : Nat) (l : List Ext) (w : World) (hl : Sl w A n c l) (hn : n ≤ 1000000000) :
    Calls Try.prog 18 #[.slice A n c] w fun e w' => e = .returned (.int .i64 (((trim l).length : Int) - 1)) ∧ ∃ g, w' = gr w g := by
  have l1 := trim_le hl.len
  go_enter Try.func18, Try.ntmps18
  go_wp2_with fail
  refine (x_trim A n c l _ hl hn).mono ?_
  rintro e w' ⟨A', n', c', rfl, hs, hg⟩
  obtain rfl : (trim l).length = n' := hs.len
  go_wp2_with fail
  go_ret
  exact ⟨rfl, hg⟩

/- Same -/
set_option maxHeartbeats 1000000 in
theorem p_same (A B : Option Addr) (n c m d : Nat) (l k : List Ext) (w : World) (hl : Sl w A n c l) (hk : Sl w B m d k) :
    Calls Try.prog 14 #[.slice A n c, .slice B m d] w fun e w' => e = .returned (.bool (decide (l = k))) ∧ ∃ g, w' = gr w g := by
  have l1 := Lib.hid hl.len
  have k1 := Lib.hid hk.len
  have n1 := hl.le; have n2 := hl.small; have n3 := hk.le; have n4 := hk.small
  by_cases hn : n = m
  · subst hn
    go_enter Try.func14, Try.ntmps14
    go_wp2_with fail
    go_loopw [5] (fun i wr => ∃ j : Nat, j ≤ n ∧ i = .int .i64 j ∧ l.take j = k.take j ∧ Gn w wr) (fun i _ => n - (intOf i).toNat)
    case atStart => exact ⟨0, Nat.zero_le _, rfl, rfl, Gn.refl w⟩
    case round =>
      obtain ⟨j, hj, rfl, ht, hg⟩ := hrel
      have HT := Lib.hid ht; clear ht
      by_cases hlt : j < n
      · obtain ⟨b, o, x, rfl, hx, q1, q2, q3⟩ := (hl.up hg).at_ hlt
        obtain ⟨b', o', y, rfl, hy, r1, r2, r3⟩ := (hk.up hg).at_ hlt
        have HX := Lib.hid hx; clear hx
        have HY := Lib.hid hy; clear hy
        rcases eqs x y with ⟨h, e1, e2⟩ | h
        · have HE := Lib.hid h; clear h
          go_wp2_with fail
          refine wp_region_gr (by kernel_rfl) (lex_of_chk (by kernel_rfl) (by kernel_rfl)) ?_
          repeat (go_big_quiet_step (fail))
          refine wpQuiet_nil ?_
          intro wr2 hg2
          go_wp2_with fail
          exact ⟨⟨j + 1, by omega, by go_num, take_step HT.out HX.out (by rw [HE.out]; exact HY.out), hg.trans hg2⟩, by simp [intOf]; omega⟩
        · have hne : l ≠ k := by
            rintro rfl
            have e := HX.out.symm.trans HY.out
            rcases h with ⟨h, _⟩ | ⟨h, _⟩ <;> exact h (Option.some.inj e)
          have hd : decide (l = k) = false := decide_eq_false hne
          clear hne
          rcases h with ⟨h, e1, e2⟩ | ⟨h, e1, e2⟩
          all_goals
            clear h
            go_wp2_with fail
            refine wp_region_gr (by kernel_rfl) (lex_of_chk (by kernel_rfl) (by kernel_rfl)) ?_
            repeat (go_big_quiet_step (fail))
            refine wpQuiet_nil ?_
            intro wr2 hg2
            go_wp2_with fail
            go_ret
            exact ⟨by rw [hd]; rfl, hg.trans hg2⟩
      · obtain rfl : j = n := by omega
        have hd : decide (l = k) = true := by
          refine decide_eq_true ?_
          have e := HT.out
          rwa [List.take_of_length_le (by rw [l1.out]; exact Nat.le_refl _), List.take_of_length_le (by rw [k1.out]; exact Nat.le_refl _)] at e
        go_wp2_with fail
        go_ret
        exact ⟨by rw [hd]; rfl, hg⟩
  · have hd : decide (l = k) = false := decide_eq_false (fun h => hn (by rw [← l1.out, ← k1.out, h]))
    have hb : ((n : Int) == (m : Int)) = false := by simp; omega
    have hb2 : ((n : Int) != (m : Int)) = true := by simp; omega
    clear hn
    go_enter Try.func14, Try.ntmps14
    go_wp2_with fail
    go_ret
    exact ⟨by rw [hd]; rfl, Gn.refl w⟩
end Go.Proofs.Ytjchccpicddpoaa
