/- The walks of package poly and its reference: Same, Clone, Trim, Degree. -/
import Derived.Test.YtbfblckgcefaaaaGreatDoorGe
import Derived.Test.YtbfblckgcefaaaaGreatDoorGa
namespace Go.Proofs.YtbfblckgcefaaaaGreatDoor
open Go.RowKit Att Att.CRing

/-- a slice of the call's own is returned -/
def RetSl (w : World) (l : List Ext) (e : Ending) (w' : World) : Prop := ∃ A n c, e = .returned (.slice A n c) ∧ Sl w' A n c l ∧ Gn w w'
theorem RetSl.of {w w' : World} {l : List Ext} {v : Value} {base : Nat} (ho : Ow w' base v l) (hg : Gn w w') : RetSl w l (.returned v) w' := by
  obtain ⟨A, c, rfl, hs⟩ := ho.sl
  exact ⟨A, _, c, rfl, hs, hg⟩

/-- a slice of the call's own is returned, that may still grow -/
def RetOw (w : World) (l : List Ext) (e : Ending) (w' : World) : Prop := ∃ v, e = .returned v ∧ Ow w' w.heap.size v l ∧ Gn w w'
theorem RetOw.sl {w w' : World} {l : List Ext} {e : Ending} (h : RetOw w l e w') : RetSl w l e w' := by
  obtain ⟨v, rfl, ho, hg⟩ := h
  exact RetSl.of ho hg
theorem Ow.base {w : World} {base base' : Nat} {v : Value} {l : List Ext} (h : Ow w base v l) (hb : base' ≤ base) : Ow w base' v l := by
  rcases h with ⟨h1, h2 | ⟨g, cap, cur, hv, hbb, hg, hn, hc, hsz, htake⟩⟩
  · exact ⟨h1, .inl h2⟩
  · exact ⟨h1, .inr ⟨g, cap, cur, hv, Nat.le_trans hb hbb, hg, hn, hc, hsz, htake⟩⟩
set_option maxHeartbeats 1000000 in
theorem p_cloneO (A : Option Addr) (n c : Nat) (l : List Ext) (w : World) (hl : Sl w A n c l) (hn : n ≤ 1000000000) :
    Calls Tryz.prog 96 #[.slice A n c] w (RetOw w l) := by
  have he := fun (w : World) => Lib.run_eql_slice_nil (P := Tryz.prog) w 38 41 A n c 0 0 Tryz.underlying38
  cases A with
  | none =>
    have hl0 : l = [] := by
      rcases Nat.eq_zero_or_pos n with h | h
      · exact List.eq_nil_of_length_eq_zero (hl.len.trans h)
      · obtain ⟨b, o, e, _⟩ := hl.cells h; cases e
    subst hl0
    go_enter Tryz.func96, Tryz.ntmps96
    go_wp2_with fail
    go_ret
    exact ⟨_, rfl, Ow.nil w _, Gn.refl w⟩
  | some ad =>
    go_enter Tryz.func96, Tryz.ntmps96
    go_wp2_with (at_builtin; refine wpList_app (.tmp 5) (.tmp 6) rfl (Ow.empty w (Nat.le_refl _)) (by simp) rfl (hl.up (Gn.al _)) (by simp; omega) ?_; intro v1 w1 ho hg)
    go_ret
    exact ⟨_, rfl, ho, grown_gn (Gn.al _) (Ow.empty w (Nat.le_refl _)) (Nat.le_refl _) hg⟩

/- Trim -/
theorem isz (x : Ext) (h : x = 0) (w : World) : Calls Tryz.prog 95 #[.agg #[.int .u64 (Zm.i (Ext.a (x))), .int .u64 (Zm.i (Ext.b (x)))]] w fun e w' => e = .returned (.bool true) ∧ ∃ g, w' = gr w g := by
  have := e_isZero x w; rwa [decide_eq_true h] at this
theorem isn (x : Ext) (h : x ≠ 0) (w : World) : Calls Tryz.prog 95 #[.agg #[.int .u64 (Zm.i (Ext.a (x))), .int .u64 (Zm.i (Ext.b (x)))]] w fun e w' => e = .returned (.bool false) ∧ ∃ g, w' = gr w g := by
  have := e_isZero x w; rwa [decide_eq_false h] at this
theorem xisz (x : Ext) (h : x = 0) (w : World) : Calls Tryz.prog 114 #[.agg #[.int .u64 (Zm.i (Ext.a (x))), .int .u64 (Zm.i (Ext.b (x)))]] w fun e w' => e = .returned (.bool true) ∧ ∃ g, w' = gr w g := by
  have := x_isZero x w; rwa [decide_eq_true h] at this
theorem xisn (x : Ext) (h : x ≠ 0) (w : World) : Calls Tryz.prog 114 #[.agg #[.int .u64 (Zm.i (Ext.a (x))), .int .u64 (Zm.i (Ext.b (x)))]] w fun e w' => e = .returned (.bool false) ∧ ∃ g, w' = gr w g := by
  have := x_isZero x w; rwa [decide_eq_false h] at this
theorem Sl.take {w : World} {A : Option Addr} {n c : Nat} {l : List Ext} (h : Sl w A n c l) {k : Nat} (hk : k ≤ n) : Sl w A k c (l.take k) :=
  ⟨by rw [List.length_take, h.len]; omega, Nat.le_trans hk h.le, h.small, fun hn => by
    obtain ⟨b, o, e, hb, hc⟩ := h.cells (by omega)
    exact ⟨b, o, e, hb, fun i x hx => hc i x (by
      have hi : i < (l.take k).length := (List.getElem?_eq_some_iff.1 hx).1
      rw [List.length_take] at hi
      rw [List.getElem?_take_of_lt (by omega)] at hx; exact hx)⟩⟩
theorem trim_take {l : List Ext} {k : Nat} (hk : k ≤ l.length) (hz : ∀ i, k ≤ i → co l i = 0) (hn : k = 0 ∨ co l (k - 1) ≠ 0) : trim l = l.take k := by
  have e : trim l = trim (l.take k) := trim_ext (fun i => by
    by_cases hi : i < k
    · rw [co_get _ _ (by omega), co_get _ _ (by rw [List.length_take]; omega), List.getElem_take]
    · rw [hz i (by omega), co_big _ _ (by rw [List.length_take]; omega)])
  rw [e]
  refine trim_of_last ?_
  rcases hn with rfl | hn
  · exact .inl rfl
  · by_cases h0 : k = 0
    · subst h0; exact .inl rfl
    · refine .inr ?_
      rw [List.length_take, Nat.min_eq_left hk, co_get _ _ (by rw [List.length_take]; omega), List.getElem_take]
      rwa [co_get _ _ (by omega)] at hn
theorem co_at {l : List Ext} {j : Nat} {x : Ext} (h : l[j]? = some x) : co l j = x := by
  unfold co; rw [List.getD_eq_getElem?_getD, h]; rfl

set_option maxHeartbeats 1000000 in
theorem p_trimO (A : Option Addr) (n c : Nat) (l : List Ext) (w : World) (hl : Sl w A n c l) (hn : n ≤ 1000000000) :
    Calls Tryz.prog 68 #[.slice A n c] w (RetOw w (trim l)) := by
  have l1 := Lib.hid hl.len
  have n1 := hl.le; have n2 := hl.small
  go_enter Tryz.func68, Tryz.ntmps68
  go_wp2_with fail
  go_loopw [3] (fun v wr => ∃ k : Nat, k ≤ n ∧ v = .int .i64 k ∧ (∀ i, k ≤ i → co l i = 0) ∧ Gn w wr) (fun v _ => (intOf v).toNat)
  case atStart => exact ⟨n, Nat.le_refl _, rfl, fun i hi => co_big _ _ (by rw [l1.out]; exact hi), Gn.refl w⟩
  case round =>
    obtain ⟨k, hk, rfl, hz, hg⟩ := hrel
    have HZ := Lib.hid hz; clear hz
    cases k with
    | zero =>
      have HT := Lib.hid (trim_take (l := l) (k := 0) (by omega) HZ.out (.inl rfl))
      go_wp2_with fail
      refine (p_cloneO A 0 c (l.take 0) _ ((hl.up hg).take (by omega)) (by omega)).mono ?_
      rintro e w' ⟨v', rfl, ho', hg'⟩
      go_wp2_with fail
      go_ret
      exact ⟨_, rfl, by rw [HT.out]; exact ho'.base hg.size, hg.trans hg'⟩
    | succ j =>
      obtain ⟨b, o, x, rfl, hx, q1, q2, q3⟩ := (hl.up hg).at_ (j := j) (by omega)
      have HX := Lib.hid hx; clear hx
      by_cases hx0 : x = 0
      · have H0 := Lib.hid hx0; clear hx0
        go_wp2_with (go_at_call 95; with_reducible refine (isz x H0.out _).mono ?_; rintro e w' ⟨rfl, hg2⟩)
        exact ⟨⟨j, by omega, by go_num, fun i hi => by
          by_cases hij : i = j
          · rw [hij, co_at HX.out, H0.out]
          · exact HZ.out i (by omega), hg.trans hg2⟩, by simp [intOf]⟩
      · have H0 := Lib.hid hx0; clear hx0
        have HT := Lib.hid (trim_take (l := l) (k := j + 1) (by have := l1.out; omega) HZ.out (.inr (by rw [Nat.add_sub_cancel, co_at HX.out]; exact H0.out)))
        go_wp2_with (first
          | (go_at_call 95; with_reducible refine (isn x H0.out _).mono ?_; rintro e w' ⟨rfl, hg2⟩)
          | (go_at_call 96; refine (p_cloneO _ (j + 1) c (l.take (j + 1)) _ ((hl.up (hg.trans hg2)).take (by omega)) (by omega)).mono ?_; rintro e w' ⟨v', rfl, ho', hg'⟩))
        go_ret
        exact ⟨_, rfl, by rw [HT.out]; exact ho'.base (hg.trans hg2).size, (hg.trans hg2).trans hg'⟩

set_option maxHeartbeats 1000000 in
theorem x_trimO (A : Option Addr) (n c : Nat) (l : List Ext) (w : World) (hl : Sl w A n c l) (hn : n ≤ 1000000000) :
    Calls Tryz.prog 101 #[.slice A n c] w (RetOw w (trim l)) := by
  have l1 := Lib.hid hl.len
  have n1 := hl.le; have n2 := hl.small
  go_enter Tryz.func101, Tryz.ntmps101
  go_wp2_with fail
  go_loopw [3] (fun v wr => ∃ k : Nat, k ≤ n ∧ v = .int .i64 k ∧ (∀ i, k ≤ i → co l i = 0) ∧ Gn w wr) (fun v _ => (intOf v).toNat)
  case atStart => exact ⟨n, Nat.le_refl _, rfl, fun i hi => co_big _ _ (by rw [l1.out]; exact hi), Gn.refl w⟩
  case round =>
    obtain ⟨k, hk, rfl, hz, hg⟩ := hrel
    have HZ := Lib.hid hz; clear hz
    cases k with
    | zero =>
      have HT := Lib.hid (trim_take (l := l) (k := 0) (by omega) HZ.out (.inl rfl))
      go_wp2_with (at_builtin; refine wpList_app (.tmp 18) (.tmp 21) rfl (Ow.empty wr (base := w.heap.size) hg.size) (by have := hg.size; simp; omega) rfl (((hl.up hg).take (k := 0) (by omega)).up (Gn.al _)) (by simp) ?_; intro v1 w1 ho hg1)
      go_ret
      have := grown_gn (hg.trans (Gn.al _)) (Ow.empty wr hg.size) (Nat.le_refl _) hg1
      rw [HT.out]
      exact ⟨_, rfl, ho, this⟩
    | succ j =>
      obtain ⟨b, o, x, rfl, hx, q1, q2, q3⟩ := (hl.up hg).at_ (j := j) (by omega)
      have HX := Lib.hid hx; clear hx
      by_cases hx0 : x = 0
      · have H0 := Lib.hid hx0; clear hx0
        go_wp2_with (go_at_call 114; with_reducible refine (xisz x H0.out _).mono ?_; rintro e w' ⟨rfl, hg2⟩)
        exact ⟨⟨j, by omega, by go_num, fun i hi => by
          by_cases hij : i = j
          · rw [hij, co_at HX.out, H0.out]
          · exact HZ.out i (by omega), hg.trans hg2⟩, by simp [intOf]⟩
      · have H0 := Lib.hid hx0; clear hx0
        have HT := Lib.hid (trim_take (l := l) (k := j + 1) (by have := l1.out; omega) HZ.out (.inr (by rw [Nat.add_sub_cancel, co_at HX.out]; exact H0.out)))
        go_wp2_with (first
          | (go_at_call 114; (with_reducible refine (xisn x H0.out _).mono ?_); rintro e w' ⟨rfl, hg2⟩; have hgg := Gn.trans hg hg2)
          | (at_builtin; refine wpList_app (.tmp 18) (.tmp 21) rfl (Ow.empty w' (base := w.heap.size) hgg.size) (by have := hgg.size; simp; omega) rfl (((hl.up hgg).take (k := j + 1) (by omega)).up (Gn.al _)) (by simp; omega) ?_; intro v1 w1 ho hg1))
        go_ret
        have := grown_gn (hgg.trans (Gn.al _)) (Ow.empty w' hgg.size) (Nat.le_refl _) hg1
        rw [HT.out]
        exact ⟨_, rfl, ho, this⟩

theorem p_trim (A : Option Addr) (n c : Nat) (l : List Ext) (w : World) (hl : Sl w A n c l) (hn : n ≤ 1000000000) :
    Calls Tryz.prog 68 #[.slice A n c] w (RetSl w (trim l)) := (p_trimO A n c l w hl hn).mono fun _ _ h => h.sl
theorem x_trim (A : Option Addr) (n c : Nat) (l : List Ext) (w : World) (hl : Sl w A n c l) (hn : n ≤ 1000000000) :
    Calls Tryz.prog 101 #[.slice A n c] w (RetSl w (trim l)) := (x_trimO A n c l w hl hn).mono fun _ _ h => h.sl
theorem trim_le {l : List Ext} {n : Nat} (h : l.length = n) : (trim l).length ≤ n := by rw [← h]; exact trim_length_le l
/- Same -/
set_option maxHeartbeats 1000000 in
theorem p_same (A B : Option Addr) (n c m d : Nat) (l k : List Ext) (w : World) (hl : Sl w A n c l) (hk : Sl w B m d k) :
    Calls Tryz.prog 22 #[.slice A n c, .slice B m d] w fun e w' => e = .returned (.bool (decide (l = k))) ∧ ∃ g, w' = gr w g := by
  have l1 := Lib.hid hl.len
  have k1 := Lib.hid hk.len
  have n1 := hl.le; have n2 := hl.small; have n3 := hk.le; have n4 := hk.small
  by_cases hn : n = m
  · subst hn
    go_enter Tryz.func22, Tryz.ntmps22
    go_wp2_with fail
    go_loopw [5] (fun i wr => ∃ j : Nat, j ≤ n ∧ i = .int .i64 j ∧ l.take j = k.take j ∧ Gn w wr) (fun i _ => n - (intOf i).toNat)
    case atStart => exact ⟨0, Nat.zero_le _, rfl, rfl, Gn.refl w⟩
    case round =>
      obtain ⟨j, hj, rfl, ht, hg⟩ := hrel
      have HT := Lib.hid ht; clear ht
      by_cases hlt : j < n
      · obtain ⟨b, o, x, rfl, hx, q1, q2, q3⟩ := (hl.up hg).at_ hlt
        obtain ⟨b', o', y, rfl, hy, r1, r2, r3⟩ := (hk.up hg).at_ hlt
        have HX := Lib.hid hx; clear hx
        have HY := Lib.hid hy; clear hy
        rcases eqs x y with ⟨h, e1, e2⟩ | h
        · have HE := Lib.hid h; clear h
          go_wp2_with fail
          refine wp_region_gr (by kernel_rfl) (lex_of_chk (by kernel_rfl) (by kernel_rfl)) ?_
          repeat (go_big_quiet_step (fail))
          refine wpQuiet_nil ?_
          intro wr2 hg2
          go_wp2_with fail
          exact ⟨⟨j + 1, by omega, by go_num, take_step HT.out HX.out (by rw [HE.out]; exact HY.out), hg.trans hg2⟩, by simp [intOf]; omega⟩
        · have hne : l ≠ k := by
            rintro rfl
            have e := HX.out.symm.trans HY.out
            rcases h with ⟨h, _⟩ | ⟨h, _⟩ <;> exact h (Option.some.inj e)
          have hd : decide (l = k) = false := decide_eq_false hne
          clear hne
          rcases h with ⟨h, e1, e2⟩ | ⟨h, e1, e2⟩
          all_goals
            clear h
            go_wp2_with fail
            refine wp_region_gr (by kernel_rfl) (lex_of_chk (by kernel_rfl) (by kernel_rfl)) ?_
            repeat (go_big_quiet_step (fail))
            refine wpQuiet_nil ?_
            intro wr2 hg2
            go_wp2_with fail
            go_ret
            exact ⟨by rw [hd]; rfl, hg.trans hg2⟩
      · obtain rfl : j = n := by omega
        have hd : decide (l = k) = true := by
          refine decide_eq_true ?_
          have e := HT.out
          rwa [List.take_of_length_le (by rw [l1.out]; exact Nat.le_refl _), List.take_of_length_le (by rw [k1.out]; exact Nat.le_refl _)] at e
        go_wp2_with fail
        go_ret
        exact ⟨by rw [hd]; rfl, hg⟩
  · have hd : decide (l = k) = false := decide_eq_false (fun h => hn (by rw [← l1.out, ← k1.out, h]))
    have hb : ((n : Int) == (m : Int)) = false := by simp; omega
    have hb2 : ((n : Int) != (m : Int)) = true := by simp; omega
    clear hn
    go_enter Tryz.func22, Tryz.ntmps22
    go_wp2_with fail
    go_ret
    exact ⟨by rw [hd]; rfl, Gn.refl w⟩
end Go.Proofs.YtbfblckgcefaaaaGreatDoor

/- The walks of the reference of package poly: Made, Exactly, Scale; the laws' ints. -/
namespace Go.Proofs.YtbfblckgcefaaaaGreatDoor
open Go.RowKit Att Att.CRing

theorem gn_le {W a : World} (h : Gn W a) : W.heap.size ≤ a.heap.size := h.size

theorem exactly_step {L : List Ext} {m : Nat} (h : L.length < m) : (L ++ [0]) ++ List.replicate (m - (L.length + 1)) 0 = L ++ List.replicate (m - L.length) 0 := by
  rw [List.append_assoc, show m - L.length = (m - (L.length + 1)) + 1 from by omega, List.replicate_succ]; rfl
end Go.Proofs.YtbfblckgcefaaaaGreatDoor

/- The walks of the reference of package poly: Add, Scale, Sub, Mul, Eval, DivRoot. -/
namespace Go.Proofs.YtbfblckgcefaaaaGreatDoor
open Go.RowKit Att Att.CRing
theorem co_lt {l : List Ext} {i : Nat} {x : Ext} (h : l[i]? = some x) : co l i = x := co_at h
theorem co_ge {l : List Ext} {n i : Nat} (h : l.length = n) (hi : ¬ i < n) : co l i = 0 := co_big l i (by omega)
theorem padd_get {l k : List Ext} {i : Nat} (h : i < max l.length k.length) : (padd l k)[i]? = some (co l i + co k i) := by
  unfold padd tab; rw [List.getElem?_map, List.getElem?_range h]; rfl
theorem padd_len (l k : List Ext) : (padd l k).length = max l.length k.length := tab_length _ _

set_option maxHeartbeats 4000000 in
theorem x_addL (A B : Option Addr) (n c m d : Nat) (l k : List Ext) (w : World) (hl : Sl w A n c l) (hk : Sl w B m d k) (hn : n ≤ 1000000) (hm : m ≤ 1000000) :
    Calls Tryz.prog 77 #[.slice A n c, .slice B m d] w (RetSl w (trim (padd l k))) := by
  have l1 := Lib.hid hl.len
  have k1 := Lib.hid hk.len
  obtain ⟨N, hN⟩ : ∃ N, N = max n m := ⟨_, rfl⟩
  have hNn : n ≤ N := by omega
  have hNm : m ≤ N := by omega
  have hN6 : N ≤ 1000000 := by omega
  have HN := Lib.hid hN; clear hN
  have hres : (padd l k).length = N := by rw [padd_len, l1.out, k1.out, HN.out]
  have HR := Lib.hid hres; clear hres
  rcases Nat.lt_or_ge n m with hnm | hnm
  all_goals
    go_enter Tryz.func77, Tryz.ntmps77
    go_wp2_with (at_make; refine wpList_mk (.tmp 11) (.tmp 11) N (congrArg (Value.int .i64) (by have := HN.out; omega)) (congrArg (Value.int .i64) (by have := HN.out; omega)) (by omega) ?_)
    go_loopw [6] (fun v wr => ∃ i : Nat, i ≤ N ∧ v = .int .i64 i ∧ Blk wr w.heap.size (Fi (padd l k) i) ∧ Gn w wr) (fun v _ => N - (intOf v).toNat)
    case atStart => exact ⟨0, by omega, rfl, by rw [Fi_zero, HR.out]; exact hnew w _, Gn.al _⟩
    case round =>
      obtain ⟨i, hi, rfl, hB, hg⟩ := hrel
      by_cases hlt : i < N
      · have hget : (padd l k)[i]? = some (co l i + co k i) := padd_get (by rw [l1.out, k1.out, ← HN.out]; exact hlt)
        have HG := Lib.hid hget; clear hget
        have h0 := Lib.hid (Fi_get (padd l k) (i := i) (by rw [HR.out]; exact hlt))
        have hil := Lib.hid (show i < (Fi (padd l k) i).length by rw [Fi_length _ (by rw [HR.out]; exact hi), HR.out]; exact hlt)
        obtain ⟨c1, c2⟩ := hB.cell h0.out
        have c3 := blk_lt hB
        by_cases h1 : i < n
        · obtain ⟨b, o, x, rfl, hx, q1, q2, q3⟩ := (hl.up hg).at_ h1
          have HX := Lib.hid (co_at hx); clear hx
          go_wp2_with fail
          trace "HALF1"
          try simp only [List.append_eq, List.cons_append, List.nil_append]
          refine wp_region_flow 12 (by kernel_rfl) (by kernel_rfl) ?_
          refine flow_one rfl (by simp) ?_
          go_big_quiet_step (fail)
          refine wpQuiet_nil ?_
          refine flow_one rfl (by simp) ?_
          go_big_quiet_step (fail)
          refine wpQuiet_nil ?_
          refine flow_one rfl (by simp) ?_
          go_big_quiet_step (fail)
          refine wpQuiet_nil ?_
          refine flow_one rfl (by simp) ?_
          go_big_quiet_step (fail)
          refine wpQuiet_nil ?_
          refine flow_one rfl (by simp) ?_
          go_big_quiet_step (fail)
          refine wpQuiet_nil ?_
          refine flow_one rfl (by simp) ?_
          go_big_quiet_step (fail)
          refine wpQuiet_nil ?_
          refine flow_one rfl (by simp) ?_
          go_big_quiet_step (fail)
          refine wpQuiet_nil ?_
          refine flow_one rfl (by simp) ?_
          go_big_quiet_step (fail)
          refine wpQuiet_nil ?_
          refine flow_one rfl (by simp) ?_
          go_big_quiet_step (fail)
          refine wpQuiet_nil ?_
          refine flow_one rfl (by simp) ?_
          go_big_quiet_step (fail)
          refine wpQuiet_nil ?_
          apply flow_is
          · simp
          · intro g K hK
            go_wp2_with fail
            refine (x_add (0) x _).mono ?_
            rintro e w' ⟨rfl, g', rfl⟩
            go_wp2_with fail
            exact hK _ (up_comp g g')
          · rfl
          refine flow_one rfl (by simp) ?_
          go_big_quiet_step (fail)
          refine wpQuiet_nil ?_
          intro V N X hΓ hdis g hX
          clear hΓ hdis hX
          conv => arg 5; simp only [fill]
          have hgn : Gn wr (gr wr g) := ⟨g, rfl⟩
          refine tail_storeE (b := w.heap.size) (i := i) (x := 0 + x) rfl rfl (Blk.up hB hgn) hil.out ?_
          refine wpList_nil ?_
          have hB' := (Blk.up hB hgn).set hil.out (0 + x)
          have hg' := setE_below (hg.trans hgn) (Nat.le_refl _) (i := i) (0 + x)
          generalize setE (gr wr g) w.heap.size i (0 + x) = wr' at hB' hg' ⊢
          clear c1 c2 c3 q1 q2 q3
          have h02 : ((Fi (padd l k) i).set i (0 + x))[i]? = some (0 + x) := by rw [List.getElem?_set_self]; exact hil.out
          have H02 := Lib.hid h02; clear h02
          have hil2 := Lib.hid (show i < ((Fi (padd l k) i).set i (0 + x)).length by rw [List.length_set]; exact hil.out)
          obtain ⟨c1, c2⟩ := hB'.cell H02.out
          have c3 := blk_lt hB'
          by_cases h2 : i < m
          · obtain ⟨b', o', y, rfl, hy, q1, q2, q3⟩ := (hk.up hg').at_ h2
            have HY := Lib.hid (co_at hy); clear hy
            go_wp2_with fail
            trace "HALF2"
            try simp only [List.append_eq, List.cons_append, List.nil_append]
            refine wp_region_flow 12 (by kernel_rfl) (by kernel_rfl) ?_
            refine flow_one rfl (by simp) ?_
            go_big_quiet_step (fail)
            refine wpQuiet_nil ?_
            refine flow_one rfl (by simp) ?_
            go_big_quiet_step (fail)
            refine wpQuiet_nil ?_
            refine flow_one rfl (by simp) ?_
            go_big_quiet_step (fail)
            refine wpQuiet_nil ?_
            refine flow_one rfl (by simp) ?_
            go_big_quiet_step (fail)
            refine wpQuiet_nil ?_
            refine flow_one rfl (by simp) ?_
            go_big_quiet_step (fail)
            refine wpQuiet_nil ?_
            refine flow_one rfl (by simp) ?_
            go_big_quiet_step (fail)
            refine wpQuiet_nil ?_
            refine flow_one rfl (by simp) ?_
            go_big_quiet_step (fail)
            refine wpQuiet_nil ?_
            refine flow_one rfl (by simp) ?_
            go_big_quiet_step (fail)
            refine wpQuiet_nil ?_
            refine flow_one rfl (by simp) ?_
            go_big_quiet_step (fail)
            refine wpQuiet_nil ?_
            refine flow_one rfl (by simp) ?_
            go_big_quiet_step (fail)
            refine wpQuiet_nil ?_
            apply flow_is
            · simp
            · intro g K hK
              go_wp2_with fail
              refine (x_add (0 + x) y _).mono ?_
              rintro e w' ⟨rfl, g', rfl⟩
              go_wp2_with fail
              exact hK _ (up_comp g g')
            · rfl
            refine flow_one rfl (by simp) ?_
            go_big_quiet_step (fail)
            refine wpQuiet_nil ?_
            intro V N X hΓ hdis g hX
            clear hΓ hdis hX
            conv => arg 5; simp only [fill]
            have hgn : Gn wr' (gr wr' g) := ⟨g, rfl⟩
            refine tail_storeE (b := w.heap.size) (i := i) (x := 0 + x + y) rfl rfl (Blk.up hB' hgn) hil2.out ?_
            refine wpList_nil ?_
            have hB'' := (Blk.up hB' hgn).set hil2.out (0 + x + y)
            have hg'' := setE_below (hg'.trans hgn) (Nat.le_refl _) (i := i) (0 + x + y)
            generalize setE (gr wr' g) w.heap.size i (0 + x + y) = wr'' at hB'' hg'' ⊢
            go_wp2_with fail
            refine ⟨⟨i + 1, by omega, by go_num, ?_, hg''⟩, by simp [intOf]; omega⟩
            rw [← Fi_set2 (x := 0 + x) HG.out, HX.out, HY.out, ← zero_add x]
            rw [zero_add (0 + x)] at *
            exact hB''
          · go_wp2_with fail
            refine ⟨⟨i + 1, by omega, by go_num, ?_, hg'⟩, by simp [intOf]; omega⟩
            have e := Fi_set HG.out
            rw [HX.out, co_ge k1.out h2, add_zero] at e
            rw [← e]
            rw [zero_add] at hB'
            exact hB'
        · by_cases h2 : i < m
          · obtain ⟨b', o', y, rfl, hy, q1, q2, q3⟩ := (hk.up hg).at_ h2
            have HY := Lib.hid (co_at hy); clear hy
            go_wp2_with fail
            trace "HALF3"
            try simp only [List.append_eq, List.cons_append, List.nil_append]
            refine wp_region_flow 12 (by kernel_rfl) (by kernel_rfl) ?_
            refine flow_one rfl (by simp) ?_
            go_big_quiet_step (fail)
            refine wpQuiet_nil ?_
            refine flow_one rfl (by simp) ?_
            go_big_quiet_step (fail)
            refine wpQuiet_nil ?_
            refine flow_one rfl (by simp) ?_
            go_big_quiet_step (fail)
            refine wpQuiet_nil ?_
            refine flow_one rfl (by simp) ?_
            go_big_quiet_step (fail)
            refine wpQuiet_nil ?_
            refine flow_one rfl (by simp) ?_
            go_big_quiet_step (fail)
            refine wpQuiet_nil ?_
            refine flow_one rfl (by simp) ?_
            go_big_quiet_step (fail)
            refine wpQuiet_nil ?_
            refine flow_one rfl (by simp) ?_
            go_big_quiet_step (fail)
            refine wpQuiet_nil ?_
            refine flow_one rfl (by simp) ?_
            go_big_quiet_step (fail)
            refine wpQuiet_nil ?_
            refine flow_one rfl (by simp) ?_
            go_big_quiet_step (fail)
            refine wpQuiet_nil ?_
            refine flow_one rfl (by simp) ?_
            go_big_quiet_step (fail)
            refine wpQuiet_nil ?_
            apply flow_is
            · simp
            · intro g K hK
              go_wp2_with fail
              refine (x_add (0) y _).mono ?_
              rintro e w' ⟨rfl, g', rfl⟩
              go_wp2_with fail
              exact hK _ (up_comp g g')
            · rfl
            refine flow_one rfl (by simp) ?_
            go_big_quiet_step (fail)
            refine wpQuiet_nil ?_
            intro V N X hΓ hdis g hX
            clear hΓ hdis hX
            conv => arg 5; simp only [fill]
            have hgn : Gn wr (gr wr g) := ⟨g, rfl⟩
            refine tail_storeE (b := w.heap.size) (i := i) (x := 0 + y) rfl rfl (Blk.up hB hgn) hil.out ?_
            refine wpList_nil ?_
            have hB' := (Blk.up hB hgn).set hil.out (0 + y)
            have hg' := setE_below (hg.trans hgn) (Nat.le_refl _) (i := i) (0 + y)
            generalize setE (gr wr g) w.heap.size i (0 + y) = wr' at hB' hg' ⊢
            go_wp2_with fail
            refine ⟨⟨i + 1, by omega, by go_num, ?_, hg'⟩, by simp [intOf]; omega⟩
            have e := Fi_set HG.out
            rw [HY.out, co_ge l1.out h1, zero_add] at e
            rw [← e]
            rw [zero_add] at hB'
            exact hB'
          · exfalso
            have := HN.out
            omega
      · obtain rfl : i = N := by omega
        have e := Lib.hid (Fi_end (padd l k))
        have hS : Sl wr (some ⟨w.heap.size, 0, none⟩) i i (padd l k) := by
          have h := hB.sl (by rw [Fi_length _ (by rw [HR.out]; exact Nat.le_refl _), HR.out]; omega)
          rw [Fi_length _ (by rw [HR.out]; exact Nat.le_refl _), HR.out] at h
          have e2 : Fi (padd l k) i = padd l k := by have := e.out; rwa [HR.out] at this
          rwa [e2] at h
        go_wp2_with fail
        refine (x_trim _ _ _ _ _ hS (by omega)).mono ?_
        rintro e w' ⟨A', n', c', rfl, hs, hg'⟩
        go_wp2_with fail
        go_ret
        exact ⟨A', n', c', rfl, hs, hg.trans hg'⟩

theorem psca_get {l : List Ext} {x y : Ext} {i : Nat} (h : l[i]? = some y) : (psca l x)[i]? = some (y * x) := by
  have hi : i < l.length := (List.getElem?_eq_some_iff.1 h).1
  unfold psca tab; rw [List.getElem?_map, List.getElem?_range hi, ← co_at h]; rfl
theorem psca_len (l : List Ext) (x : Ext) : (psca l x).length = l.length := tab_length _ _
theorem psub_eq (l k : List Ext) : trim (padd l (trim (psca k (int (-1))))) = trim (psub l k) := trim_ext (fun i => by
  rw [co_padd, co_trim, co_psca, co_psub, sub_eq]
  congr 1
  rw [int_neg, int_one, mul_neg, mul_one])
theorem ev_drop {l : List Ext} {i : Nat} {y : Ext} (h : l[i]? = some y) (x : Ext) : ev (l.drop i) x = ev (l.drop (i + 1)) x * x + y := by
  have hi : i < l.length := (List.getElem?_eq_some_iff.1 h).1
  have hy : l[i] = y := Option.some.inj ((List.getElem?_eq_getElem hi).symm.trans h)
  rw [List.drop_eq_getElem_cons hi, hy, ev_cons]
/-- three boxes of a function's own -/
structure Box3 (w wr : World) (x r v : Ext) : Prop where
  g : Gn w wr
  x : wr.heap[w.heap.size]? = some (.cells #[.int .u64 (Zm.i (Ext.a x)), .int .u64 (Zm.i (Ext.b x))] 41)
  r : wr.heap[w.heap.size + 1]? = some (.cells #[.int .u64 (Zm.i (Ext.a r)), .int .u64 (Zm.i (Ext.b r))] 41)
  v : wr.heap[w.heap.size + 2]? = some (.cells #[.int .u64 (Zm.i (Ext.a v)), .int .u64 (Zm.i (Ext.b v))] 41)
theorem Box3.up {w wr w2 : World} {x r v : Ext} (h : Box3 w wr x r v) (g : Gn wr w2) : Box3 w w2 x r v := ⟨h.g.trans g, g.block h.x, g.block h.r, g.block h.v⟩
theorem Box3.setV {w wr : World} {x r v : Ext} (h : Box3 w wr x r v) (u : Ext) : Box3 w (set2 wr (w.heap.size + 2) u) x r u :=
  ⟨set2_below h.g (by omega) u, set2_keep _ h.x (by omega), set2_keep _ h.r (by omega), set2_same h.v u⟩
theorem Box3.setR {w wr : World} {x r v : Ext} (h : Box3 w wr x r v) (u : Ext) : Box3 w (set2 wr (w.heap.size + 1) u) x u v :=
  ⟨set2_below h.g (by omega) u, set2_keep _ h.x (by omega), set2_same h.r u, set2_keep _ h.v (by omega)⟩
theorem Box3.start (w : World) (x : Ext) : Box3 w (((w.alloc (.cells #[.int .u64 (Zm.i (Ext.a x)), .int .u64 (Zm.i (Ext.b x))] 41)).alloc zeroExt).alloc zeroExt) x 0 0 := by
  have h1 := hnew w (.cells #[.int .u64 (Zm.i (Ext.a x)), .int .u64 (Zm.i (Ext.b x))] 41)
  have h2 := hnew (w.alloc (.cells #[.int .u64 (Zm.i (Ext.a x)), .int .u64 (Zm.i (Ext.b x))] 41)) zeroExt
  have h3 := hnew ((w.alloc (.cells #[.int .u64 (Zm.i (Ext.a x)), .int .u64 (Zm.i (Ext.b x))] 41)).alloc zeroExt) zeroExt
  simp only [World.size_alloc] at h2 h3
  exact ⟨((Gn.al _).trans (Gn.al _)).trans (Gn.al _), ((Gn.al _).trans (Gn.al _)).block h1, (Gn.al _).block h2, h3⟩
set_option maxHeartbeats 2000000 in
theorem x_eval (A : Option Addr) (n c : Nat) (l : List Ext) (x : Ext) (w : World) (hl : Sl w A n c l) (hn : n ≤ 1000000) :
    Calls Tryz.prog 53 #[.slice A n c, .agg #[.int .u64 (Zm.i (Ext.a (x))), .int .u64 (Zm.i (Ext.b (x)))]] w fun e w' => e = .returned (.agg #[.int .u64 (Zm.i (Ext.a (ev l x))), .int .u64 (Zm.i (Ext.b (ev l x)))]) ∧ ∃ g, w' = gr w g := by
  have l1 := Lib.hid hl.len
  go_enter Tryz.func53, Tryz.ntmps53
  go_wp2_with fail
  go_loopw [6] (fun i wr => ∃ k : Nat, k ≤ n ∧ i = .int .i64 ((k : Int) - 1) ∧ Box3 w wr x 0 (ev (l.drop k) x)) (fun i _ => (intOf i + 1).toNat)
  case atStart =>
    refine ⟨n, Nat.le_refl _, rfl, ?_⟩
    rw [List.drop_of_length_le (by rw [l1.out]; exact Nat.le_refl _)]
    exact Box3.start w x
  case round =>
    obtain ⟨k, hk, rfl, hb⟩ := hrel
    cases k with
    | zero =>
      rw [List.drop_zero] at hb
      have c1 := box_a hb.v
      have c2 := box_b hb.v
      have c3 := blk_lt hb.v
      have r1 := box_a hb.r
      have r2 := box_b hb.r
      have r3 := box_fz (i := 0) hb.r
      have r4 := box_fz (i := 1) hb.r
      go_wp2_with fail
      have hR := hb.setR (ev l x)
      have s1 := box_a hR.r
      have s2 := box_b hR.r
      unfold set2 at s1 s2 hR
      exact bodyPost_ret (v := .agg #[.int .u64 (Zm.i (Ext.a (ev l x))), .int .u64 (Zm.i (Ext.b (ev l x)))]) (by simp [results, Tryz.results53, go_sem, s1, s2]) rfl ⟨rfl, hR.g⟩
    | succ j =>
      rw [show ((j + 1 : Nat) : Int) - 1 = (j : Int) from by omega]
      obtain ⟨b, o, y, rfl, hx, q1, q2, q3⟩ := (hl.up hb.g).at_ (j := j) (by omega)
      have HE := Lib.hid (ev_drop hx x); clear hx
      generalize hV : ev (l.drop (j + 1)) x = v at *
      have c1 := box_a hb.v
      have c2 := box_b hb.v
      have c3 := blk_lt hb.v
      have d1 := box_a hb.x
      have d2 := box_b hb.x
      have d3 := blk_lt hb.x
      have HV := Lib.hid hV; clear hV
      go_wp2_with fail
      try simp only [List.append_eq, List.cons_append, List.nil_append]
      refine wp_region_flow 8 (by kernel_rfl) (by kernel_rfl) ?_
      refine flow_one rfl (by simp) ?_
      go_big_quiet_step (fail)
      refine wpQuiet_nil ?_
      refine flow_one rfl (by simp) ?_
      go_big_quiet_step (fail)
      refine wpQuiet_nil ?_
      apply flow_is
      · simp
      · intro g K hK
        go_wp2_with fail
        refine (x_mul v x _).mono ?_
        rintro e w' ⟨rfl, g', rfl⟩
        go_wp2_with fail
        exact hK _ (up_comp g g')
      · rfl
      refine flow_one rfl (by simp) ?_
      go_big_quiet_step (fail)
      refine wpQuiet_nil ?_
      refine flow_one rfl (by simp) ?_
      go_big_quiet_step (fail)
      refine wpQuiet_nil ?_
      refine flow_one rfl (by simp) ?_
      go_big_quiet_step (fail)
      refine wpQuiet_nil ?_
      refine flow_one rfl (by simp) ?_
      go_big_quiet_step (fail)
      refine wpQuiet_nil ?_
      apply flow_is
      · simp
      · intro g K hK
        go_wp2_with fail
        refine (x_add (v * x) y _).mono ?_
        rintro e w' ⟨rfl, g', rfl⟩
        go_wp2_with fail
        exact hK _ (up_comp g g')
      · rfl
      intro V N X hΓ hdis g hX
      clear hΓ hdis hX
      conv => arg 5; simp only [fill]
      have hgn : Gn wr (gr wr g) := ⟨g, rfl⟩
      have hb2 := (hb.up hgn).setV (v * x + y)
      refine tail_store (b := w.heap.size + 2) (x := v * x + y) rfl rfl (hb.up hgn).v ?_
      refine wpList_nil ?_
      generalize set2 (gr wr g) (w.heap.size + 2) (v * x + y) = w2 at hb2 ⊢
      clear c1 c2 c3 d1 d2 d3 q1 q2 q3
      go_wp2_with fail
      exact ⟨⟨j, by omega, by go_num, by rw [HE.out]; exact hb2⟩, by simp [intOf]⟩
end Go.Proofs.YtbfblckgcefaaaaGreatDoor

/- The walk of the reference's product. -/
namespace Go.Proofs.YtbfblckgcefaaaaGreatDoor
open Go.RowKit Att Att.CRing

set_option maxHeartbeats 4000000 in
theorem x_mulL (A B : Option Addr) (n c m d : Nat) (l k : List Ext) (w : World) (hl : Sl w A n c l) (hk : Sl w B m d k) (hn : n ≤ 1000000) (hm : m ≤ 1000000) :
    Calls Tryz.prog 76 #[.slice A n c, .slice B m d] w (RetSl w (trim (pmul l k))) := by
  have l1 := Lib.hid hl.len
  have k1 := Lib.hid hk.len
  go_enter Tryz.func76, Tryz.ntmps76
  go_wp2_with (at_make; refine wpList_mk (.tmp 12) (.tmp 12) (n + m) (congrArg (Value.int .i64) (by omega)) (congrArg (Value.int .i64) (by omega)) (by omega) ?_)
  go_loopw [6] (fun v wr => ∃ i : Nat, i ≤ n ∧ v = .int .i64 i ∧ Blk wr w.heap.size (accL (n + m) l k i 0) ∧ Gn w wr) (fun v _ => n - (intOf v).toNat)
  case atStart => exact ⟨0, by omega, rfl, by rw [accL_zero]; exact hnew w _, Gn.al _⟩
  case round =>
    obtain ⟨i, hi, rfl, hB, hg⟩ := hrel
    by_cases hlt : i < n
    · obtain ⟨wo, rfl⟩ : ∃ wo : World, wo = wr := ⟨_, rfl⟩
      go_wp2_with fail
      go_loopw [7] (fun v wr => ∃ j : Nat, j ≤ m ∧ v = .int .i64 j ∧ Blk wr w.heap.size (accL (n + m) l k i j) ∧ Gn w wr) (fun v _ => m - (intOf v).toNat)
      case atStart => exact ⟨0, by omega, rfl, hB, hg⟩
      case round =>
        clear hB hg
        obtain ⟨j, hj, rfl, hB, hg⟩ := hrel
        by_cases hlt2 : j < m
        · obtain ⟨b, o, x, rfl, hx, q1, q2, q3⟩ := (hl.up hg).at_ hlt
          obtain ⟨b', o', y, rfl, hy, r1, r2, r3⟩ := (hk.up hg).at_ hlt2
          have HX := Lib.hid (co_at hx); clear hx
          have HY := Lib.hid (co_at hy); clear hy
          have hG := accL_get (N := n + m) l k i j (by omega)
          have hS := Lib.hid (accL_set (N := n + m) l k i j (by omega))
          obtain ⟨u, hu⟩ : ∃ u, u = accF l k i j (i + j) := ⟨_, rfl⟩
          rw [← hu] at hG hS
          clear hu
          have hil := Lib.hid (show i + j < (accL (n + m) l k i j).length by rw [accL_len]; omega)
          obtain ⟨c1, c2⟩ := hB.cell hG
          have c3 := blk_lt hB
          clear hG
          have e1 : IntKind.i64.wrap ((i : Int) + (j : Int)) = (i : Int) + (j : Int) := IntWalk.i64_in _ (by omega)
          have e2 : 0 ≤ (i : Int) + (j : Int) := by omega
          have e3 : ((i : Int) + (j : Int)).toNat = i + j := by omega
          go_wp2_with fail
          try simp only [List.append_eq, List.cons_append, List.nil_append]
          refine wp_region_flow 21 (by kernel_rfl) (by kernel_rfl) ?_
          refine flow_one rfl (by simp) ?_
          go_big_quiet_step (fail)
          refine wpQuiet_nil ?_
          refine flow_one rfl (by simp) ?_
          go_big_quiet_step (fail)
          refine wpQuiet_nil ?_
          refine flow_one rfl (by simp) ?_
          go_big_quiet_step (fail)
          refine wpQuiet_nil ?_
          refine flow_one rfl (by simp) ?_
          go_big_quiet_step (fail)
          refine wpQuiet_nil ?_
          refine flow_one rfl (by simp) ?_
          go_big_quiet_step (fail)
          refine wpQuiet_nil ?_
          refine flow_one rfl (by simp) ?_
          go_big_quiet_step (fail)
          refine wpQuiet_nil ?_
          refine flow_one rfl (by simp) ?_
          go_big_quiet_step (fail)
          refine wpQuiet_nil ?_
          refine flow_one rfl (by simp) ?_
          go_big_quiet_step (fail)
          refine wpQuiet_nil ?_
          refine flow_one rfl (by simp) ?_
          go_big_quiet_step (fail)
          refine wpQuiet_nil ?_
          refine flow_one rfl (by simp) ?_
          go_big_quiet_step (fail)
          refine wpQuiet_nil ?_
          refine flow_one rfl (by simp) ?_
          go_big_quiet_step (fail)
          refine wpQuiet_nil ?_
          refine flow_one rfl (by simp) ?_
          go_big_quiet_step (fail)
          refine wpQuiet_nil ?_
          refine flow_one rfl (by simp) ?_
          go_big_quiet_step (fail)
          refine wpQuiet_nil ?_
          refine flow_one rfl (by simp) ?_
          go_big_quiet_step (fail)
          refine wpQuiet_nil ?_
          refine flow_one rfl (by simp) ?_
          go_big_quiet_step (fail)
          refine wpQuiet_nil ?_
          refine flow_one rfl (by simp) ?_
          go_big_quiet_step (fail)
          refine wpQuiet_nil ?_
          refine flow_one rfl (by simp) ?_
          go_big_quiet_step (fail)
          refine wpQuiet_nil ?_
          refine flow_one rfl (by simp) ?_
          go_big_quiet_step (fail)
          refine wpQuiet_nil ?_
          apply flow_is
          · simp
          · intro g K hK
            go_wp2_with fail
            refine (x_mul x y _).mono ?_
            rintro e w' ⟨rfl, g', rfl⟩
            go_wp2_with fail
            exact hK _ (up_comp g g')
          · rfl
          apply flow_is
          · simp
          · intro g K hK
            go_wp2_with fail
            refine (x_add u (x * y) _).mono ?_
            rintro e w' ⟨rfl, g', rfl⟩
            go_wp2_with fail
            exact hK _ (up_comp g g')
          · rfl
          refine flow_one rfl (by simp) ?_
          go_big_quiet_step (fail)
          refine wpQuiet_nil ?_
          intro V N X hΓ hdis g hX
          clear hΓ hdis hX
          conv => arg 5; simp only [fill]
          have hgn : Gn wr (gr wr g) := ⟨g, rfl⟩
          have hB' := (Blk.up hB hgn).set hil.out (u + x * y)
          have hg' := setE_below (hg.trans hgn) (Nat.le_refl _) (i := i + j) (u + x * y)
          refine tail_storeE (b := w.heap.size) (i := i + j) (x := u + x * y) rfl rfl (Blk.up hB hgn) hil.out ?_
          refine wpList_nil ?_
          generalize setE (gr wr g) w.heap.size (i + j) (u + x * y) = wr' at hB' hg' ⊢
          clear c1 c2 c3 q1 q2 q3 r1 r2 r3 e1 e2 e3
          go_wp2_with fail
          refine ⟨⟨j + 1, by omega, by go_num, ?_, hg'⟩, by simp [intOf]; omega⟩
          rw [← hS.out, HX.out, HY.out]
          exact hB'
        · obtain rfl : j = m := by omega
          go_wp2_with fail
          exact ⟨⟨i + 1, by omega, by go_num, by rw [accL_next, k1.out]; exact hB, hg⟩, by simp [intOf]; omega⟩
    · obtain rfl : i = n := by omega
      have hS : Sl wr (some ⟨w.heap.size, 0, none⟩) (i + m) (i + m) (accL (i + m) l k i 0) := by
        have h := hB.sl (by rw [accL_len]; omega)
        rwa [accL_len] at h
      have he := Lib.hid (accL_end (N := i + m) l k (by rw [l1.out, k1.out]; omega))
      go_wp2_with fail
      refine (x_trim _ _ _ _ _ hS (by omega)).mono ?_
      rintro e w' ⟨A', n', c', rfl, hs, hg'⟩
      go_wp2_with fail
      go_ret
      have e := he.out
      rw [l1.out] at e
      rw [← e]
      exact ⟨A', n', c', rfl, hs, hg.trans hg'⟩
end Go.Proofs.YtbfblckgcefaaaaGreatDoor

/- The walks of package poly: Mul, combine and what leans on it. -/
namespace Go.Proofs.YtbfblckgcefaaaaGreatDoor
open Go.RowKit Att Att.CRing

set_option maxHeartbeats 4000000 in
theorem p_mulL (A B : Option Addr) (n c m d : Nat) (l k : List Ext) (w : World) (hl : Sl w A n c l) (hk : Sl w B m d k) (hn : n ≤ 1000000) (hm : m ≤ 1000000) :
    Calls Tryz.prog 73 #[.slice A n c, .slice B m d] w (RetSl w (trim (pmul l k))) := by
  have l1 := Lib.hid hl.len
  have k1 := Lib.hid hk.len
  by_cases hz : n = 0 ∨ m = 0
  · have he : trim (pmul l k) = [] := by
      apply trim_pmul_nil
      rcases hz with h | h
      · left; rw [List.eq_nil_of_length_eq_zero (l1.out.trans h)]; rfl
      · right; rw [List.eq_nil_of_length_eq_zero (k1.out.trans h)]; rfl
    have HE := Lib.hid he; clear he
    by_cases h0 : n = 0
    · have b1 : ((n : Int) == 0) = true := by simp [h0]
      clear hz
      have H0 := Lib.hid h0; clear h0
      go_enter Tryz.func73, Tryz.ntmps73
      go_wp2_with fail
      go_ret
      exact ⟨none, 0, 0, rfl, by rw [HE.out]; exact Sl.nil w, Gn.refl w⟩
    · have b1 : ((n : Int) == 0) = false := by simp [h0]
      have b2 : ((m : Int) == 0) = true := by rcases hz with h | h; exact absurd h h0; simp [h]
      clear hz h0
      go_enter Tryz.func73, Tryz.ntmps73
      go_wp2_with fail
      go_ret
      exact ⟨none, 0, 0, rfl, by rw [HE.out]; exact Sl.nil w, Gn.refl w⟩
  · have b1 : ((n : Int) == 0) = false := by simp; omega
    have b2 : ((m : Int) == 0) = false := by simp; omega
    have n0 : 0 < n := by omega
    have m0 : 0 < m := by omega
    clear hz
    obtain ⟨N, hN⟩ : ∃ N, N + 1 = n + m := ⟨n + m - 1, by omega⟩
    have hNn : n ≤ N := by omega
    have hNm : m ≤ N := by omega
    have hN6 : N ≤ 2000000 := by omega
    have HN := Lib.hid hN; clear hN
    go_enter Tryz.func73, Tryz.ntmps73
    go_wp2_with (at_make; refine wpList_mk (.tmp 23) (.tmp 23) N (congrArg (Value.int .i64) (by have := HN.out; omega)) (congrArg (Value.int .i64) (by have := HN.out; omega)) (by omega) ?_)
    go_loopw [27] (fun v wr => ∃ i : Nat, i ≤ n ∧ v = .int .i64 i ∧ Blk wr w.heap.size (accL N l k i 0) ∧ Gn w wr) (fun v _ => n - (intOf v).toNat)
    case atStart => exact ⟨0, by omega, rfl, by rw [accL_zero]; exact hnew w _, Gn.al _⟩
    case round =>
      obtain ⟨i, hi, rfl, hB, hg⟩ := hrel
      by_cases hlt : i < n
      · obtain ⟨b, o, x, rfl, hx, q1, q2, q3⟩ := (hl.up hg).at_ hlt
        have HX := Lib.hid (co_at hx); clear hx
        have hBa := hnew wr (.cells #[.int .u64 (Zm.i (Ext.a x)), .int .u64 (Zm.i (Ext.b x))] 41)
        have hB1 := hB.up (Gn.al (.cells #[.int .u64 (Zm.i (Ext.a x)), .int .u64 (Zm.i (Ext.b x))] 41))
        have hg1 := hg.trans (Gn.al (.cells #[.int .u64 (Zm.i (Ext.a x)), .int .u64 (Zm.i (Ext.b x))] 41))
        have hlo := blk_lt hB
        go_wp2_with fail
        generalize wr.alloc (.cells #[.int .u64 (Zm.i (Ext.a x)), .int .u64 (Zm.i (Ext.b x))] 41) = wo at hBa hB1 hg1 ⊢
        clear hB hg q1 q2 q3
        generalize wr.heap.size = ba at hBa hlo ⊢
        go_loopw [34] (fun v wr => ∃ j : Nat, j ≤ m ∧ v = .int .i64 j ∧ Blk wr w.heap.size (accL N l k i j) ∧ wr.heap[ba]? = some (.cells #[.int .u64 (Zm.i (Ext.a x)), .int .u64 (Zm.i (Ext.b x))] 41) ∧ Gn w wr) (fun v _ => m - (intOf v).toNat)
        case atStart => exact ⟨0, by omega, rfl, hB1, hBa, hg1⟩
        case round =>
          clear hB1 hBa hg1
          obtain ⟨j, hj, rfl, hB, hBa, hg⟩ := hrel
          by_cases hlt2 : j < m
          · obtain ⟨b', o', y, rfl, hy, r1, r2, r3⟩ := (hk.up hg).at_ hlt2
            have HY := Lib.hid (co_at hy); clear hy
            have hij : i + j < N := by have := HN.out; omega
            have hBb := hnew wr (.cells #[.int .u64 (Zm.i (Ext.a y)), .int .u64 (Zm.i (Ext.b y))] 41)
            have hBa1 := (Gn.al (w := wr) (.cells #[.int .u64 (Zm.i (Ext.a y)), .int .u64 (Zm.i (Ext.b y))] 41)).block hBa
            have hB1 := hB.up (Gn.al (.cells #[.int .u64 (Zm.i (Ext.a y)), .int .u64 (Zm.i (Ext.b y))] 41))
            have hg1 := hg.trans (Gn.al (.cells #[.int .u64 (Zm.i (Ext.a y)), .int .u64 (Zm.i (Ext.b y))] 41))
            have hlo2 := blk_lt hB
            have e1 : IntKind.i64.wrap ((i : Int) + (j : Int)) = (i : Int) + (j : Int) := IntWalk.i64_in _ (by omega)
            have e2 : 0 ≤ (i : Int) + (j : Int) := by omega
            have e3 : ((i : Int) + (j : Int)).toNat = i + j := by omega
            go_wp2_with fail
            generalize wr.alloc (.cells #[.int .u64 (Zm.i (Ext.a y)), .int .u64 (Zm.i (Ext.b y))] 41) = w1 at hBb hBa1 hB1 hg1 ⊢
            clear hB hBa hg r1 r2 r3
            generalize wr.heap.size = bb at hBb hlo2 ⊢
            have hG := accL_get (N := N) l k i j hij
            have hS := Lib.hid (accL_set (N := N) l k i j hij)
            obtain ⟨u, hu⟩ : ∃ u, u = accF l k i j (i + j) := ⟨_, rfl⟩
            rw [← hu] at hG hS
            clear hu
            have hil := Lib.hid (show i + j < (accL N l k i j).length by rw [accL_len]; omega)
            obtain ⟨c1, c2⟩ := hB1.cell hG
            have c3 := blk_lt hB1
            clear hG
            have d1 := box_a hBa1; have d2 := box_b hBa1; have d3 := blk_lt hBa1
            have f1 := box_a hBb; have f2 := box_b hBb; have f3 := blk_lt hBb
            try simp only [List.append_eq, List.cons_append, List.nil_append]
            refine wp_region_flow 15 (by kernel_rfl) (by kernel_rfl) ?_
            refine flow_one rfl (by simp) ?_
            go_big_quiet_step (fail)
            refine wpQuiet_nil ?_
            refine flow_one rfl (by simp) ?_
            go_big_quiet_step (fail)
            refine wpQuiet_nil ?_
            refine flow_one rfl (by simp) ?_
            go_big_quiet_step (fail)
            refine wpQuiet_nil ?_
            refine flow_one rfl (by simp) ?_
            go_big_quiet_step (fail)
            refine wpQuiet_nil ?_
            refine flow_one rfl (by simp) ?_
            go_big_quiet_step (fail)
            refine wpQuiet_nil ?_
            refine flow_one rfl (by simp) ?_
            go_big_quiet_step (fail)
            refine wpQuiet_nil ?_
            refine flow_one rfl (by simp) ?_
            go_big_quiet_step (fail)
            refine wpQuiet_nil ?_
            refine flow_one rfl (by simp) ?_
            go_big_quiet_step (fail)
            refine wpQuiet_nil ?_
            refine flow_one rfl (by simp) ?_
            go_big_quiet_step (fail)
            refine wpQuiet_nil ?_
            refine flow_one rfl (by simp) ?_
            go_big_quiet_step (fail)
            refine wpQuiet_nil ?_
            refine flow_one rfl (by simp) ?_
            go_big_quiet_step (fail)
            refine wpQuiet_nil ?_
            refine flow_one rfl (by simp) ?_
            go_big_quiet_step (fail)
            refine wpQuiet_nil ?_
            apply flow_is
            · simp
            · intro g K hK
              go_wp2_with fail
              refine (e_mul x y _).mono ?_
              rintro e w' ⟨rfl, g', rfl⟩
              go_wp2_with fail
              exact hK _ (up_comp g g')
            · rfl
            apply flow_is
            · simp
            · intro g K hK
              go_wp2_with fail
              refine (e_add u (x * y) _).mono ?_
              rintro e w' ⟨rfl, g', rfl⟩
              go_wp2_with fail
              exact hK _ (up_comp g g')
            · rfl
            refine flow_one rfl (by simp) ?_
            go_big_quiet_step (fail)
            refine wpQuiet_nil ?_
            intro V N X hΓ hdis g hX
            clear hΓ hdis hX
            conv => arg 5; simp only [fill]
            have hgn : Gn w1 (gr w1 g) := ⟨g, rfl⟩
            have hB' := (Blk.up hB1 hgn).set hil.out (u + x * y)
            have hBa' : (setE (gr w1 g) w.heap.size (i + j) (u + x * y)).heap[ba]? = _ := (setE_other (by omega) _).trans (hgn.block hBa1)
            have hg' := setE_below (hg1.trans hgn) (Nat.le_refl _) (i := i + j) (u + x * y)
            refine tail_storeE (b := w.heap.size) (i := i + j) (x := u + x * y) rfl rfl (Blk.up hB1 hgn) hil.out ?_
            refine wpList_nil ?_
            generalize setE (gr w1 g) w.heap.size (i + j) (u + x * y) = wr' at hB' hBa' hg' ⊢
            clear c1 c2 c3 d1 d2 d3 f1 f2 f3 e1 e2 e3 hBb hBa1 hB1 hg1
            go_wp2_with fail
            refine ⟨⟨j + 1, by omega, by go_num, ?_, hBa', hg'⟩, by simp [intOf]; omega⟩
            rw [← hS.out, HX.out, HY.out]
            exact hB'
          · obtain rfl : j = m := by omega
            go_wp2_with fail
            exact ⟨⟨i + 1, by omega, by go_num, by rw [accL_next, k1.out]; exact hB, hg⟩, by simp [intOf]; omega⟩
      · obtain rfl : i = n := by omega
        have hS : Sl wr (some ⟨w.heap.size, 0, none⟩) N N (accL N l k i 0) := by
          have h := hB.sl (by rw [accL_len]; omega)
          rwa [accL_len] at h
        have he := Lib.hid (accL_end (N := N) l k (by rw [l1.out, k1.out]; have := HN.out; omega))
        go_wp2_with fail
        refine (p_trim _ _ _ _ _ hS (by omega)).mono ?_
        rintro e w' ⟨A', n', c', rfl, hs, hg'⟩
        go_wp2_with fail
        go_ret
        have e := he.out
        rw [l1.out] at e
        rw [← e]
        exact ⟨A', n', c', rfl, hs, hg.trans hg'⟩
end Go.Proofs.YtbfblckgcefaaaaGreatDoor

/- The walks of package poly: combine and what leans on it. -/
namespace Go.Proofs.YtbfblckgcefaaaaGreatDoor
open Go.RowKit Att Att.CRing

def comb (G : Ext → Ext → Ext) (l k : List Ext) : List Ext := tab (max l.length k.length) fun i => G (co l i) (co k i)
theorem comb_get (G : Ext → Ext → Ext) {l k : List Ext} {i : Nat} (h : i < max l.length k.length) : (comb G l k)[i]? = some (G (co l i) (co k i)) := by
  unfold comb tab; rw [List.getElem?_map, List.getElem?_range h]; rfl
theorem comb_len (G : Ext → Ext → Ext) (l k : List Ext) : (comb G l k).length = max l.length k.length := tab_length _ _
theorem two_boxes (w : World) : ((w.alloc zeroExt).alloc zeroExt).heap[w.heap.size]? = some zeroExt ∧ ((w.alloc zeroExt).alloc zeroExt).heap[w.heap.size + 1]? = some zeroExt := by
  have h1 := hnew w zeroExt
  have h2 := hnew (w.alloc zeroExt) zeroExt
  simp only [World.size_alloc] at h2
  exact ⟨(Gn.al _).block h1, h2⟩
set_option maxHeartbeats 4000000 in
theorem p_combAdd (A B : Option Addr) (n c m d : Nat) (l k : List Ext)  (w : World) (hl : Sl w A n c l) (hk : Sl w B m d k) (hn : n ≤ 1000000) (hm : m ≤ 1000000)  :
    Calls Tryz.prog 100 #[.slice A n c, .slice B m d, .func (.func 82) #[] #[]] w (RetSl w (trim (comb (fun x y => x + y) l k))) := by
  have HC := fun (x y : Ext) (w : World) => e_add x y w
  have l1 := Lib.hid hl.len
  have k1 := Lib.hid hk.len
  obtain ⟨N, hN⟩ : ∃ N, N = max n m := ⟨_, rfl⟩
  have hNn : n ≤ N := by omega
  have hNm : m ≤ N := by omega
  have hN6 : N ≤ 1000000 := by omega
  have HN := Lib.hid hN; clear hN
  have hres : (comb (fun x y => x + y) l k).length = N := by rw [comb_len, l1.out, k1.out, HN.out]
  have HR := Lib.hid hres; clear hres
  rcases Nat.lt_or_ge n m with hnm | hnm
  · go_enter Tryz.func100, Tryz.ntmps100
    go_wp2_with (at_make; refine wpList_mk (.tmp 15) (.tmp 15) N (congrArg (Value.int .i64) (by have := HN.out; omega)) (congrArg (Value.int .i64) (by have := HN.out; omega)) (by omega) ?_)
    go_loopw [19] (fun v wr => ∃ i : Nat, i ≤ N ∧ v = .int .i64 i ∧ Blk wr w.heap.size (Fi (comb (fun x y => x + y) l k) i) ∧ Gn w wr) (fun v _ => N - (intOf v).toNat)
    case atStart => exact ⟨0, by omega, rfl, by rw [Fi_zero, HR.out]; exact hnew w _, Gn.al _⟩
    case round =>
      obtain ⟨i, hi, rfl, hB, hg⟩ := hrel
      by_cases hlt : i < N
      · have hget : (comb (fun x y => x + y) l k)[i]? = some ((fun x y => x + y) (co l i) (co k i)) := comb_get _ (by rw [l1.out, k1.out, ← HN.out]; exact hlt)
        have HG := Lib.hid hget; clear hget
        have hil := Lib.hid (show i < (Fi (comb (fun x y => x + y) l k) i).length by rw [Fi_length _ (by rw [HR.out]; exact hi), HR.out]; exact hlt)
        have H0 := Lib.hid (Fi_get (comb (fun x y => x + y) l k) (i := i) (by rw [HR.out]; exact hlt))
        by_cases h1 : i < n
        · obtain ⟨b, o, x, rfl, hx, q1, q2, q3⟩ := (hl.up hg).at_ h1
          have HX := Lib.hid (co_at hx); clear hx
          by_cases h2 : i < m
          · obtain ⟨b', o', y, rfl, hy, r1, r2, r3⟩ := (hk.up hg).at_ h2
            have HY := Lib.hid (co_at hy); clear hy
            go_wp2_with fail
            refine (HC x y _).mono ?_
            rintro e w2 ⟨rfl, g2⟩
            have gA := ((Gn.al (w := wr) _).trans (Gn.al _)).trans g2
            have hB2 := hB.up gA
            obtain ⟨c1, c2⟩ := hB2.cell H0.out
            have c3 := blk_lt hB2
            have z1 := box_fz (i := i * 2) hB2
            have z2 := box_fz (i := i * 2 + 1) hB2
            have hB' := hB2.set hil.out ((fun x y => x + y) (x) (y))
            have hg' := setE_below (hg.trans gA) (Nat.le_refl _) (i := i) ((fun x y => x + y) (x) (y))
            clear gA g2
            go_wp2_with fail
            refine ⟨⟨i + 1, by omega, by go_num, ?_, hg'⟩, by simp [intOf]; omega⟩
            rw [← Fi_set HG.out, HX.out]; try rw [HY.out]
            exact hB'
          · exfalso; omega
        · by_cases h2 : i < m
          · obtain ⟨b', o', y, rfl, hy, r1, r2, r3⟩ := (hk.up hg).at_ h2
            have HY := Lib.hid (co_at hy); clear hy
            have HX := Lib.hid (co_ge l1.out h1)
            go_wp2_with fail
            refine (HC 0 y _).mono ?_
            rintro e w2 ⟨rfl, g2⟩
            have gA := ((Gn.al (w := wr) _).trans (Gn.al _)).trans g2
            have hB2 := hB.up gA
            obtain ⟨c1, c2⟩ := hB2.cell H0.out
            have c3 := blk_lt hB2
            have z1 := box_fz (i := i * 2) hB2
            have z2 := box_fz (i := i * 2 + 1) hB2
            have hB' := hB2.set hil.out ((fun x y => x + y) (0) (y))
            have hg' := setE_below (hg.trans gA) (Nat.le_refl _) (i := i) ((fun x y => x + y) (0) (y))
            clear gA g2
            go_wp2_with fail
            refine ⟨⟨i + 1, by omega, by go_num, ?_, hg'⟩, by simp [intOf]; omega⟩
            rw [← Fi_set HG.out, HX.out]; try rw [HY.out]
            exact hB'
          · exfalso
            have := HN.out
            omega
      · obtain rfl : i = N := by omega
        have e := Lib.hid (Fi_end (comb (fun x y => x + y) l k))
        have hS : Sl wr (some ⟨w.heap.size, 0, none⟩) i i (comb (fun x y => x + y) l k) := by
          have h := hB.sl (by rw [Fi_length _ (by rw [HR.out]; exact Nat.le_refl _), HR.out]; omega)
          rw [Fi_length _ (by rw [HR.out]; exact Nat.le_refl _), HR.out] at h
          have e2 : Fi (comb (fun x y => x + y) l k) i = comb (fun x y => x + y) l k := by have := e.out; rwa [HR.out] at this
          rwa [e2] at h
        go_wp2_with fail
        refine (p_trim _ _ _ _ _ hS (by omega)).mono ?_
        rintro e w' ⟨A', n', c', rfl, hs, hg'⟩
        go_wp2_with fail
        go_ret
        exact ⟨A', n', c', rfl, hs, hg.trans hg'⟩
  · go_enter Tryz.func100, Tryz.ntmps100
    go_wp2_with (at_make; refine wpList_mk (.tmp 15) (.tmp 15) N (congrArg (Value.int .i64) (by have := HN.out; omega)) (congrArg (Value.int .i64) (by have := HN.out; omega)) (by omega) ?_)
    go_loopw [19] (fun v wr => ∃ i : Nat, i ≤ N ∧ v = .int .i64 i ∧ Blk wr w.heap.size (Fi (comb (fun x y => x + y) l k) i) ∧ Gn w wr) (fun v _ => N - (intOf v).toNat)
    case atStart => exact ⟨0, by omega, rfl, by rw [Fi_zero, HR.out]; exact hnew w _, Gn.al _⟩
    case round =>
      obtain ⟨i, hi, rfl, hB, hg⟩ := hrel
      by_cases hlt : i < N
      · have hget : (comb (fun x y => x + y) l k)[i]? = some ((fun x y => x + y) (co l i) (co k i)) := comb_get _ (by rw [l1.out, k1.out, ← HN.out]; exact hlt)
        have HG := Lib.hid hget; clear hget
        have hil := Lib.hid (show i < (Fi (comb (fun x y => x + y) l k) i).length by rw [Fi_length _ (by rw [HR.out]; exact hi), HR.out]; exact hlt)
        have H0 := Lib.hid (Fi_get (comb (fun x y => x + y) l k) (i := i) (by rw [HR.out]; exact hlt))
        by_cases h1 : i < n
        · obtain ⟨b, o, x, rfl, hx, q1, q2, q3⟩ := (hl.up hg).at_ h1
          have HX := Lib.hid (co_at hx); clear hx
          by_cases h2 : i < m
          · obtain ⟨b', o', y, rfl, hy, r1, r2, r3⟩ := (hk.up hg).at_ h2
            have HY := Lib.hid (co_at hy); clear hy
            go_wp2_with fail
            refine (HC x y _).mono ?_
            rintro e w2 ⟨rfl, g2⟩
            have gA := ((Gn.al (w := wr) _).trans (Gn.al _)).trans g2
            have hB2 := hB.up gA
            obtain ⟨c1, c2⟩ := hB2.cell H0.out
            have c3 := blk_lt hB2
            have z1 := box_fz (i := i * 2) hB2
            have z2 := box_fz (i := i * 2 + 1) hB2
            have hB' := hB2.set hil.out ((fun x y => x + y) (x) (y))
            have hg' := setE_below (hg.trans gA) (Nat.le_refl _) (i := i) ((fun x y => x + y) (x) (y))
            clear gA g2
            go_wp2_with fail
            refine ⟨⟨i + 1, by omega, by go_num, ?_, hg'⟩, by simp [intOf]; omega⟩
            rw [← Fi_set HG.out, HX.out]; try rw [HY.out]
            exact hB'
          · have HY := Lib.hid (co_ge k1.out h2)
            go_wp2_with fail
            refine (HC x 0 _).mono ?_
            rintro e w2 ⟨rfl, g2⟩
            have gA := ((Gn.al (w := wr) _).trans (Gn.al _)).trans g2
            have hB2 := hB.up gA
            obtain ⟨c1, c2⟩ := hB2.cell H0.out
            have c3 := blk_lt hB2
            have z1 := box_fz (i := i * 2) hB2
            have z2 := box_fz (i := i * 2 + 1) hB2
            have hB' := hB2.set hil.out ((fun x y => x + y) (x) (0))
            have hg' := setE_below (hg.trans gA) (Nat.le_refl _) (i := i) ((fun x y => x + y) (x) (0))
            clear gA g2
            go_wp2_with fail
            refine ⟨⟨i + 1, by omega, by go_num, ?_, hg'⟩, by simp [intOf]; omega⟩
            rw [← Fi_set HG.out, HX.out]; try rw [HY.out]
            exact hB'
        · by_cases h2 : i < m
          · exfalso; omega
          · exfalso
            have := HN.out
            omega
      · obtain rfl : i = N := by omega
        have e := Lib.hid (Fi_end (comb (fun x y => x + y) l k))
        have hS : Sl wr (some ⟨w.heap.size, 0, none⟩) i i (comb (fun x y => x + y) l k) := by
          have h := hB.sl (by rw [Fi_length _ (by rw [HR.out]; exact Nat.le_refl _), HR.out]; omega)
          rw [Fi_length _ (by rw [HR.out]; exact Nat.le_refl _), HR.out] at h
          have e2 : Fi (comb (fun x y => x + y) l k) i = comb (fun x y => x + y) l k := by have := e.out; rwa [HR.out] at this
          rwa [e2] at h
        go_wp2_with fail
        refine (p_trim _ _ _ _ _ hS (by omega)).mono ?_
        rintro e w' ⟨A', n', c', rfl, hs, hg'⟩
        go_wp2_with fail
        go_ret
        exact ⟨A', n', c', rfl, hs, hg.trans hg'⟩

set_option maxHeartbeats 4000000 in
theorem p_combSub (A B : Option Addr) (n c m d : Nat) (l k : List Ext)  (w : World) (hl : Sl w A n c l) (hk : Sl w B m d k) (hn : n ≤ 1000000) (hm : m ≤ 1000000)  :
    Calls Tryz.prog 100 #[.slice A n c, .slice B m d, .func (.func 99) #[] #[]] w (RetSl w (trim (comb (fun x y => x - y) l k))) := by
  have HC := fun (x y : Ext) (w : World) => e_sub x y w
  have l1 := Lib.hid hl.len
  have k1 := Lib.hid hk.len
  obtain ⟨N, hN⟩ : ∃ N, N = max n m := ⟨_, rfl⟩
  have hNn : n ≤ N := by omega
  have hNm : m ≤ N := by omega
  have hN6 : N ≤ 1000000 := by omega
  have HN := Lib.hid hN; clear hN
  have hres : (comb (fun x y => x - y) l k).length = N := by rw [comb_len, l1.out, k1.out, HN.out]
  have HR := Lib.hid hres; clear hres
  rcases Nat.lt_or_ge n m with hnm | hnm
  · go_enter Tryz.func100, Tryz.ntmps100
    go_wp2_with (at_make; refine wpList_mk (.tmp 15) (.tmp 15) N (congrArg (Value.int .i64) (by have := HN.out; omega)) (congrArg (Value.int .i64) (by have := HN.out; omega)) (by omega) ?_)
    go_loopw [19] (fun v wr => ∃ i : Nat, i ≤ N ∧ v = .int .i64 i ∧ Blk wr w.heap.size (Fi (comb (fun x y => x - y) l k) i) ∧ Gn w wr) (fun v _ => N - (intOf v).toNat)
    case atStart => exact ⟨0, by omega, rfl, by rw [Fi_zero, HR.out]; exact hnew w _, Gn.al _⟩
    case round =>
      obtain ⟨i, hi, rfl, hB, hg⟩ := hrel
      by_cases hlt : i < N
      · have hget : (comb (fun x y => x - y) l k)[i]? = some ((fun x y => x - y) (co l i) (co k i)) := comb_get _ (by rw [l1.out, k1.out, ← HN.out]; exact hlt)
        have HG := Lib.hid hget; clear hget
        have hil := Lib.hid (show i < (Fi (comb (fun x y => x - y) l k) i).length by rw [Fi_length _ (by rw [HR.out]; exact hi), HR.out]; exact hlt)
        have H0 := Lib.hid (Fi_get (comb (fun x y => x - y) l k) (i := i) (by rw [HR.out]; exact hlt))
        by_cases h1 : i < n
        · obtain ⟨b, o, x, rfl, hx, q1, q2, q3⟩ := (hl.up hg).at_ h1
          have HX := Lib.hid (co_at hx); clear hx
          by_cases h2 : i < m
          · obtain ⟨b', o', y, rfl, hy, r1, r2, r3⟩ := (hk.up hg).at_ h2
            have HY := Lib.hid (co_at hy); clear hy
            go_wp2_with fail
            refine (HC x y _).mono ?_
            rintro e w2 ⟨rfl, g2⟩
            have gA := ((Gn.al (w := wr) _).trans (Gn.al _)).trans g2
            have hB2 := hB.up gA
            obtain ⟨c1, c2⟩ := hB2.cell H0.out
            have c3 := blk_lt hB2
            have z1 := box_fz (i := i * 2) hB2
            have z2 := box_fz (i := i * 2 + 1) hB2
            have hB' := hB2.set hil.out ((fun x y => x - y) (x) (y))
            have hg' := setE_below (hg.trans gA) (Nat.le_refl _) (i := i) ((fun x y => x - y) (x) (y))
            clear gA g2
            go_wp2_with fail
            refine ⟨⟨i + 1, by omega, by go_num, ?_, hg'⟩, by simp [intOf]; omega⟩
            rw [← Fi_set HG.out, HX.out]; try rw [HY.out]
            exact hB'
          · exfalso; omega
        · by_cases h2 : i < m
          · obtain ⟨b', o', y, rfl, hy, r1, r2, r3⟩ := (hk.up hg).at_ h2
            have HY := Lib.hid (co_at hy); clear hy
            have HX := Lib.hid (co_ge l1.out h1)
            go_wp2_with fail
            refine (HC 0 y _).mono ?_
            rintro e w2 ⟨rfl, g2⟩
            have gA := ((Gn.al (w := wr) _).trans (Gn.al _)).trans g2
            have hB2 := hB.up gA
            obtain ⟨c1, c2⟩ := hB2.cell H0.out
            have c3 := blk_lt hB2
            have z1 := box_fz (i := i * 2) hB2
            have z2 := box_fz (i := i * 2 + 1) hB2
            have hB' := hB2.set hil.out ((fun x y => x - y) (0) (y))
            have hg' := setE_below (hg.trans gA) (Nat.le_refl _) (i := i) ((fun x y => x - y) (0) (y))
            clear gA g2
            go_wp2_with fail
            refine ⟨⟨i + 1, by omega, by go_num, ?_, hg'⟩, by simp [intOf]; omega⟩
            rw [← Fi_set HG.out, HX.out]; try rw [HY.out]
            exact hB'
          · exfalso
            have := HN.out
            omega
      · obtain rfl : i = N := by omega
        have e := Lib.hid (Fi_end (comb (fun x y => x - y) l k))
        have hS : Sl wr (some ⟨w.heap.size, 0, none⟩) i i (comb (fun x y => x - y) l k) := by
          have h := hB.sl (by rw [Fi_length _ (by rw [HR.out]; exact Nat.le_refl _), HR.out]; omega)
          rw [Fi_length _ (by rw [HR.out]; exact Nat.le_refl _), HR.out] at h
          have e2 : Fi (comb (fun x y => x - y) l k) i = comb (fun x y => x - y) l k := by have := e.out; rwa [HR.out] at this
          rwa [e2] at h
        go_wp2_with fail
        refine (p_trim _ _ _ _ _ hS (by omega)).mono ?_
        rintro e w' ⟨A', n', c', rfl, hs, hg'⟩
        go_wp2_with fail
        go_ret
        exact ⟨A', n', c', rfl, hs, hg.trans hg'⟩
  · go_enter Tryz.func100, Tryz.ntmps100
    go_wp2_with (at_make; refine wpList_mk (.tmp 15) (.tmp 15) N (congrArg (Value.int .i64) (by have := HN.out; omega)) (congrArg (Value.int .i64) (by have := HN.out; omega)) (by omega) ?_)
    go_loopw [19] (fun v wr => ∃ i : Nat, i ≤ N ∧ v = .int .i64 i ∧ Blk wr w.heap.size (Fi (comb (fun x y => x - y) l k) i) ∧ Gn w wr) (fun v _ => N - (intOf v).toNat)
    case atStart => exact ⟨0, by omega, rfl, by rw [Fi_zero, HR.out]; exact hnew w _, Gn.al _⟩
    case round =>
      obtain ⟨i, hi, rfl, hB, hg⟩ := hrel
      by_cases hlt : i < N
      · have hget : (comb (fun x y => x - y) l k)[i]? = some ((fun x y => x - y) (co l i) (co k i)) := comb_get _ (by rw [l1.out, k1.out, ← HN.out]; exact hlt)
        have HG := Lib.hid hget; clear hget
        have hil := Lib.hid (show i < (Fi (comb (fun x y => x - y) l k) i).length by rw [Fi_length _ (by rw [HR.out]; exact hi), HR.out]; exact hlt)
        have H0 := Lib.hid (Fi_get (comb (fun x y => x - y) l k) (i := i) (by rw [HR.out]; exact hlt))
        by_cases h1 : i < n
        · obtain ⟨b, o, x, rfl, hx, q1, q2, q3⟩ := (hl.up hg).at_ h1
          have HX := Lib.hid (co_at hx); clear hx
          by_cases h2 : i < m
          · obtain ⟨b', o', y, rfl, hy, r1, r2, r3⟩ := (hk.up hg).at_ h2
            have HY := Lib.hid (co_at hy); clear hy
            go_wp2_with fail
            refine (HC x y _).mono ?_
            rintro e w2 ⟨rfl, g2⟩
            have gA := ((Gn.al (w := wr) _).trans (Gn.al _)).trans g2
            have hB2 := hB.up gA
            obtain ⟨c1, c2⟩ := hB2.cell H0.out
            have c3 := blk_lt hB2
            have z1 := box_fz (i := i * 2) hB2
            have z2 := box_fz (i := i * 2 + 1) hB2
            have hB' := hB2.set hil.out ((fun x y => x - y) (x) (y))
            have hg' := setE_below (hg.trans gA) (Nat.le_refl _) (i := i) ((fun x y => x - y) (x) (y))
            clear gA g2
            go_wp2_with fail
            refine ⟨⟨i + 1, by omega, by go_num, ?_, hg'⟩, by simp [intOf]; omega⟩
            rw [← Fi_set HG.out, HX.out]; try rw [HY.out]
            exact hB'
          · have HY := Lib.hid (co_ge k1.out h2)
            go_wp2_with fail
            refine (HC x 0 _).mono ?_
            rintro e w2 ⟨rfl, g2⟩
            have gA := ((Gn.al (w := wr) _).trans (Gn.al _)).trans g2
            have hB2 := hB.up gA
            obtain ⟨c1, c2⟩ := hB2.cell H0.out
            have c3 := blk_lt hB2
            have z1 := box_fz (i := i * 2) hB2
            have z2 := box_fz (i := i * 2 + 1) hB2
            have hB' := hB2.set hil.out ((fun x y => x - y) (x) (0))
            have hg' := setE_below (hg.trans gA) (Nat.le_refl _) (i := i) ((fun x y => x - y) (x) (0))
            clear gA g2
            go_wp2_with fail
            refine ⟨⟨i + 1, by omega, by go_num, ?_, hg'⟩, by simp [intOf]; omega⟩
            rw [← Fi_set HG.out, HX.out]; try rw [HY.out]
            exact hB'
        · by_cases h2 : i < m
          · exfalso; omega
          · exfalso
            have := HN.out
            omega
      · obtain rfl : i = N := by omega
        have e := Lib.hid (Fi_end (comb (fun x y => x - y) l k))
        have hS : Sl wr (some ⟨w.heap.size, 0, none⟩) i i (comb (fun x y => x - y) l k) := by
          have h := hB.sl (by rw [Fi_length _ (by rw [HR.out]; exact Nat.le_refl _), HR.out]; omega)
          rw [Fi_length _ (by rw [HR.out]; exact Nat.le_refl _), HR.out] at h
          have e2 : Fi (comb (fun x y => x - y) l k) i = comb (fun x y => x - y) l k := by have := e.out; rwa [HR.out] at this
          rwa [e2] at h
        go_wp2_with fail
        refine (p_trim _ _ _ _ _ hS (by omega)).mono ?_
        rintro e w' ⟨A', n', c', rfl, hs, hg'⟩
        go_wp2_with fail
        go_ret
        exact ⟨A', n', c', rfl, hs, hg.trans hg'⟩

theorem p_subL (A B : Option Addr) (n c m d : Nat) (l k : List Ext) (w : World) (hl : Sl w A n c l) (hk : Sl w B m d k) (hn : n ≤ 1000000) (hm : m ≤ 1000000) :
    Calls Tryz.prog 72 #[.slice A n c, .slice B m d] w (RetSl w (trim (psub l k))) := by
  go_enter Tryz.func72, Tryz.ntmps72
  go_wp2_with fail
  refine (p_combSub A B n c m d l k _ hl hk hn hm).mono ?_
  rintro e w2 ⟨A', n', c', rfl, hs, g2⟩
  go_wp2_with fail
  go_ret
  exact ⟨A', n', c', rfl, hs, g2⟩
theorem comb_sca (l : List Ext) (c : Ext) : comb (fun x _ => x * c) l [] = psca l c := by
  unfold comb psca
  simp only [List.length_nil, Nat.max_zero]
end Go.Proofs.YtbfblckgcefaaaaGreatDoor
