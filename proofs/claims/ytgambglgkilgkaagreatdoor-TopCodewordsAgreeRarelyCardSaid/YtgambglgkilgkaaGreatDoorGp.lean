/- The walks of package poly and its reference: Same, Clone, Trim, Degree. -/
import Derived.Test.YtgambglgkilgkaaGreatDoorGe
import Derived.Test.YtgambglgkilgkaaGreatDoorGa
namespace Go.Proofs.YtgambglgkilgkaaGreatDoor
open Go.RowKit Att Att.CRing

/-- a slice of the call's own is returned -/
def RetSl (w : World) (l : List Ext) (e : Ending) (w' : World) : Prop := ∃ A n c, e = .returned (.slice A n c) ∧ Sl w' A n c l ∧ Gn w w'
theorem RetSl.of {w w' : World} {l : List Ext} {v : Value} {base : Nat} (ho : Ow w' base v l) (hg : Gn w w') : RetSl w l (.returned v) w' := by
  obtain ⟨A, c, rfl, hs⟩ := ho.sl
  exact ⟨A, _, c, rfl, hs, hg⟩

/-- a slice of the call's own is returned, that may still grow -/
def RetOw (w : World) (l : List Ext) (e : Ending) (w' : World) : Prop := ∃ v, e = .returned v ∧ Ow w' w.heap.size v l ∧ Gn w w'
theorem RetOw.sl {w w' : World} {l : List Ext} {e : Ending} (h : RetOw w l e w') : RetSl w l e w' := by
  obtain ⟨v, rfl, ho, hg⟩ := h
  exact RetSl.of ho hg
theorem Ow.base {w : World} {base base' : Nat} {v : Value} {l : List Ext} (h : Ow w base v l) (hb : base' ≤ base) : Ow w base' v l := by
  rcases h with ⟨h1, h2 | ⟨g, cap, cur, hv, hbb, hg, hn, hc, hsz, htake⟩⟩
  · exact ⟨h1, .inl h2⟩
  · exact ⟨h1, .inr ⟨g, cap, cur, hv, Nat.le_trans hb hbb, hg, hn, hc, hsz, htake⟩⟩
set_option maxHeartbeats 1000000 in
theorem p_cloneO (A : Option Addr) (n c : Nat) (l : List Ext) (w : World) (hl : Sl w A n c l) (hn : n ≤ 1000000000) :
    Calls Tryz.prog 72 #[.slice A n c] w (RetOw w l) := by
  have he := fun (w : World) => Lib.run_eql_slice_nil (P := Tryz.prog) w 22 30 A n c 0 0 Tryz.underlying22
  cases A with
  | none =>
    have hl0 : l = [] := by
      rcases Nat.eq_zero_or_pos n with h | h
      · exact List.eq_nil_of_length_eq_zero (hl.len.trans h)
      · obtain ⟨b, o, e, _⟩ := hl.cells h; cases e
    subst hl0
    go_enter Tryz.func72, Tryz.ntmps72
    go_wp2_with fail
    go_ret
    exact ⟨_, rfl, Ow.nil w _, Gn.refl w⟩
  | some ad =>
    go_enter Tryz.func72, Tryz.ntmps72
    go_wp2_with (at_builtin; refine wpList_app (.tmp 5) (.tmp 6) rfl (Ow.empty w (Nat.le_refl _)) (by simp) rfl (hl.up (Gn.al _)) (by simp; omega) ?_; intro v1 w1 ho hg)
    go_ret
    exact ⟨_, rfl, ho, grown_gn (Gn.al _) (Ow.empty w (Nat.le_refl _)) (Nat.le_refl _) hg⟩

/- Trim -/
theorem isz (x : Ext) (h : x = 0) (w : World) : Calls Tryz.prog 71 #[.agg #[.int .u64 (Zm.i (Ext.a (x))), .int .u64 (Zm.i (Ext.b (x)))]] w fun e w' => e = .returned (.bool true) ∧ ∃ g, w' = gr w g := by
  have := e_isZero x w; rwa [decide_eq_true h] at this
theorem isn (x : Ext) (h : x ≠ 0) (w : World) : Calls Tryz.prog 71 #[.agg #[.int .u64 (Zm.i (Ext.a (x))), .int .u64 (Zm.i (Ext.b (x)))]] w fun e w' => e = .returned (.bool false) ∧ ∃ g, w' = gr w g := by
  have := e_isZero x w; rwa [decide_eq_false h] at this
theorem Sl.take {w : World} {A : Option Addr} {n c : Nat} {l : List Ext} (h : Sl w A n c l) {k : Nat} (hk : k ≤ n) : Sl w A k c (l.take k) :=
  ⟨by rw [List.length_take, h.len]; omega, Nat.le_trans hk h.le, h.small, fun hn => by
    obtain ⟨b, o, e, hb, hc⟩ := h.cells (by omega)
    exact ⟨b, o, e, hb, fun i x hx => hc i x (by
      have hi : i < (l.take k).length := (List.getElem?_eq_some_iff.1 hx).1
      rw [List.length_take] at hi
      rw [List.getElem?_take_of_lt (by omega)] at hx; exact hx)⟩⟩
theorem trim_take {l : List Ext} {k : Nat} (hk : k ≤ l.length) (hz : ∀ i, k ≤ i → co l i = 0) (hn : k = 0 ∨ co l (k - 1) ≠ 0) : trim l = l.take k := by
  have e : trim l = trim (l.take k) := trim_ext (fun i => by
    by_cases hi : i < k
    · rw [co_get _ _ (by omega), co_get _ _ (by rw [List.length_take]; omega), List.getElem_take]
    · rw [hz i (by omega), co_big _ _ (by rw [List.length_take]; omega)])
  rw [e]
  refine trim_of_last ?_
  rcases hn with rfl | hn
  · exact .inl rfl
  · by_cases h0 : k = 0
    · subst h0; exact .inl rfl
    · refine .inr ?_
      rw [List.length_take, Nat.min_eq_left hk, co_get _ _ (by rw [List.length_take]; omega), List.getElem_take]
      rwa [co_get _ _ (by omega)] at hn
theorem co_at {l : List Ext} {j : Nat} {x : Ext} (h : l[j]? = some x) : co l j = x := by
  unfold co; rw [List.getD_eq_getElem?_getD, h]; rfl

set_option maxHeartbeats 1000000 in
theorem p_trimO (A : Option Addr) (n c : Nat) (l : List Ext) (w : World) (hl : Sl w A n c l) (hn : n ≤ 1000000000) :
    Calls Tryz.prog 33 #[.slice A n c] w (RetOw w (trim l)) := by
  have l1 := Lib.hid hl.len
  have n1 := hl.le; have n2 := hl.small
  go_enter Tryz.func33, Tryz.ntmps33
  go_wp2_with fail
  go_loopw [3] (fun v wr => ∃ k : Nat, k ≤ n ∧ v = .int .i64 k ∧ (∀ i, k ≤ i → co l i = 0) ∧ Gn w wr) (fun v _ => (intOf v).toNat)
  case atStart => exact ⟨n, Nat.le_refl _, rfl, fun i hi => co_big _ _ (by rw [l1.out]; exact hi), Gn.refl w⟩
  case round =>
    obtain ⟨k, hk, rfl, hz, hg⟩ := hrel
    have HZ := Lib.hid hz; clear hz
    cases k with
    | zero =>
      have HT := Lib.hid (trim_take (l := l) (k := 0) (by omega) HZ.out (.inl rfl))
      go_wp2_with fail
      refine (p_cloneO A 0 c (l.take 0) _ ((hl.up hg).take (by omega)) (by omega)).mono ?_
      rintro e w' ⟨v', rfl, ho', hg'⟩
      go_wp2_with fail
      go_ret
      exact ⟨_, rfl, by rw [HT.out]; exact ho'.base hg.size, hg.trans hg'⟩
    | succ j =>
      obtain ⟨b, o, x, rfl, hx, q1, q2, q3⟩ := (hl.up hg).at_ (j := j) (by omega)
      have HX := Lib.hid hx; clear hx
      by_cases hx0 : x = 0
      · have H0 := Lib.hid hx0; clear hx0
        go_wp2_with (go_at_call 71; with_reducible refine (isz x H0.out _).mono ?_; rintro e w' ⟨rfl, hg2⟩)
        exact ⟨⟨j, by omega, by go_num, fun i hi => by
          by_cases hij : i = j
          · rw [hij, co_at HX.out, H0.out]
          · exact HZ.out i (by omega), hg.trans hg2⟩, by simp [intOf]⟩
      · have H0 := Lib.hid hx0; clear hx0
        have HT := Lib.hid (trim_take (l := l) (k := j + 1) (by have := l1.out; omega) HZ.out (.inr (by rw [Nat.add_sub_cancel, co_at HX.out]; exact H0.out)))
        go_wp2_with (first
          | (go_at_call 71; with_reducible refine (isn x H0.out _).mono ?_; rintro e w' ⟨rfl, hg2⟩)
          | (go_at_call 72; refine (p_cloneO _ (j + 1) c (l.take (j + 1)) _ ((hl.up (hg.trans hg2)).take (by omega)) (by omega)).mono ?_; rintro e w' ⟨v', rfl, ho', hg'⟩))
        go_ret
        exact ⟨_, rfl, by rw [HT.out]; exact ho'.base (hg.trans hg2).size, (hg.trans hg2).trans hg'⟩

theorem p_trim (A : Option Addr) (n c : Nat) (l : List Ext) (w : World) (hl : Sl w A n c l) (hn : n ≤ 1000000000) :
    Calls Tryz.prog 33 #[.slice A n c] w (RetSl w (trim l)) := (p_trimO A n c l w hl hn).mono fun _ _ h => h.sl
theorem trim_le {l : List Ext} {n : Nat} (h : l.length = n) : (trim l).length ≤ n := by rw [← h]; exact trim_length_le l
/- Same -/
end Go.Proofs.YtgambglgkilgkaaGreatDoor

/- The walks of the reference of package poly: Made, Exactly, Scale; the laws' ints. -/
namespace Go.Proofs.YtgambglgkilgkaaGreatDoor
open Go.RowKit Att Att.CRing

theorem gn_le {W a : World} (h : Gn W a) : W.heap.size ≤ a.heap.size := h.size

set_option maxHeartbeats 1000000 in
theorem x_madeL (A : Option Addr) (n c : Nat) (l : List (Int × Int)) (m : Nat) (w : World) (hl : SlR w A n c l) (hm : m ≤ 1000) :
    Calls Tryz.prog 12 #[.slice A n c, .int .i64 m] w (RetOw w ((l.take m).map mkP)) := by
  have l1 := Lib.hid hl.len
  have n1 := hl.le; have n2 := hl.small
  go_enter Tryz.func12, Tryz.ntmps12
  go_wp2_with fail
  go_loopw [5, 6] (fun v i wr => ∃ k : Nat, k ≤ n ∧ k ≤ m ∧ i = .int .i64 k ∧ Ow wr w.heap.size v ((l.take k).map mkP) ∧ Gn w wr) (fun _ i _ => n - (intOf i).toNat)
  case atStart => exact ⟨0, by omega, by omega, rfl, Ow.empty w (Nat.le_refl _), Gn.al _⟩
  case round =>
    obtain ⟨k, hk, hkm, rfl, ho, hg⟩ := hrel
    by_cases h1 : k < n
    · by_cases h2 : k < m
      · obtain ⟨b, o, p, q, rfl, hx, q1, q2, q3, _, _⟩ := (hl.up hg).at_ h1
        have HX := Lib.hid (take_snoc' hx); clear hx
        go_wp2_with fail
        refine (x_mk p q _).mono ?_
        rintro e w2 ⟨rfl, g2⟩
        have ho2 := ho.up g2
        have hg2 := hg.trans g2
        go_wp2_with (at_builtin; refine wpList_app (.tmp 19) (.tmp 25) rfl (ho2.up (Gn.al _)) (by have := hg2.size; simp; omega) rfl ((Blk.one (mk p q)).sl (by simp)) (by simp; omega) ?_; intro v3 w3 ho3 hg3; have hg4 := grown_gn (hg2.trans (Gn.al _)) (ho2.up (Gn.al _)) (Nat.le_refl _) hg3; clear hg3)
        exact ⟨⟨k + 1, by omega, by omega, by go_num, by rw [HX.out, List.map_append]; exact ho3, hg4⟩, by simp [intOf]; omega⟩
      · obtain rfl : k = m := by omega
        go_wp2_with fail
        go_ret
        exact ⟨_, rfl, ho, hg⟩
    · have he := Lib.hid (show l.take k = l.take m by rw [List.take_of_length_le (by rw [l1.out]; omega), List.take_of_length_le (by rw [l1.out]; omega)])
      go_wp2_with fail
      go_ret
      rw [← he.out]
      exact ⟨_, rfl, ho, hg⟩

theorem exactly_step {L : List Ext} {m : Nat} (h : L.length < m) : (L ++ [0]) ++ List.replicate (m - (L.length + 1)) 0 = L ++ List.replicate (m - L.length) 0 := by
  rw [List.append_assoc, show m - L.length = (m - (L.length + 1)) + 1 from by omega, List.replicate_succ]; rfl
set_option maxHeartbeats 1000000 in
theorem x_exactly (A : Option Addr) (n c : Nat) (l : List (Int × Int)) (m : Nat) (w : World) (hl : SlR w A n c l) (hm : m ≤ 1000) :
    Calls Tryz.prog 5 #[.slice A n c, .int .i64 m] w (RetOw w ((l.take m).map mkP ++ List.replicate (m - ((l.take m).map mkP).length) 0)) := by
  have n1 := hl.le; have n2 := hl.small
  have hL : ((l.take m).map mkP).length ≤ m := by simp; omega
  go_enter Tryz.func5, Tryz.ntmps5
  go_wp2_with fail
  refine (x_madeL A n c l m _ hl hm).mono ?_
  rintro e w1 ⟨v1, rfl, ho1, g1⟩
  generalize (l.take m).map mkP = L at *
  go_wp2_with fail
  go_loopw [5] (fun v wr => ∃ K : List Ext, K.length ≤ m ∧ Hid (K ++ List.replicate (m - K.length) 0 = L ++ List.replicate (m - L.length) 0) ∧ Ow wr w.heap.size v K ∧ (∃ A n c, v = .slice A n c) ∧ Gn w wr) (fun v _ => match v with | .slice _ n _ => m - n | _ => 0)
  case atStart => exact ⟨L, hL, Lib.hid rfl, ho1, (by obtain ⟨A, c, h, _⟩ := ho1.sl; exact ⟨_, _, _, h⟩), g1⟩
  case round =>
    obtain ⟨K, hK, HK, ho, ⟨A2, n2', c2, rfl⟩, hg⟩ := hrel
    obtain ⟨A3, c3, h3, hs⟩ := ho.sl
    obtain ⟨rfl, rfl, rfl⟩ : A2 = A3 ∧ n2' = K.length ∧ c2 = c3 := by injection h3 with a b c; exact ⟨a, b, c⟩
    have k1 := hs.le; have k2 := hs.small
    clear h3
    by_cases h1 : K.length < m
    · go_wp2_with (at_builtin; refine wpList_app (.tmp 13) (.tmp 15) rfl (ho.up (Gn.al _)) (by have := hg.size; simp; omega) rfl ((Blk.one (0)).sl (by simp)) (by simp; omega) ?_; intro v3 w3 ho3 hg3; have hg4 := grown_gn (hg.trans (Gn.al _)) (ho.up (Gn.al _)) (Nat.le_refl _) hg3; clear hg3)
      obtain ⟨A4, c4, h4, hs4⟩ := ho3.sl
      subst h4
      exact ⟨⟨K ++ [0], by simp; omega, Lib.hid (by rw [List.length_append]; exact (exactly_step h1).trans HK.out), ho3, ⟨_, _, _, rfl⟩, hg4⟩, by simp; omega⟩
    · go_wp2_with fail
      go_ret
      have e := HK.out
      rw [show m - K.length = 0 from by omega, List.replicate_zero, List.append_nil] at e
      rw [← e]
      exact ⟨_, rfl, ho, hg⟩
end Go.Proofs.YtgambglgkilgkaaGreatDoor

/- The walks of the reference of package poly: Add, Scale, Sub, Mul, Eval, DivRoot. -/
namespace Go.Proofs.YtgambglgkilgkaaGreatDoor
open Go.RowKit Att Att.CRing
theorem co_lt {l : List Ext} {i : Nat} {x : Ext} (h : l[i]? = some x) : co l i = x := co_at h
theorem co_ge {l : List Ext} {n i : Nat} (h : l.length = n) (hi : ¬ i < n) : co l i = 0 := co_big l i (by omega)
theorem padd_get {l k : List Ext} {i : Nat} (h : i < max l.length k.length) : (padd l k)[i]? = some (co l i + co k i) := by
  unfold padd tab; rw [List.getElem?_map, List.getElem?_range h]; rfl
theorem padd_len (l k : List Ext) : (padd l k).length = max l.length k.length := tab_length _ _

theorem psca_get {l : List Ext} {x y : Ext} {i : Nat} (h : l[i]? = some y) : (psca l x)[i]? = some (y * x) := by
  have hi : i < l.length := (List.getElem?_eq_some_iff.1 h).1
  unfold psca tab; rw [List.getElem?_map, List.getElem?_range hi, ← co_at h]; rfl
theorem psca_len (l : List Ext) (x : Ext) : (psca l x).length = l.length := tab_length _ _
theorem psub_eq (l k : List Ext) : trim (padd l (trim (psca k (int (-1))))) = trim (psub l k) := trim_ext (fun i => by
  rw [co_padd, co_trim, co_psca, co_psub, sub_eq]
  congr 1
  rw [int_neg, int_one, mul_neg, mul_one])
theorem ev_drop {l : List Ext} {i : Nat} {y : Ext} (h : l[i]? = some y) (x : Ext) : ev (l.drop i) x = ev (l.drop (i + 1)) x * x + y := by
  have hi : i < l.length := (List.getElem?_eq_some_iff.1 h).1
  have hy : l[i] = y := Option.some.inj ((List.getElem?_eq_getElem hi).symm.trans h)
  rw [List.drop_eq_getElem_cons hi, hy, ev_cons]
/-- three boxes of a function's own -/
structure Box3 (w wr : World) (x r v : Ext) : Prop where
  g : Gn w wr
  x : wr.heap[w.heap.size]? = some (.cells #[.int .u64 (Zm.i (Ext.a x)), .int .u64 (Zm.i (Ext.b x))] 30)
  r : wr.heap[w.heap.size + 1]? = some (.cells #[.int .u64 (Zm.i (Ext.a r)), .int .u64 (Zm.i (Ext.b r))] 30)
  v : wr.heap[w.heap.size + 2]? = some (.cells #[.int .u64 (Zm.i (Ext.a v)), .int .u64 (Zm.i (Ext.b v))] 30)
theorem Box3.up {w wr w2 : World} {x r v : Ext} (h : Box3 w wr x r v) (g : Gn wr w2) : Box3 w w2 x r v := ⟨h.g.trans g, g.block h.x, g.block h.r, g.block h.v⟩
theorem Box3.setV {w wr : World} {x r v : Ext} (h : Box3 w wr x r v) (u : Ext) : Box3 w (set2 wr (w.heap.size + 2) u) x r u :=
  ⟨set2_below h.g (by omega) u, set2_keep _ h.x (by omega), set2_keep _ h.r (by omega), set2_same h.v u⟩
theorem Box3.setR {w wr : World} {x r v : Ext} (h : Box3 w wr x r v) (u : Ext) : Box3 w (set2 wr (w.heap.size + 1) u) x u v :=
  ⟨set2_below h.g (by omega) u, set2_keep _ h.x (by omega), set2_same h.r u, set2_keep _ h.v (by omega)⟩
theorem Box3.start (w : World) (x : Ext) : Box3 w (((w.alloc (.cells #[.int .u64 (Zm.i (Ext.a x)), .int .u64 (Zm.i (Ext.b x))] 30)).alloc zeroExt).alloc zeroExt) x 0 0 := by
  have h1 := hnew w (.cells #[.int .u64 (Zm.i (Ext.a x)), .int .u64 (Zm.i (Ext.b x))] 30)
  have h2 := hnew (w.alloc (.cells #[.int .u64 (Zm.i (Ext.a x)), .int .u64 (Zm.i (Ext.b x))] 30)) zeroExt
  have h3 := hnew ((w.alloc (.cells #[.int .u64 (Zm.i (Ext.a x)), .int .u64 (Zm.i (Ext.b x))] 30)).alloc zeroExt) zeroExt
  simp only [World.size_alloc] at h2 h3
  exact ⟨((Gn.al _).trans (Gn.al _)).trans (Gn.al _), ((Gn.al _).trans (Gn.al _)).block h1, (Gn.al _).block h2, h3⟩
end Go.Proofs.YtgambglgkilgkaaGreatDoor

/- The walk of the reference's product. -/
namespace Go.Proofs.YtgambglgkilgkaaGreatDoor
open Go.RowKit Att Att.CRing

end Go.Proofs.YtgambglgkilgkaaGreatDoor

/- The walks of package poly: Mul, combine and what leans on it. -/
namespace Go.Proofs.YtgambglgkilgkaaGreatDoor
open Go.RowKit Att Att.CRing

end Go.Proofs.YtgambglgkilgkaaGreatDoor

/- The walks of package poly: combine and what leans on it. -/
namespace Go.Proofs.YtgambglgkilgkaaGreatDoor
open Go.RowKit Att Att.CRing

def comb (G : Ext → Ext → Ext) (l k : List Ext) : List Ext := tab (max l.length k.length) fun i => G (co l i) (co k i)
theorem comb_get (G : Ext → Ext → Ext) {l k : List Ext} {i : Nat} (h : i < max l.length k.length) : (comb G l k)[i]? = some (G (co l i) (co k i)) := by
  unfold comb tab; rw [List.getElem?_map, List.getElem?_range h]; rfl
theorem comb_len (G : Ext → Ext → Ext) (l k : List Ext) : (comb G l k).length = max l.length k.length := tab_length _ _
theorem two_boxes (w : World) : ((w.alloc zeroExt).alloc zeroExt).heap[w.heap.size]? = some zeroExt ∧ ((w.alloc zeroExt).alloc zeroExt).heap[w.heap.size + 1]? = some zeroExt := by
  have h1 := hnew w zeroExt
  have h2 := hnew (w.alloc zeroExt) zeroExt
  simp only [World.size_alloc] at h2
  exact ⟨(Gn.al _).block h1, h2⟩
set_option maxHeartbeats 4000000 in
theorem p_combSub (A B : Option Addr) (n c m d : Nat) (l k : List Ext)  (w : World) (hl : Sl w A n c l) (hk : Sl w B m d k) (hn : n ≤ 1000000) (hm : m ≤ 1000000)  :
    Calls Tryz.prog 17 #[.slice A n c, .slice B m d, .func (.func 18) #[] #[]] w (RetSl w (trim (comb (fun x y => x - y) l k))) := by
  have HC := fun (x y : Ext) (w : World) => e_sub x y w
  have l1 := Lib.hid hl.len
  have k1 := Lib.hid hk.len
  obtain ⟨N, hN⟩ : ∃ N, N = max n m := ⟨_, rfl⟩
  have hNn : n ≤ N := by omega
  have hNm : m ≤ N := by omega
  have hN6 : N ≤ 1000000 := by omega
  have HN := Lib.hid hN; clear hN
  have hres : (comb (fun x y => x - y) l k).length = N := by rw [comb_len, l1.out, k1.out, HN.out]
  have HR := Lib.hid hres; clear hres
  rcases Nat.lt_or_ge n m with hnm | hnm
  · go_enter Tryz.func17, Tryz.ntmps17
    go_wp2_with (at_make; refine wpList_mk (.tmp 15) (.tmp 15) N (congrArg (Value.int .i64) (by have := HN.out; omega)) (congrArg (Value.int .i64) (by have := HN.out; omega)) (by omega) ?_)
    go_loopw [19] (fun v wr => ∃ i : Nat, i ≤ N ∧ v = .int .i64 i ∧ Blk wr w.heap.size (Fi (comb (fun x y => x - y) l k) i) ∧ Gn w wr) (fun v _ => N - (intOf v).toNat)
    case atStart => exact ⟨0, by omega, rfl, by rw [Fi_zero, HR.out]; exact hnew w _, Gn.al _⟩
    case round =>
      obtain ⟨i, hi, rfl, hB, hg⟩ := hrel
      by_cases hlt : i < N
      · have hget : (comb (fun x y => x - y) l k)[i]? = some ((fun x y => x - y) (co l i) (co k i)) := comb_get _ (by rw [l1.out, k1.out, ← HN.out]; exact hlt)
        have HG := Lib.hid hget; clear hget
        have hil := Lib.hid (show i < (Fi (comb (fun x y => x - y) l k) i).length by rw [Fi_length _ (by rw [HR.out]; exact hi), HR.out]; exact hlt)
        have H0 := Lib.hid (Fi_get (comb (fun x y => x - y) l k) (i := i) (by rw [HR.out]; exact hlt))
        by_cases h1 : i < n
        · obtain ⟨b, o, x, rfl, hx, q1, q2, q3⟩ := (hl.up hg).at_ h1
          have HX := Lib.hid (co_at hx); clear hx
          by_cases h2 : i < m
          · obtain ⟨b', o', y, rfl, hy, r1, r2, r3⟩ := (hk.up hg).at_ h2
            have HY := Lib.hid (co_at hy); clear hy
            go_wp2_with fail
            refine (HC x y _).mono ?_
            rintro e w2 ⟨rfl, g2⟩
            have gA := ((Gn.al (w := wr) _).trans (Gn.al _)).trans g2
            have hB2 := hB.up gA
            obtain ⟨c1, c2⟩ := hB2.cell H0.out
            have c3 := blk_lt hB2
            have z1 := box_fz (i := i * 2) hB2
            have z2 := box_fz (i := i * 2 + 1) hB2
            have hB' := hB2.set hil.out ((fun x y => x - y) (x) (y))
            have hg' := setE_below (hg.trans gA) (Nat.le_refl _) (i := i) ((fun x y => x - y) (x) (y))
            clear gA g2
            go_wp2_with fail
            refine ⟨⟨i + 1, by omega, by go_num, ?_, hg'⟩, by simp [intOf]; omega⟩
            rw [← Fi_set HG.out, HX.out]; try rw [HY.out]
            exact hB'
          · exfalso; omega
        · by_cases h2 : i < m
          · obtain ⟨b', o', y, rfl, hy, r1, r2, r3⟩ := (hk.up hg).at_ h2
            have HY := Lib.hid (co_at hy); clear hy
            have HX := Lib.hid (co_ge l1.out h1)
            go_wp2_with fail
            refine (HC 0 y _).mono ?_
            rintro e w2 ⟨rfl, g2⟩
            have gA := ((Gn.al (w := wr) _).trans (Gn.al _)).trans g2
            have hB2 := hB.up gA
            obtain ⟨c1, c2⟩ := hB2.cell H0.out
            have c3 := blk_lt hB2
            have z1 := box_fz (i := i * 2) hB2
            have z2 := box_fz (i := i * 2 + 1) hB2
            have hB' := hB2.set hil.out ((fun x y => x - y) (0) (y))
            have hg' := setE_below (hg.trans gA) (Nat.le_refl _) (i := i) ((fun x y => x - y) (0) (y))
            clear gA g2
            go_wp2_with fail
            refine ⟨⟨i + 1, by omega, by go_num, ?_, hg'⟩, by simp [intOf]; omega⟩
            rw [← Fi_set HG.out, HX.out]; try rw [HY.out]
            exact hB'
          · exfalso
            have := HN.out
            omega
      · obtain rfl : i = N := by omega
        have e := Lib.hid (Fi_end (comb (fun x y => x - y) l k))
        have hS : Sl wr (some ⟨w.heap.size, 0, none⟩) i i (comb (fun x y => x - y) l k) := by
          have h := hB.sl (by rw [Fi_length _ (by rw [HR.out]; exact Nat.le_refl _), HR.out]; omega)
          rw [Fi_length _ (by rw [HR.out]; exact Nat.le_refl _), HR.out] at h
          have e2 : Fi (comb (fun x y => x - y) l k) i = comb (fun x y => x - y) l k := by have := e.out; rwa [HR.out] at this
          rwa [e2] at h
        go_wp2_with fail
        refine (p_trim _ _ _ _ _ hS (by omega)).mono ?_
        rintro e w' ⟨A', n', c', rfl, hs, hg'⟩
        go_wp2_with fail
        go_ret
        exact ⟨A', n', c', rfl, hs, hg.trans hg'⟩
  · go_enter Tryz.func17, Tryz.ntmps17
    go_wp2_with (at_make; refine wpList_mk (.tmp 15) (.tmp 15) N (congrArg (Value.int .i64) (by have := HN.out; omega)) (congrArg (Value.int .i64) (by have := HN.out; omega)) (by omega) ?_)
    go_loopw [19] (fun v wr => ∃ i : Nat, i ≤ N ∧ v = .int .i64 i ∧ Blk wr w.heap.size (Fi (comb (fun x y => x - y) l k) i) ∧ Gn w wr) (fun v _ => N - (intOf v).toNat)
    case atStart => exact ⟨0, by omega, rfl, by rw [Fi_zero, HR.out]; exact hnew w _, Gn.al _⟩
    case round =>
      obtain ⟨i, hi, rfl, hB, hg⟩ := hrel
      by_cases hlt : i < N
      · have hget : (comb (fun x y => x - y) l k)[i]? = some ((fun x y => x - y) (co l i) (co k i)) := comb_get _ (by rw [l1.out, k1.out, ← HN.out]; exact hlt)
        have HG := Lib.hid hget; clear hget
        have hil := Lib.hid (show i < (Fi (comb (fun x y => x - y) l k) i).length by rw [Fi_length _ (by rw [HR.out]; exact hi), HR.out]; exact hlt)
        have H0 := Lib.hid (Fi_get (comb (fun x y => x - y) l k) (i := i) (by rw [HR.out]; exact hlt))
        by_cases h1 : i < n
        · obtain ⟨b, o, x, rfl, hx, q1, q2, q3⟩ := (hl.up hg).at_ h1
          have HX := Lib.hid (co_at hx); clear hx
          by_cases h2 : i < m
          · obtain ⟨b', o', y, rfl, hy, r1, r2, r3⟩ := (hk.up hg).at_ h2
            have HY := Lib.hid (co_at hy); clear hy
            go_wp2_with fail
            refine (HC x y _).mono ?_
            rintro e w2 ⟨rfl, g2⟩
            have gA := ((Gn.al (w := wr) _).trans (Gn.al _)).trans g2
            have hB2 := hB.up gA
            obtain ⟨c1, c2⟩ := hB2.cell H0.out
            have c3 := blk_lt hB2
            have z1 := box_fz (i := i * 2) hB2
            have z2 := box_fz (i := i * 2 + 1) hB2
            have hB' := hB2.set hil.out ((fun x y => x - y) (x) (y))
            have hg' := setE_below (hg.trans gA) (Nat.le_refl _) (i := i) ((fun x y => x - y) (x) (y))
            clear gA g2
            go_wp2_with fail
            refine ⟨⟨i + 1, by omega, by go_num, ?_, hg'⟩, by simp [intOf]; omega⟩
            rw [← Fi_set HG.out, HX.out]; try rw [HY.out]
            exact hB'
          · have HY := Lib.hid (co_ge k1.out h2)
            go_wp2_with fail
            refine (HC x 0 _).mono ?_
            rintro e w2 ⟨rfl, g2⟩
            have gA := ((Gn.al (w := wr) _).trans (Gn.al _)).trans g2
            have hB2 := hB.up gA
            obtain ⟨c1, c2⟩ := hB2.cell H0.out
            have c3 := blk_lt hB2
            have z1 := box_fz (i := i * 2) hB2
            have z2 := box_fz (i := i * 2 + 1) hB2
            have hB' := hB2.set hil.out ((fun x y => x - y) (x) (0))
            have hg' := setE_below (hg.trans gA) (Nat.le_refl _) (i := i) ((fun x y => x - y) (x) (0))
            clear gA g2
            go_wp2_with fail
            refine ⟨⟨i + 1, by omega, by go_num, ?_, hg'⟩, by simp [intOf]; omega⟩
            rw [← Fi_set HG.out, HX.out]; try rw [HY.out]
            exact hB'
        · by_cases h2 : i < m
          · exfalso; omega
          · exfalso
            have := HN.out
            omega
      · obtain rfl : i = N := by omega
        have e := Lib.hid (Fi_end (comb (fun x y => x - y) l k))
        have hS : Sl wr (some ⟨w.heap.size, 0, none⟩) i i (comb (fun x y => x - y) l k) := by
          have h := hB.sl (by rw [Fi_length _ (by rw [HR.out]; exact Nat.le_refl _), HR.out]; omega)
          rw [Fi_length _ (by rw [HR.out]; exact Nat.le_refl _), HR.out] at h
          have e2 : Fi (comb (fun x y => x - y) l k) i = comb (fun x y => x - y) l k := by have := e.out; rwa [HR.out] at this
          rwa [e2] at h
        go_wp2_with fail
        refine (p_trim _ _ _ _ _ hS (by omega)).mono ?_
        rintro e w' ⟨A', n', c', rfl, hs, hg'⟩
        go_wp2_with fail
        go_ret
        exact ⟨A', n', c', rfl, hs, hg.trans hg'⟩

theorem p_subL (A B : Option Addr) (n c m d : Nat) (l k : List Ext) (w : World) (hl : Sl w A n c l) (hk : Sl w B m d k) (hn : n ≤ 1000000) (hm : m ≤ 1000000) :
    Calls Tryz.prog 7 #[.slice A n c, .slice B m d] w (RetSl w (trim (psub l k))) := by
  go_enter Tryz.func7, Tryz.ntmps7
  go_wp2_with fail
  refine (p_combSub A B n c m d l k _ hl hk hn hm).mono ?_
  rintro e w2 ⟨A', n', c', rfl, hs, g2⟩
  go_wp2_with fail
  go_ret
  exact ⟨A', n', c', rfl, hs, g2⟩
theorem comb_sca (l : List Ext) (c : Ext) : comb (fun x _ => x * c) l [] = psca l c := by
  unfold comb psca
  simp only [List.length_nil, Nat.max_zero]
end Go.Proofs.YtgambglgkilgkaaGreatDoor
