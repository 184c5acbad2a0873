/- The walks of package reedsolomon: EncodeExt, At, Is. -/
import Derived.Test.YtbfblckgcefaaaaGreatDoorRw2
import Derived.Test.YtbfblckgcefaaaaGreatDoorGm
namespace Go.Proofs.YtbfblckgcefaaaaGreatDoor
open Go.RowKit Att Att.CRing
def zipE (a b : List F) : List Ext := tab a.length fun i => ⟨co a i, co b i⟩
theorem zipE_length (a b : List F) : (zipE a b).length = a.length := tab_length _ _
theorem zipE_get {a b : List F} {i : Nat} {x y : F} (hx : a[i]? = some x) (hy : b[i]? = some y) : (zipE a b)[i]? = some ⟨x, y⟩ := by
  unfold zipE tab
  rw [List.getElem?_map, List.getElem?_range (List.getElem?_eq_some_iff.1 hx).1]
  show some (⟨co a i, co b i⟩ : Ext) = some ⟨x, y⟩
  rw [coF_get hx, coF_get hy]
open Classical in
noncomputable def encE (l : List Ext) (b : Int) : List Ext × Int := if vrow l.length b then (zipE (encOf (partA l) b).1 (encOf (partB l) b).1, 0) else ([], 1)
structure RetE (e : Ending) (w w' : World) (r : List Ext × Int) : Prop where
  ex : ∃ A c, e = .returned (.tuple #[.slice A r.1.length c, .int .i64 r.2]) ∧ Sl w' A r.1.length c r.1
  g : Gn w w'
theorem RetE.get {e : Ending} {w w' : World} {l : List Ext} {z : Int} {n : Nat} (h : RetE e w w' (l, z)) (hn : l.length = n) : ∃ A c, e = .returned (.tuple #[.slice A n c, .int .i64 z]) ∧ Sl w' A n c l ∧ Gn w w' := by
  obtain ⟨⟨A, c, rfl, hs⟩, g⟩ := h
  subst hn
  exact ⟨A, c, rfl, hs, g⟩
theorem zip_set {A : List F} {B : List F} {i : Nat} {x y : F} (hx : A[i]? = some x) (hy : B[i]? = some y) : (Fi (zipE A B) i).set i ⟨x, y⟩ = Fi (zipE A B) (i + 1) := Fi_set (zipE_get hx hy)
open Classical in
set_option maxHeartbeats 4000000 in
theorem s_encodeExt (A : Option Addr) (n c : Nat) (l : List Ext) (b : Int) (w : World) (hT : Tab w) (hl : Sl w A n c l) (hn : n ≤ 1000000) (hb : b ≤ 9223372036854775807) :
    Calls Tryz.prog 16 #[.slice A n c, .int .i64 b] w fun e w' => RetE e w w' (encE l b) := by
  have la : (partA l).length = n := by rw [partA_length, hl.len]
  have lb : (partB l).length = n := by rw [partB_length, hl.len]
  by_cases hv : vrow n b
  · have e0 : encE l b = (zipE (encOf (partA l) b).1 (encOf (partB l) b).1, 0) := by unfold encE; rw [if_pos (by rw [hl.len]; exact hv)]
    rw [e0]
    clear e0
    obtain ⟨a, m, m1, m4, ha, rfl, ham⟩ := hv
    rw [encOf_pow (la.trans ha) m1 m4 ham, encOf_pow (lb.trans ha) m1 m4 ham]
    have Ea := encOf_pow (la.trans ha) m1 m4 ham
    have Eb := encOf_pow (lb.trans ha) m1 m4 ham
    have h1 := valP_length (partA l) (root (a + m)) (2 ^ (a + m))
    have h2 := valP_length (partB l) (root (a + m)) (2 ^ (a + m))
    have hp := pow_lt ham
    rw [cast_pow] at *
    clear ha
    show Calls _ _ _ _ fun e w' => RetE e w w' (zipE (valP (partA l) (root (a + m)) (2 ^ (a + m))) (valP (partB l) (root (a + m)) (2 ^ (a + m))), 0)
    generalize valP (partA l) (root (a + m)) (2 ^ (a + m)) = PA at *
    generalize valP (partB l) (root (a + m)) (2 ^ (a + m)) = PB at *
    generalize 2 ^ (a + m) = N at *
    generalize 2 ^ m = B at *
    obtain ⟨Z, hZ⟩ : ∃ Z, Z = zipE PA PB := ⟨_, rfl⟩
    have lz : Z.length = N := by rw [hZ, zipE_length, h1]
    rw [← hZ]
    replace la := Lib.hid la; replace lb := Lib.hid lb; replace Ea := Lib.hid Ea; replace Eb := Lib.hid Eb; replace h1 := Lib.hid h1; replace h2 := Lib.hid h2; replace lz := Lib.hid lz; replace hZ := Lib.hid hZ
    go_enter Tryz.func16, Tryz.ntmps16
    go_wp2_with fail
    refine (s_compA A n c l _ hl hn).mono ?_
    rintro e w1 ⟨rfl, hB1, g1⟩
    have s1 := hB1.sf (by rw [la.out]; omega)
    rw [la.out] at s1
    clear hB1
    go_wp2_with fail
    refine (s_encode _ _ _ _ _ _ (hT.up g1) s1 hn hb).mono ?_
    rintro e w2 hR
    rw [Ea.out] at hR
    obtain ⟨Aa, ca, rfl, ha, g⟩ := hR.get h1.out
    replace g1 := g1.trans g
    clear g s1 hR
    go_wp2_with fail
    refine (s_compB A n c l _ (hl.up g1) hn).mono ?_
    rintro e w3 ⟨rfl, hB3, g3⟩
    have s3 := hB3.sf (by rw [lb.out]; omega)
    rw [lb.out] at s3
    replace ha := ha.up g3
    replace g1 := g1.trans g3
    clear hB3 g3
    go_wp2_with fail
    refine (s_encode _ _ _ _ _ _ (hT.up g1) s3 hn hb).mono ?_
    rintro e w4 hR
    rw [Eb.out] at hR
    obtain ⟨Ab, cb, rfl, hbb, g⟩ := hR.get h2.out
    replace g1 := g1.trans g
    replace ha := ha.up g
    clear g s3 hR hl hT
    go_wp2_with (at_make; refine wpList_mk (.tmp 32) (.tmp 32) N rfl rfl (by omega) ?_)
    have hb0 : Blk (w4.alloc (.cells (fl (List.replicate N 0)).toArray 41)) w4.heap.size (Fi Z 0) := by rw [Fi_zero, lz.out]; exact hnew w4 _
    have hg0 : Gn w4 (w4.alloc (.cells (fl (List.replicate N 0)).toArray 41)) := Gn.al _
    generalize w4.alloc (.cells (fl (List.replicate N 0)).toArray 41) = w5 at *
    go_loopw [36] (fun v wr => ∃ i : Nat, i ≤ N ∧ v = .int .i64 i ∧ Blk wr w4.heap.size (Fi Z i) ∧ Gn w4 wr) (fun v _ => N - (intOf v).toNat)
    case atStart => exact ⟨0, by omega, rfl, hb0, hg0⟩
    case round =>
      clear hb0 hg0
      obtain ⟨i, hi, rfl, hr, hg⟩ := hrel
      by_cases hlt : i < N
      · have ha2 := ha.up hg; have hb2 := hbb.up hg
        obtain ⟨b1, o1, x, E1, hx, p1, q1⟩ := ha2.at_ hlt
        obtain ⟨b2, o2, y, E2, hy, p2, q2⟩ := hb2.at_ hlt
        subst E1 E2
        have hst := Lib.hid (zip_set hx hy)
        rw [← hZ.out] at hst
        have hil := Lib.hid (show i < (Fi Z i).length by rw [Fi_length _ (by rw [lz.out]; exact hi), lz.out]; exact hlt)
        have h0 := Fi_get Z (i := i) (by rw [lz.out]; exact hlt)
        clear hx hy ha2 hb2 ha hbb
        generalize Fi Z i = M at *
        obtain ⟨c1, c2⟩ := hr.cell h0
        have c3 := blk_lt hr
        clear h0
        go_wp2_with fail
        try simp only [List.append_eq, List.cons_append, List.nil_append]
        refine Fk.wp_region_flow 12 (by kernel_rfl) (by kernel_rfl) ?_
        refine Fk.flow_one rfl (freeB_spec (by kernel_rfl)) ?_
        go_big_quiet_step (fail)
        refine wpQuiet_nil ?_
        refine Fk.flow_one rfl (freeB_spec (by kernel_rfl)) ?_
        go_big_quiet_step (fail)
        refine wpQuiet_nil ?_
        refine Fk.flow_one rfl (freeB_spec (by kernel_rfl)) ?_
        go_big_quiet_step (fail)
        refine wpQuiet_nil ?_
        refine Fk.flow_one rfl (freeB_spec (by kernel_rfl)) ?_
        go_big_quiet_step (fail)
        refine wpQuiet_nil ?_
        refine Fk.flow_one rfl (freeB_spec (by kernel_rfl)) ?_
        go_big_quiet_step (fail)
        refine wpQuiet_nil ?_
        refine Fk.flow_one rfl (freeB_spec (by kernel_rfl)) ?_
        go_big_quiet_step (fail)
        refine wpQuiet_nil ?_
        refine Fk.flow_one rfl (freeB_spec (by kernel_rfl)) ?_
        go_big_quiet_step (fail)
        refine wpQuiet_nil ?_
        refine Fk.flow_one rfl (freeB_spec (by kernel_rfl)) ?_
        go_big_quiet_step (fail)
        refine wpQuiet_nil ?_
        refine Fk.flow_one rfl (freeB_spec (by kernel_rfl)) ?_
        go_big_quiet_step (fail)
        refine wpQuiet_nil ?_
        refine Fk.flow_one rfl (freeB_spec (by kernel_rfl)) ?_
        go_big_quiet_step (fail)
        refine wpQuiet_nil ?_
        refine Fk.flow_one rfl (freeB_spec (by kernel_rfl)) ?_
        go_big_quiet_step (fail)
        refine wpQuiet_nil ?_
        refine Fk.flow_one rfl (freeB_spec (by kernel_rfl)) ?_
        go_big_quiet_step (fail)
        refine wpQuiet_nil ?_
        intro V N' X hΓ hdis g hX
        clear hΓ hdis hX
        have hgn : Gn wr (gr wr g) := ⟨g, rfl⟩
        generalize gr wr g = w6 at *
        conv => arg 5; simp only [fill, Act.put, List.setIfInBounds_toArray, List.set_cons_succ, List.set_cons_zero]
        have hB6 := hr.up hgn
        refine tail_storeE (b := w4.heap.size) (i := i) (x := ⟨x, y⟩) rfl rfl hB6 hil.out ?_
        refine wpList_nil ?_
        have hB7 := hB6.set hil.out ⟨x, y⟩
        have hg7 := setE_below (hg.trans hgn) (Nat.le_refl _) (i := i) ⟨x, y⟩
        rw [hst.out] at hB7
        clear hB6 hr hg hgn p1 q1 p2 q2 c1 c2 c3
        generalize setE w6 w4.heap.size i ⟨x, y⟩ = w7 at *
        go_wp2_with fail
        exact ⟨⟨i + 1, by omega, by go_num, hB7, hg7⟩, by simp [intOf]; omega⟩
      · obtain rfl : i = N := by omega
        have he := Fi_end Z
        rw [lz.out] at he
        rw [he] at hr
        clear he
        have hs := hr.sl (by rw [lz.out]; omega)
        rw [lz.out] at hs
        go_wp2_with fail
        go_ret2
        refine ⟨⟨some ⟨w4.heap.size, 0, none⟩, i, ?_, ?_⟩, g1.trans hg⟩
        · simp [lz.out]
        · rw [lz.out]; exact hs
  · have e0 : encE l b = ([], 1) := by unfold encE; rw [if_neg (by rw [hl.len]; exact hv)]
    rw [e0]
    have Ea := encOf_bad (l := partA l) (b := b) (by rw [la]; exact hv)
    replace la := Lib.hid la; replace Ea := Lib.hid Ea
    clear e0 hv lb
    go_enter Tryz.func16, Tryz.ntmps16
    go_wp2_with fail
    refine (s_compA A n c l _ hl hn).mono ?_
    rintro e w1 ⟨rfl, hB1, g1⟩
    have s1 := hB1.sf (by rw [la.out]; omega)
    rw [la.out] at s1
    go_wp2_with fail
    refine (s_encode _ _ _ _ _ _ (hT.up g1) s1 hn hb).mono ?_
    rintro e w2 hR
    rw [Ea.out] at hR
    obtain ⟨Aa, ca, rfl, ha, g⟩ := hR.get (n := 0) rfl
    go_wp2_with fail
    go_ret2
    exact ⟨⟨none, 0, rfl, Sl.nil _⟩, g1.trans g⟩

/- ───── Is ───── -/
theorem s_is1 (x : F) (hx : x = 0) (w : World) : Calls Tryz.prog 56 #[.int .u64 (Zm.i (x))] w fun e w' => e = .returned (.bool false) ∧ w = w' := by
  subst hx
  have hz : Zm.i (0 : F) = 0 := i_zero
  rw [hz]
  go_enter Tryz.func56, Tryz.ntmps56
  go_wp2_with fail
  go_ret
  exact ⟨rfl, rfl⟩
theorem s_is2 (x : F) (hx : x ≠ 0) (w : World) : Calls Tryz.prog 56 #[.int .u64 (Zm.i (x))] w fun e w' => e = .returned (.bool true) ∧ w = w' := by
  have hz : ¬ Zm.i x = 0 := fun e => hx (i_inj (by rw [e, i_zero]))
  have b1 : (Zm.i x == 0) = false := by simp [hz]
  have b2 : (Zm.i x != 0) = true := by simp [hz]
  go_enter Tryz.func56, Tryz.ntmps56
  go_wp2_with fail
  go_ret
  exact ⟨rfl, rfl⟩
/-- where the first place that is not zero lies -/
def NzAt (l : List F) (r : Int) : Prop := (r = -1 ∧ ∀ j, j < l.length → co l j = 0) ∨ (0 ≤ r ∧ ∃ j, j < l.length ∧ co l j ≠ 0)
theorem s_indexFunc (A : Option Addr) (n c : Nat) (l : List F) (w : World) (hl : SF w A n c l) (hn : n ≤ 1000000) :
    Calls Tryz.prog 88 #[.slice A n c, .func (.func 56) #[] #[]] w fun e w' => ∃ r, e = .returned (.int .i64 r) ∧ NzAt l r ∧ Gn w w' := by
  have l1 := Lib.hid hl.len
  go_enter Tryz.func88, Tryz.ntmps88
  go_wp2_with fail
  go_loopw [8] (fun v wr => ∃ i : Nat, i ≤ n ∧ v = .int .i64 i ∧ (∀ j, j < i → co l j = 0) ∧ Gn w wr) (fun v _ => n - (intOf v).toNat)
  case atStart => exact ⟨0, by omega, rfl, fun j hj => by omega, Gn.refl _⟩
  case round =>
    obtain ⟨i, hi, rfl, hz, hg⟩ := hrel
    replace hz := Lib.hid hz
    by_cases hlt : i < n
    · have hl2 := hl.up hg
      obtain ⟨b1, o1, x, E1, hx, p1, q1⟩ := hl2.at_ hlt
      subst E1
      have hc := coF_get hx
      clear hx hl2
      by_cases h0 : x = 0
      · have hC := s_is1 x h0
        have hz2 := Lib.hid (show ∀ j, j < i + 1 → co l j = 0 from fun j hj => by
          by_cases e : j = i
          · rw [e, hc, h0]
          · exact hz.out j (by omega))
        clear hc h0
        go_wp2_with fail
        refine (hC _).mono ?_
        rintro e w2 ⟨rfl, rfl⟩
        go_wp2_with fail
        exact ⟨⟨i + 1, by omega, by go_num, hz2.out, hg⟩, by simp [intOf]; omega⟩
      · have hC := s_is2 x h0
        have hN := Lib.hid (show NzAt l (i : Int) from .inr ⟨by omega, i, by rw [l1.out]; exact hlt, by rw [hc]; exact h0⟩)
        clear hc h0
        go_wp2_with fail
        refine (hC _).mono ?_
        rintro e w2 ⟨rfl, rfl⟩
        go_wp2_with fail
        go_ret
        exact ⟨_, rfl, hN.out, hg⟩
    · obtain rfl : i = n := by omega
      have hN := Lib.hid (show NzAt l (-1) from .inl ⟨rfl, fun j hj => hz.out j (by rw [l1.out] at hj; exact hj)⟩)
      go_wp2_with fail
      go_ret
      exact ⟨_, rfl, hN.out, hg⟩
open Classical in
theorem s_contains (A : Option Addr) (n c : Nat) (l : List F) (w : World) (hl : SF w A n c l) (hn : n ≤ 1000000) :
    Calls Tryz.prog 55 #[.slice A n c, .func (.func 56) #[] #[]] w fun e w' => e = .returned (.bool (decide (∃ j, j < l.length ∧ co l j ≠ 0))) ∧ Gn w w' := by
  have hI := s_indexFunc A n c l w hl hn
  clear hl
  by_cases hq : ∃ j, j < l.length ∧ co l j ≠ 0
  · rw [decide_eq_true hq]
    replace hq := Lib.hid hq
    go_enter Tryz.func55, Tryz.ntmps55
    go_wp2_with fail
    refine hI.mono ?_
    rintro e w2 ⟨r, rfl, hN, g⟩
    have h0 : 0 ≤ r := by
      rcases hN with ⟨_, h⟩ | ⟨h0, _⟩
      · obtain ⟨j, h1, h2⟩ := hq.out
        exact absurd (h j h1) h2
      · exact h0
    clear hN
    have b1 : decide (0 ≤ r) = true := decide_eq_true h0
    go_wp2_with fail
    go_ret
    exact ⟨rfl, g⟩
  · rw [decide_eq_false hq]
    replace hq := Lib.hid hq
    go_enter Tryz.func55, Tryz.ntmps55
    go_wp2_with fail
    refine hI.mono ?_
    rintro e w2 ⟨r, rfl, hN, g⟩
    have h0 : r = -1 := by
      rcases hN with ⟨h, _⟩ | ⟨_, h⟩
      · exact h
      · exact absurd h hq.out
    subst h0
    clear hN
    go_wp2_with fail
    go_ret
    exact ⟨rfl, g⟩
theorem SF.drop {w : World} {b o n c : Nat} {l : List F} (h : SF w (some ⟨b, o, none⟩) n c l) {k : Nat} (hk : k ≤ n) : SF w (some ⟨b, o + k, none⟩) (n - k) (c - k) (l.drop k) :=
  ⟨by rw [List.length_drop, h.len], by have := h.le; omega, by have := h.small; omega, fun hn => by
    obtain ⟨b', o', e, hb, hc⟩ := h.cells (by omega)
    cases e
    exact ⟨b, o + k, rfl, hb, fun i x hx => by
      rw [List.getElem?_drop] at hx
      have := hc (k + i) x hx
      rwa [← Nat.add_assoc] at this⟩⟩
/-- the word is a codeword's -/
def isCode (n k : Nat) (u : F) (y : Nat → F) : Prop := ∃ row : List F, row.length = k ∧ ∀ i, i < n → cw row u i = y i
theorem code_tail {l : List F} {N a : Nat} (hl : l.length = 2 ^ N) (hN : N ≤ 16) (ha : a ≤ N) : isCode (2 ^ N) (2 ^ a) (root N) (co l) ↔ ∀ j, j < ((invOf l).1.drop (2 ^ a)).length → co ((invOf l).1.drop (2 ^ a)) j = 0 := by
  have hlen := invOf_length hl hN
  have hle : 2 ^ a ≤ 2 ^ N := Nat.pow_le_pow_right (by omega) ha
  have hco : ∀ j, co ((invOf l).1.drop (2 ^ a)) j = co (invOf l).1 (2 ^ a + j) := fun j => by
    unfold co
    rw [List.getD_eq_getElem?_getD, List.getD_eq_getElem?_getD, List.getElem?_drop]
  have hv : ∀ i, i < 2 ^ N → ev (invOf l).1 (pw (root N) i) = co l i := by
    intro i hi
    have h := fwd_inv hl hN
    rw [fwdOf_pow hlen hN] at h
    have h2 := congrArg (fun r => co r.1 i) h
    rwa [show co (valP (invOf l).1 (root N) (2 ^ N), (0 : Int)).1 i = co (valP (invOf l).1 (root N) (2 ^ N)) i from rfl, co_valP _ _ _ _ hi] at h2
  constructor
  · rintro ⟨row, hr, he⟩ j hj
    rw [hco, co_big row (2 ^ a + j) (by omega) |>.symm]
    refine interp_unique (n := 2 ^ N) (xs := (List.range (2 ^ N)).map (pw (root N))) (Nat.le_of_eq hlen) (by omega) (by simp) (Dif.nodup (root_prim N (by omega)).dif List.nodup_range (fun i hi => List.mem_range.1 hi)) ?_ _
    intro z hz
    obtain ⟨i, hi, rfl⟩ := List.mem_map.1 hz
    rw [hv i (List.mem_range.1 hi)]
    exact (he i (List.mem_range.1 hi)).symm
  · intro h
    refine ⟨(invOf l).1.take (2 ^ a), by rw [List.length_take]; omega, fun i hi => ?_⟩
    unfold cw
    rw [← hv i hi]
    refine ev_of_co (fun t => ?_) _
    by_cases ht : t < 2 ^ a
    · unfold co
      rw [List.getD_eq_getElem?_getD, List.getD_eq_getElem?_getD, List.getElem?_take_of_lt ht]
    · rw [co_big _ t (by rw [List.length_take]; omega)]
      by_cases h2 : t < 2 ^ N
      · have := h (t - 2 ^ a) (by rw [List.length_drop]; omega)
        rw [hco, show 2 ^ a + (t - 2 ^ a) = t from by omega] at this
        exact this.symm
      · rw [co_big _ t (by omega)]
open Classical in
/-- Is: the answer for a word of length 2^(a+m) at the rate 2^m -/
theorem s_is (A : Option Addr) (c : Nat) (l : List F) (a m : Nat) (w : World) (hT : Tab w) (m1 : 1 ≤ m) (m4 : m ≤ 4) (ham : a + m ≤ 16) (hl : SF w A (2 ^ (a + m)) c l) :
    Calls Tryz.prog 20 #[.slice A (2 ^ (a + m) : Nat) c, .int .i64 (2 ^ m : Nat)] w fun e w' => e = .returned (.tuple #[.bool (decide (isCode (2 ^ (a + m)) (2 ^ a) (root (a + m)) (co l))), .int .i64 0]) ∧ Gn w w' := by
  have hp := pow_lt ham
  have hV := s_validWord A (2 ^ (a + m)) c ((2 ^ m : Nat) : Int) w (by omega) (by have := pow_16 m4; omega)
  rw [decide_eq_true (show vword (2 ^ (a + m)) ((2 ^ m : Nat) : Int) from ⟨a, m, m1, m4, rfl, (cast_pow m).symm, ham⟩)] at hV
  have hi := invOf_length hl.len ham
  obtain ⟨v, hv⟩ : ∃ v, invOf l = (v, 0) := ⟨(invOf l).1, by rw [invOf_pow hl.len ham]⟩
  have e : decide (isCode (2 ^ (a + m)) (2 ^ a) (root (a + m)) (co l)) = !decide (∃ j, j < (v.drop (2 ^ a)).length ∧ co (v.drop (2 ^ a)) j ≠ 0) := by
    have h := code_tail hl.len ham (show a ≤ a + m by omega)
    rw [hv] at h
    rw [Bool.eq_iff_iff]
    simp only [decide_eq_true_eq, Bool.not_eq_true', decide_eq_false_iff_not, not_exists, not_and, Classical.not_not]
    exact h
  rw [e]
  rw [hv] at hi
  have hq1 : Int.tdiv ((2 ^ (a + m) : Nat) : Int) ((2 ^ m : Nat) : Int) = ((2 ^ a : Nat) : Int) := by
    rw [Int.tdiv_eq_ediv_of_nonneg (by omega), ← Int.natCast_ediv, Nat.pow_add, Nat.mul_div_cancel _ (Nat.two_pow_pos m)]
  have hq2 : ((2 ^ (a + m) : Nat) : Int) / ((2 ^ m : Nat) : Int) = ((2 ^ a : Nat) : Int) := by
    rw [← Int.natCast_ediv, Nat.pow_add, Nat.mul_div_cancel _ (Nat.two_pow_pos m)]
  have hlt : 2 ^ a < 2 ^ (a + m) := Nat.pow_lt_pow_right (by omega) (by omega)
  have hB0 : 0 < 2 ^ m := Nat.two_pow_pos m
  have hB16 := pow_16 m4
  clear e
  generalize 2 ^ (a + m) = N at *
  generalize 2 ^ m = B at *
  generalize 2 ^ a = K at *
  replace hi := Lib.hid hi; replace hv := Lib.hid hv
  have hCon := fun A' c' w' h => s_contains A' (N - K) c' (v.drop K) w' h (by omega)
  generalize decide (∃ j, j < (v.drop K).length ∧ co (v.drop K) j ≠ 0) = r at *
  have hQ1 := Lib.hid hq1; have hQ2 := Lib.hid hq2
  clear hq1 hq2
  go_enter Tryz.func20, Tryz.ntmps20
  go_wp2_with fail
  refine hV.mono ?_
  rintro e w1 ⟨rfl, g1⟩
  have g1 : Gn w w1 := g1
  go_wp2_with fail
  refine (n_inverse _ _ _ _ _ (hT.up g1) (hl.up g1) (by omega)).mono ?_
  rintro e w2 hR
  rw [hv.out] at hR
  obtain ⟨A2, c2, rfl, h2, g⟩ := hR.get hi.out
  replace g1 := g1.trans g
  obtain ⟨b, o, e2, _⟩ := h2.cells (by omega)
  subst e2
  have hlc := h2.le
  have h3 := h2.drop (k := K) (by omega)
  clear h2 hl hT g hR hV
  have hq1 := hQ1.out; have hq2 := hQ2.out
  have hNK : ((N : Int) - (K : Int)).toNat = N - K := by omega
  have hne : ¬ c2 = K := by omega
  have hne2 : ¬ K = c2 := by omega
  go_wp2_with fail
  refine (hCon _ _ _ h3).mono ?_
  rintro e w3 ⟨rfl, g3⟩
  replace g1 := g1.trans g3
  go_wp2_with fail
  go_ret2
  exact ⟨rfl, g1⟩
/- ───── At ───── -/
theorem bitLen_pow : ∀ N, N ≤ 16 → Lib.bitLen (2 ^ N) = N + 1 := by decide
theorem n_lenP (N : Nat) (hN : N ≤ 16) (w : World) :
    Calls Tryz.prog 49 #[.int .u64 ((2 ^ N : Nat) : Int)] w fun e w' => e = .returned (.int .i64 ((N + 1 : Nat))) ∧ w = w' := by
  have hp := pow_lt hN
  have h := Any.bits_Len Tryz.lays125 ((2 ^ N : Nat) : Int) w (Int.natCast_nonneg _) (by generalize 2 ^ N = P at hp; omega)
  have e : Tryz.lays125_ren.f 125 = 49 := by kernel_rfl
  rw [e] at h
  refine h.mono ?_
  rintro e' w' ⟨rfl, rfl⟩
  rw [Int.toNat_natCast, bitLen_pow N hN]
  exact ⟨rfl, rfl⟩
theorem f_powF (x : F) (n : Nat) (hn : n < 18446744073709551616) (w : World) : Calls Tryz.prog 52 #[.int .u64 (Zm.i (x)), .int .u64 n] w fun e w' => e = .returned (.int .u64 (Zm.i (pw x n))) ∧ ∃ g, w' = gr w g := by
  have h := f_pow (Zm.i x) (n : Int) (by omega) (by omega) w
  rw [int_i, Int.toNat_natCast] at h
  refine h.mono ?_
  rintro e w' ⟨rfl, h⟩
  exact ⟨rfl, by first | exact ⟨Grow.refl w, h.symm⟩ | (obtain ⟨n, rfl⟩ := h; exact ⟨(Grow.refl w).draws n, rfl⟩)⟩
open Classical in
set_option maxHeartbeats 2000000 in
theorem s_at (A : Option Addr) (n c : Nat) (l : List Ext) (a m i : Nat) (w : World) (hl : Sl w A n c l) (m1 : 1 ≤ m) (m4 : m ≤ 4) (ha : n = 2 ^ a) (ham : a + m ≤ 16) (hi : i < 2 ^ (a + m)) :
    Calls Tryz.prog 18 #[.slice A n c, .int .i64 (2 ^ m : Nat), .int .i64 i] w fun e w' => e = .returned (.tuple #[.agg #[.int .u64 (Zm.i (Ext.a (ev l (Ext.base (pw (root (a + m)) i))))), .int .u64 (Zm.i (Ext.b (ev l (Ext.base (pw (root (a + m)) i)))))], .int .i64 0]) ∧ ∃ g, w' = gr w g := by
  refine calls_gr ?_
  have hp := pow_lt ham
  have hn16 : n ≤ 1000000 := by rw [ha]; have := pow_lt (k := a) (by omega); omega
  have hV := s_validRow n ((2 ^ m : Nat) : Int) hn16 (by have := pow_16 m4; omega)
  rw [decide_eq_true (show vrow n ((2 ^ m : Nat) : Int) from ⟨a, m, m1, m4, ha, (cast_pow m).symm, ham⟩)] at hV
  have hmul := two_mul_pow a m
  rw [← ha] at hmul
  have hLen := n_lenP (a + m) ham
  have hRt := f_root ((a + m : Nat) : Int) (by omega) (by omega)
  rw [Int.toNat_natCast] at hRt
  have hw : IntKind.i64.wrap ((2 ^ (a + m) : Nat) : Int) = ((2 ^ (a + m) : Nat) : Int) := IntWalk.i64_in _ (by omega)
  have hB16 := pow_16 m4
  obtain ⟨y, hy⟩ : ∃ y, y = Ext.base (pw (root (a + m)) i) := ⟨_, rfl⟩
  rw [← hy]
  generalize root (a + m) = u at *
  have hPw := f_powF u i (by omega)
  generalize pw u i = z at *
  have hBs := e_fromBase z
  rw [← hy] at hBs
  clear hy
  obtain ⟨v, hv⟩ : ∃ v, v = ev l y := ⟨_, rfl⟩
  have hEv := fun w h => p_eval A n c l y w h hn16
  rw [← hv] at hEv ⊢
  clear hv ha
  generalize 2 ^ (a + m) = N at *
  generalize 2 ^ m = B at *
  generalize a + m = s at *
  have hsub : ((s + 1 : Nat) : Int) - 1 = (s : Int) := by omega
  have HM := hmul
  clear hmul
  go_enter Tryz.func18, Tryz.ntmps18
  go_wp2_with fail
  have hx := hnew w zeroExt
  have hg : Gn w (w.alloc zeroExt) := Gn.al _
  unfold zeroExt at hx hg
  generalize w.alloc (.cells #[.int .u64 0, .int .u64 0] 41) = w0 at *
  replace hl := hl.up hg
  refine (hV _).mono ?_
  rintro e w1 ⟨rfl, g1⟩
  have g1 : Gn w0 w1 := g1
  replace hx := g1.block hx; replace hg := hg.trans g1; replace hl := hl.up g1
  clear g1
  go_wp2_with fail
  refine (hLen _).mono ?_
  rintro e w2 ⟨rfl, rfl⟩
  go_wp2_with fail
  refine (hRt _).mono ?_
  rintro e w2 ⟨rfl, hw2⟩
  have g1 : Gn w1 w2 := by first | exact hw2 ▸ Gn.refl _ | (obtain ⟨n, rfl⟩ := hw2; exact ⟨(Grow.refl _).draws n, rfl⟩)
  replace hx := g1.block hx; replace hg := hg.trans g1; replace hl := hl.up g1
  clear g1 hw2
  go_wp2_with fail
  refine (hPw _).mono ?_
  rintro e w3 ⟨rfl, g1⟩
  have g1 : Gn w2 w3 := g1
  replace hx := g1.block hx; replace hg := hg.trans g1; replace hl := hl.up g1
  clear g1
  go_wp2_with fail
  refine (hBs _).mono ?_
  rintro e w4 ⟨rfl, g1⟩
  have g1 : Gn w3 w4 := g1
  replace hx := g1.block hx; replace hg := hg.trans g1; replace hl := hl.up g1
  clear g1
  go_wp2_with fail
  refine (hEv _ hl).mono ?_
  rintro e w5 ⟨rfl, g1⟩
  have g1 : Gn w4 w5 := g1
  replace hx := g1.block hx; replace hg := hg.trans g1
  clear g1 hl
  have r1 := box_a hx; have r2 := box_b hx; have r3 := box_fz (i := 0) hx; have r4 := box_fz (i := 1) hx; have r5 := blk_lt hx
  go_wp2_with fail
  have hS := set2_same hx v
  have hg2 := set2_below hg (Nat.le_refl _) v
  have s1 := box_a hS
  have s2 := box_b hS
  unfold set2 at s1 s2 hg2
  exact bodyPost_ret (v := .tuple #[.agg #[.int .u64 (Zm.i (Ext.a (v))), .int .u64 (Zm.i (Ext.b (v)))], .int .i64 0]) (by simp [results, Tryz.results18, go_sem, s1, s2]) rfl ⟨rfl, hg2.below⟩
end Go.Proofs.YtbfblckgcefaaaaGreatDoor
