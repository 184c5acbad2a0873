/- The walks of package reedsolomon: EncodeExt, At, Is. -/
import Derived.Test.YtgambglgkilgkaaGreatDoorRw2
import Derived.Test.YtgambglgkilgkaaGreatDoorGm
namespace Go.Proofs.YtgambglgkilgkaaGreatDoor
open Go.RowKit Att Att.CRing
def zipE (a b : List F) : List Ext := tab a.length fun i => ⟨co a i, co b i⟩
theorem zipE_length (a b : List F) : (zipE a b).length = a.length := tab_length _ _
theorem zipE_get {a b : List F} {i : Nat} {x y : F} (hx : a[i]? = some x) (hy : b[i]? = some y) : (zipE a b)[i]? = some ⟨x, y⟩ := by
  unfold zipE tab
  rw [List.getElem?_map, List.getElem?_range (List.getElem?_eq_some_iff.1 hx).1]
  show some (⟨co a i, co b i⟩ : Ext) = some ⟨x, y⟩
  rw [coF_get hx, coF_get hy]
open Classical in
noncomputable def encE (l : List Ext) (b : Int) : List Ext × Int := if vrow l.length b then (zipE (encOf (partA l) b).1 (encOf (partB l) b).1, 0) else ([], 1)
structure RetE (e : Ending) (w w' : World) (r : List Ext × Int) : Prop where
  ex : ∃ A c, e = .returned (.tuple #[.slice A r.1.length c, .int .i64 r.2]) ∧ Sl w' A r.1.length c r.1
  g : Gn w w'
theorem RetE.get {e : Ending} {w w' : World} {l : List Ext} {z : Int} {n : Nat} (h : RetE e w w' (l, z)) (hn : l.length = n) : ∃ A c, e = .returned (.tuple #[.slice A n c, .int .i64 z]) ∧ Sl w' A n c l ∧ Gn w w' := by
  obtain ⟨⟨A, c, rfl, hs⟩, g⟩ := h
  subst hn
  exact ⟨A, c, rfl, hs, g⟩
theorem zip_set {A : List F} {B : List F} {i : Nat} {x y : F} (hx : A[i]? = some x) (hy : B[i]? = some y) : (Fi (zipE A B) i).set i ⟨x, y⟩ = Fi (zipE A B) (i + 1) := Fi_set (zipE_get hx hy)
open Classical in
set_option maxHeartbeats 4000000 in
theorem s_encodeExt (A : Option Addr) (n c : Nat) (l : List Ext) (b : Int) (w : World) (hT : Tab w) (hl : Sl w A n c l) (hn : n ≤ 1000000) (hb : b ≤ 9223372036854775807) :
    Calls Tryz.prog 6 #[.slice A n c, .int .i64 b] w fun e w' => RetE e w w' (encE l b) := by
  have la : (partA l).length = n := by rw [partA_length, hl.len]
  have lb : (partB l).length = n := by rw [partB_length, hl.len]
  by_cases hv : vrow n b
  · have e0 : encE l b = (zipE (encOf (partA l) b).1 (encOf (partB l) b).1, 0) := by unfold encE; rw [if_pos (by rw [hl.len]; exact hv)]
    rw [e0]
    clear e0
    obtain ⟨a, m, m1, m4, ha, rfl, ham⟩ := hv
    rw [encOf_pow (la.trans ha) m1 m4 ham, encOf_pow (lb.trans ha) m1 m4 ham]
    have Ea := encOf_pow (la.trans ha) m1 m4 ham
    have Eb := encOf_pow (lb.trans ha) m1 m4 ham
    have h1 := valP_length (partA l) (root (a + m)) (2 ^ (a + m))
    have h2 := valP_length (partB l) (root (a + m)) (2 ^ (a + m))
    have hp := pow_lt ham
    rw [cast_pow] at *
    clear ha
    show Calls _ _ _ _ fun e w' => RetE e w w' (zipE (valP (partA l) (root (a + m)) (2 ^ (a + m))) (valP (partB l) (root (a + m)) (2 ^ (a + m))), 0)
    generalize valP (partA l) (root (a + m)) (2 ^ (a + m)) = PA at *
    generalize valP (partB l) (root (a + m)) (2 ^ (a + m)) = PB at *
    generalize 2 ^ (a + m) = N at *
    generalize 2 ^ m = B at *
    obtain ⟨Z, hZ⟩ : ∃ Z, Z = zipE PA PB := ⟨_, rfl⟩
    have lz : Z.length = N := by rw [hZ, zipE_length, h1]
    rw [← hZ]
    replace la := Lib.hid la; replace lb := Lib.hid lb; replace Ea := Lib.hid Ea; replace Eb := Lib.hid Eb; replace h1 := Lib.hid h1; replace h2 := Lib.hid h2; replace lz := Lib.hid lz; replace hZ := Lib.hid hZ
    go_enter Tryz.func6, Tryz.ntmps6
    go_wp2_with fail
    refine (s_compA A n c l _ hl hn).mono ?_
    rintro e w1 ⟨rfl, hB1, g1⟩
    have s1 := hB1.sf (by rw [la.out]; omega)
    rw [la.out] at s1
    clear hB1
    go_wp2_with fail
    refine (s_encode _ _ _ _ _ _ (hT.up g1) s1 hn hb).mono ?_
    rintro e w2 hR
    rw [Ea.out] at hR
    obtain ⟨Aa, ca, rfl, ha, g⟩ := hR.get h1.out
    replace g1 := g1.trans g
    clear g s1 hR
    go_wp2_with fail
    refine (s_compB A n c l _ (hl.up g1) hn).mono ?_
    rintro e w3 ⟨rfl, hB3, g3⟩
    have s3 := hB3.sf (by rw [lb.out]; omega)
    rw [lb.out] at s3
    replace ha := ha.up g3
    replace g1 := g1.trans g3
    clear hB3 g3
    go_wp2_with fail
    refine (s_encode _ _ _ _ _ _ (hT.up g1) s3 hn hb).mono ?_
    rintro e w4 hR
    rw [Eb.out] at hR
    obtain ⟨Ab, cb, rfl, hbb, g⟩ := hR.get h2.out
    replace g1 := g1.trans g
    replace ha := ha.up g
    clear g s3 hR hl hT
    go_wp2_with (at_make; refine wpList_mk (.tmp 32) (.tmp 32) N rfl rfl (by omega) ?_)
    have hb0 : Blk (w4.alloc (.cells (fl (List.replicate N 0)).toArray 30)) w4.heap.size (Fi Z 0) := by rw [Fi_zero, lz.out]; exact hnew w4 _
    have hg0 : Gn w4 (w4.alloc (.cells (fl (List.replicate N 0)).toArray 30)) := Gn.al _
    generalize w4.alloc (.cells (fl (List.replicate N 0)).toArray 30) = w5 at *
    go_loopw [36] (fun v wr => ∃ i : Nat, i ≤ N ∧ v = .int .i64 i ∧ Blk wr w4.heap.size (Fi Z i) ∧ Gn w4 wr) (fun v _ => N - (intOf v).toNat)
    case atStart => exact ⟨0, by omega, rfl, hb0, hg0⟩
    case round =>
      clear hb0 hg0
      obtain ⟨i, hi, rfl, hr, hg⟩ := hrel
      by_cases hlt : i < N
      · have ha2 := ha.up hg; have hb2 := hbb.up hg
        obtain ⟨b1, o1, x, E1, hx, p1, q1⟩ := ha2.at_ hlt
        obtain ⟨b2, o2, y, E2, hy, p2, q2⟩ := hb2.at_ hlt
        subst E1 E2
        have hst := Lib.hid (zip_set hx hy)
        rw [← hZ.out] at hst
        have hil := Lib.hid (show i < (Fi Z i).length by rw [Fi_length _ (by rw [lz.out]; exact hi), lz.out]; exact hlt)
        have h0 := Fi_get Z (i := i) (by rw [lz.out]; exact hlt)
        clear hx hy ha2 hb2 ha hbb
        generalize Fi Z i = M at *
        obtain ⟨c1, c2⟩ := hr.cell h0
        have c3 := blk_lt hr
        clear h0
        go_wp2_with fail
        try simp only [List.append_eq, List.cons_append, List.nil_append]
        refine Fk.wp_region_flow 12 (by kernel_rfl) (by kernel_rfl) ?_
        refine Fk.flow_one rfl (freeB_spec (by kernel_rfl)) ?_
        go_big_quiet_step (fail)
        refine wpQuiet_nil ?_
        refine Fk.flow_one rfl (freeB_spec (by kernel_rfl)) ?_
        go_big_quiet_step (fail)
        refine wpQuiet_nil ?_
        refine Fk.flow_one rfl (freeB_spec (by kernel_rfl)) ?_
        go_big_quiet_step (fail)
        refine wpQuiet_nil ?_
        refine Fk.flow_one rfl (freeB_spec (by kernel_rfl)) ?_
        go_big_quiet_step (fail)
        refine wpQuiet_nil ?_
        refine Fk.flow_one rfl (freeB_spec (by kernel_rfl)) ?_
        go_big_quiet_step (fail)
        refine wpQuiet_nil ?_
        refine Fk.flow_one rfl (freeB_spec (by kernel_rfl)) ?_
        go_big_quiet_step (fail)
        refine wpQuiet_nil ?_
        refine Fk.flow_one rfl (freeB_spec (by kernel_rfl)) ?_
        go_big_quiet_step (fail)
        refine wpQuiet_nil ?_
        refine Fk.flow_one rfl (freeB_spec (by kernel_rfl)) ?_
        go_big_quiet_step (fail)
        refine wpQuiet_nil ?_
        refine Fk.flow_one rfl (freeB_spec (by kernel_rfl)) ?_
        go_big_quiet_step (fail)
        refine wpQuiet_nil ?_
        refine Fk.flow_one rfl (freeB_spec (by kernel_rfl)) ?_
        go_big_quiet_step (fail)
        refine wpQuiet_nil ?_
        refine Fk.flow_one rfl (freeB_spec (by kernel_rfl)) ?_
        go_big_quiet_step (fail)
        refine wpQuiet_nil ?_
        refine Fk.flow_one rfl (freeB_spec (by kernel_rfl)) ?_
        go_big_quiet_step (fail)
        refine wpQuiet_nil ?_
        intro V N' X hΓ hdis g hX
        clear hΓ hdis hX
        have hgn : Gn wr (gr wr g) := ⟨g, rfl⟩
        generalize gr wr g = w6 at *
        conv => arg 5; simp only [fill, Act.put, List.setIfInBounds_toArray, List.set_cons_succ, List.set_cons_zero]
        have hB6 := hr.up hgn
        refine tail_storeE (b := w4.heap.size) (i := i) (x := ⟨x, y⟩) rfl rfl hB6 hil.out ?_
        refine wpList_nil ?_
        have hB7 := hB6.set hil.out ⟨x, y⟩
        have hg7 := setE_below (hg.trans hgn) (Nat.le_refl _) (i := i) ⟨x, y⟩
        rw [hst.out] at hB7
        clear hB6 hr hg hgn p1 q1 p2 q2 c1 c2 c3
        generalize setE w6 w4.heap.size i ⟨x, y⟩ = w7 at *
        go_wp2_with fail
        exact ⟨⟨i + 1, by omega, by go_num, hB7, hg7⟩, by simp [intOf]; omega⟩
      · obtain rfl : i = N := by omega
        have he := Fi_end Z
        rw [lz.out] at he
        rw [he] at hr
        clear he
        have hs := hr.sl (by rw [lz.out]; omega)
        rw [lz.out] at hs
        go_wp2_with fail
        go_ret2
        refine ⟨⟨some ⟨w4.heap.size, 0, none⟩, i, ?_, ?_⟩, g1.trans hg⟩
        · simp [lz.out]
        · rw [lz.out]; exact hs
  · have e0 : encE l b = ([], 1) := by unfold encE; rw [if_neg (by rw [hl.len]; exact hv)]
    rw [e0]
    have Ea := encOf_bad (l := partA l) (b := b) (by rw [la]; exact hv)
    replace la := Lib.hid la; replace Ea := Lib.hid Ea
    clear e0 hv lb
    go_enter Tryz.func6, Tryz.ntmps6
    go_wp2_with fail
    refine (s_compA A n c l _ hl hn).mono ?_
    rintro e w1 ⟨rfl, hB1, g1⟩
    have s1 := hB1.sf (by rw [la.out]; omega)
    rw [la.out] at s1
    go_wp2_with fail
    refine (s_encode _ _ _ _ _ _ (hT.up g1) s1 hn hb).mono ?_
    rintro e w2 hR
    rw [Ea.out] at hR
    obtain ⟨Aa, ca, rfl, ha, g⟩ := hR.get (n := 0) rfl
    go_wp2_with fail
    go_ret2
    exact ⟨⟨none, 0, rfl, Sl.nil _⟩, g1.trans g⟩

/- ───── Is ───── -/
/-- where the first place that is not zero lies -/
def NzAt (l : List F) (r : Int) : Prop := (r = -1 ∧ ∀ j, j < l.length → co l j = 0) ∨ (0 ≤ r ∧ ∃ j, j < l.length ∧ co l j ≠ 0)
theorem SF.drop {w : World} {b o n c : Nat} {l : List F} (h : SF w (some ⟨b, o, none⟩) n c l) {k : Nat} (hk : k ≤ n) : SF w (some ⟨b, o + k, none⟩) (n - k) (c - k) (l.drop k) :=
  ⟨by rw [List.length_drop, h.len], by have := h.le; omega, by have := h.small; omega, fun hn => by
    obtain ⟨b', o', e, hb, hc⟩ := h.cells (by omega)
    cases e
    exact ⟨b, o + k, rfl, hb, fun i x hx => by
      rw [List.getElem?_drop] at hx
      have := hc (k + i) x hx
      rwa [← Nat.add_assoc] at this⟩⟩
/-- the word is a codeword's -/
def isCode (n k : Nat) (u : F) (y : Nat → F) : Prop := ∃ row : List F, row.length = k ∧ ∀ i, i < n → cw row u i = y i
theorem code_tail {l : List F} {N a : Nat} (hl : l.length = 2 ^ N) (hN : N ≤ 16) (ha : a ≤ N) : isCode (2 ^ N) (2 ^ a) (root N) (co l) ↔ ∀ j, j < ((invOf l).1.drop (2 ^ a)).length → co ((invOf l).1.drop (2 ^ a)) j = 0 := by
  have hlen := invOf_length hl hN
  have hle : 2 ^ a ≤ 2 ^ N := Nat.pow_le_pow_right (by omega) ha
  have hco : ∀ j, co ((invOf l).1.drop (2 ^ a)) j = co (invOf l).1 (2 ^ a + j) := fun j => by
    unfold co
    rw [List.getD_eq_getElem?_getD, List.getD_eq_getElem?_getD, List.getElem?_drop]
  have hv : ∀ i, i < 2 ^ N → ev (invOf l).1 (pw (root N) i) = co l i := by
    intro i hi
    have h := fwd_inv hl hN
    rw [fwdOf_pow hlen hN] at h
    have h2 := congrArg (fun r => co r.1 i) h
    rwa [show co (valP (invOf l).1 (root N) (2 ^ N), (0 : Int)).1 i = co (valP (invOf l).1 (root N) (2 ^ N)) i from rfl, co_valP _ _ _ _ hi] at h2
  constructor
  · rintro ⟨row, hr, he⟩ j hj
    rw [hco, co_big row (2 ^ a + j) (by omega) |>.symm]
    refine interp_unique (n := 2 ^ N) (xs := (List.range (2 ^ N)).map (pw (root N))) (Nat.le_of_eq hlen) (by omega) (by simp) (Dif.nodup (root_prim N (by omega)).dif List.nodup_range (fun i hi => List.mem_range.1 hi)) ?_ _
    intro z hz
    obtain ⟨i, hi, rfl⟩ := List.mem_map.1 hz
    rw [hv i (List.mem_range.1 hi)]
    exact (he i (List.mem_range.1 hi)).symm
  · intro h
    refine ⟨(invOf l).1.take (2 ^ a), by rw [List.length_take]; omega, fun i hi => ?_⟩
    unfold cw
    rw [← hv i hi]
    refine ev_of_co (fun t => ?_) _
    by_cases ht : t < 2 ^ a
    · unfold co
      rw [List.getD_eq_getElem?_getD, List.getD_eq_getElem?_getD, List.getElem?_take_of_lt ht]
    · rw [co_big _ t (by rw [List.length_take]; omega)]
      by_cases h2 : t < 2 ^ N
      · have := h (t - 2 ^ a) (by rw [List.length_drop]; omega)
        rw [hco, show 2 ^ a + (t - 2 ^ a) = t from by omega] at this
        exact this.symm
      · rw [co_big _ t (by omega)]
/- ───── At ───── -/
theorem bitLen_pow : ∀ N, N ≤ 16 → Lib.bitLen (2 ^ N) = N + 1 := by decide
theorem f_powF (x : F) (n : Nat) (hn : n < 18446744073709551616) (w : World) : Calls Tryz.prog 120 #[.int .u64 (Zm.i (x)), .int .u64 n] w fun e w' => e = .returned (.int .u64 (Zm.i (pw x n))) ∧ ∃ g, w' = gr w g := by
  have h := f_pow (Zm.i x) (n : Int) (by omega) (by omega) w
  rw [int_i, Int.toNat_natCast] at h
  refine h.mono ?_
  rintro e w' ⟨rfl, h⟩
  exact ⟨rfl, by first | exact ⟨Grow.refl w, h.symm⟩ | (obtain ⟨n, rfl⟩ := h; exact ⟨(Grow.refl w).draws n, rfl⟩)⟩
end Go.Proofs.YtgambglgkilgkaaGreatDoor
