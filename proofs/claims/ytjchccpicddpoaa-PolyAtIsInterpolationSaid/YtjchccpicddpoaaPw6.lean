/- The walks of package poly: combine and what leans on it. -/
import Derived.Test.YtjchccpicddpoaaPw5
namespace Go.Proofs.Ytjchccpicddpoaa
open Go.RowKit Att Att.CRing

def comb (G : Ext → Ext → Ext) (l k : List Ext) : List Ext := tab (max l.length k.length) fun i => G (co l i) (co k i)
theorem comb_get (G : Ext → Ext → Ext) {l k : List Ext} {i : Nat} (h : i < max l.length k.length) : (comb G l k)[i]? = some (G (co l i) (co k i)) := by
  unfold comb tab; rw [List.getElem?_map, List.getElem?_range h]; rfl
theorem comb_len (G : Ext → Ext → Ext) (l k : List Ext) : (comb G l k).length = max l.length k.length := tab_length _ _
theorem two_boxes (w : World) : ((w.alloc zeroExt).alloc zeroExt).heap[w.heap.size]? = some zeroExt ∧ ((w.alloc zeroExt).alloc zeroExt).heap[w.heap.size + 1]? = some zeroExt := by
  have h1 := hnew w zeroExt
  have h2 := hnew (w.alloc zeroExt) zeroExt
  simp only [World.size_alloc] at h2
  exact ⟨(Gn.al _).block h1, h2⟩
set_option maxHeartbeats 4000000 in
theorem p_combAdd (A B : Option Addr) (n c m d : Nat) (l k : List Ext)  (w : World) (hl : Sl w A n c l) (hk : Sl w B m d k) (hn : n ≤ 1000000) (hm : m ≤ 1000000)  :
    Calls Try.prog 49 #[.slice A n c, .slice B m d, .func (.func 50) #[] #[]] w (RetSl w (trim (comb (fun x y => x + y) l k))) := by
  have HC := fun (x y : Ext) (w : World) => e_add x y w
  have l1 := Lib.hid hl.len
  have k1 := Lib.hid hk.len
  obtain ⟨N, hN⟩ : ∃ N, N = max n m := ⟨_, rfl⟩
  have hNn : n ≤ N := by omega
  have hNm : m ≤ N := by omega
  have hN6 : N ≤ 1000000 := by omega
  have HN := Lib.hid hN; clear hN
  have hres : (comb (fun x y => x + y) l k).length = N := by rw [comb_len, l1.out, k1.out, HN.out]
  have HR := Lib.hid hres; clear hres
  rcases Nat.lt_or_ge n m with hnm | hnm
  · go_enter Try.func49, Try.ntmps49
    go_wp2_with (at_make; refine wpList_mk (.tmp 15) (.tmp 15) N (congrArg (Value.int .i64) (by have := HN.out; omega)) (congrArg (Value.int .i64) (by have := HN.out; omega)) (by omega) ?_)
    go_loopw [19] (fun v wr => ∃ i : Nat, i ≤ N ∧ v = .int .i64 i ∧ Blk wr w.heap.size (Fi (comb (fun x y => x + y) l k) i) ∧ Gn w wr) (fun v _ => N - (intOf v).toNat)
    case atStart => exact ⟨0, by omega, rfl, by rw [Fi_zero, HR.out]; exact hnew w _, Gn.al _⟩
    case round =>
      obtain ⟨i, hi, rfl, hB, hg⟩ := hrel
      by_cases hlt : i < N
      · have hget : (comb (fun x y => x + y) l k)[i]? = some ((fun x y => x + y) (co l i) (co k i)) := comb_get _ (by rw [l1.out, k1.out, ← HN.out]; exact hlt)
        have HG := Lib.hid hget; clear hget
        have hil := Lib.hid (show i < (Fi (comb (fun x y => x + y) l k) i).length by rw [Fi_length _ (by rw [HR.out]; exact hi), HR.out]; exact hlt)
        have H0 := Lib.hid (Fi_get (comb (fun x y => x + y) l k) (i := i) (by rw [HR.out]; exact hlt))
        by_cases h1 : i < n
        · obtain ⟨b, o, x, rfl, hx, q1, q2, q3⟩ := (hl.up hg).at_ h1
          have HX := Lib.hid (co_at hx); clear hx
          by_cases h2 : i < m
          · obtain ⟨b', o', y, rfl, hy, r1, r2, r3⟩ := (hk.up hg).at_ h2
            have HY := Lib.hid (co_at hy); clear hy
            go_wp2_with fail
            refine (HC x y _).mono ?_
            rintro e w2 ⟨rfl, g2⟩
            have gA := ((Gn.al (w := wr) _).trans (Gn.al _)).trans g2
            have hB2 := hB.up gA
            obtain ⟨c1, c2⟩ := hB2.cell H0.out
            have c3 := blk_lt hB2
            have z1 := box_fz (i := i * 2) hB2
            have z2 := box_fz (i := i * 2 + 1) hB2
            have hB' := hB2.set hil.out ((fun x y => x + y) (x) (y))
            have hg' := setE_below (hg.trans gA) (Nat.le_refl _) (i := i) ((fun x y => x + y) (x) (y))
            clear gA g2
            go_wp2_with fail
            refine ⟨⟨i + 1, by omega, by go_num, ?_, hg'⟩, by simp [intOf]; omega⟩
            rw [← Fi_set HG.out, HX.out]; try rw [HY.out]
            exact hB'
          · exfalso; omega
        · by_cases h2 : i < m
          · obtain ⟨b', o', y, rfl, hy, r1, r2, r3⟩ := (hk.up hg).at_ h2
            have HY := Lib.hid (co_at hy); clear hy
            have HX := Lib.hid (co_ge l1.out h1)
            go_wp2_with fail
            refine (HC 0 y _).mono ?_
            rintro e w2 ⟨rfl, g2⟩
            have gA := ((Gn.al (w := wr) _).trans (Gn.al _)).trans g2
            have hB2 := hB.up gA
            obtain ⟨c1, c2⟩ := hB2.cell H0.out
            have c3 := blk_lt hB2
            have z1 := box_fz (i := i * 2) hB2
            have z2 := box_fz (i := i * 2 + 1) hB2
            have hB' := hB2.set hil.out ((fun x y => x + y) (0) (y))
            have hg' := setE_below (hg.trans gA) (Nat.le_refl _) (i := i) ((fun x y => x + y) (0) (y))
            clear gA g2
            go_wp2_with fail
            refine ⟨⟨i + 1, by omega, by go_num, ?_, hg'⟩, by simp [intOf]; omega⟩
            rw [← Fi_set HG.out, HX.out]; try rw [HY.out]
            exact hB'
          · exfalso
            have := HN.out
            omega
      · obtain rfl : i = N := by omega
        have e := Lib.hid (Fi_end (comb (fun x y => x + y) l k))
        have hS : Sl wr (some ⟨w.heap.size, 0, none⟩) i i (comb (fun x y => x + y) l k) := by
          have h := hB.sl (by rw [Fi_length _ (by rw [HR.out]; exact Nat.le_refl _), HR.out]; omega)
          rw [Fi_length _ (by rw [HR.out]; exact Nat.le_refl _), HR.out] at h
          have e2 : Fi (comb (fun x y => x + y) l k) i = comb (fun x y => x + y) l k := by have := e.out; rwa [HR.out] at this
          rwa [e2] at h
        go_wp2_with fail
        refine (p_trim _ _ _ _ _ hS (by omega)).mono ?_
        rintro e w' ⟨A', n', c', rfl, hs, hg'⟩
        go_wp2_with fail
        go_ret
        exact ⟨A', n', c', rfl, hs, hg.trans hg'⟩
  · go_enter Try.func49, Try.ntmps49
    go_wp2_with (at_make; refine wpList_mk (.tmp 15) (.tmp 15) N (congrArg (Value.int .i64) (by have := HN.out; omega)) (congrArg (Value.int .i64) (by have := HN.out; omega)) (by omega) ?_)
    go_loopw [19] (fun v wr => ∃ i : Nat, i ≤ N ∧ v = .int .i64 i ∧ Blk wr w.heap.size (Fi (comb (fun x y => x + y) l k) i) ∧ Gn w wr) (fun v _ => N - (intOf v).toNat)
    case atStart => exact ⟨0, by omega, rfl, by rw [Fi_zero, HR.out]; exact hnew w _, Gn.al _⟩
    case round =>
      obtain ⟨i, hi, rfl, hB, hg⟩ := hrel
      by_cases hlt : i < N
      · have hget : (comb (fun x y => x + y) l k)[i]? = some ((fun x y => x + y) (co l i) (co k i)) := comb_get _ (by rw [l1.out, k1.out, ← HN.out]; exact hlt)
        have HG := Lib.hid hget; clear hget
        have hil := Lib.hid (show i < (Fi (comb (fun x y => x + y) l k) i).length by rw [Fi_length _ (by rw [HR.out]; exact hi), HR.out]; exact hlt)
        have H0 := Lib.hid (Fi_get (comb (fun x y => x + y) l k) (i := i) (by rw [HR.out]; exact hlt))
        by_cases h1 : i < n
        · obtain ⟨b, o, x, rfl, hx, q1, q2, q3⟩ := (hl.up hg).at_ h1
          have HX := Lib.hid (co_at hx); clear hx
          by_cases h2 : i < m
          · obtain ⟨b', o', y, rfl, hy, r1, r2, r3⟩ := (hk.up hg).at_ h2
            have HY := Lib.hid (co_at hy); clear hy
            go_wp2_with fail
            refine (HC x y _).mono ?_
            rintro e w2 ⟨rfl, g2⟩
            have gA := ((Gn.al (w := wr) _).trans (Gn.al _)).trans g2
            have hB2 := hB.up gA
            obtain ⟨c1, c2⟩ := hB2.cell H0.out
            have c3 := blk_lt hB2
            have z1 := box_fz (i := i * 2) hB2
            have z2 := box_fz (i := i * 2 + 1) hB2
            have hB' := hB2.set hil.out ((fun x y => x + y) (x) (y))
            have hg' := setE_below (hg.trans gA) (Nat.le_refl _) (i := i) ((fun x y => x + y) (x) (y))
            clear gA g2
            go_wp2_with fail
            refine ⟨⟨i + 1, by omega, by go_num, ?_, hg'⟩, by simp [intOf]; omega⟩
            rw [← Fi_set HG.out, HX.out]; try rw [HY.out]
            exact hB'
          · have HY := Lib.hid (co_ge k1.out h2)
            go_wp2_with fail
            refine (HC x 0 _).mono ?_
            rintro e w2 ⟨rfl, g2⟩
            have gA := ((Gn.al (w := wr) _).trans (Gn.al _)).trans g2
            have hB2 := hB.up gA
            obtain ⟨c1, c2⟩ := hB2.cell H0.out
            have c3 := blk_lt hB2
            have z1 := box_fz (i := i * 2) hB2
            have z2 := box_fz (i := i * 2 + 1) hB2
            have hB' := hB2.set hil.out ((fun x y => x + y) (x) (0))
            have hg' := setE_below (hg.trans gA) (Nat.le_refl _) (i := i) ((fun x y => x + y) (x) (0))
            clear gA g2
            go_wp2_with fail
            refine ⟨⟨i + 1, by omega, by go_num, ?_, hg'⟩, by simp [intOf]; omega⟩
            rw [← Fi_set HG.out, HX.out]; try rw [HY.out]
            exact hB'
        · by_cases h2 : i < m
          · exfalso; omega
          · exfalso
            have := HN.out
            omega
      · obtain rfl : i = N := by omega
        have e := Lib.hid (Fi_end (comb (fun x y => x + y) l k))
        have hS : Sl wr (some ⟨w.heap.size, 0, none⟩) i i (comb (fun x y => x + y) l k) := by
          have h := hB.sl (by rw [Fi_length _ (by rw [HR.out]; exact Nat.le_refl _), HR.out]; omega)
          rw [Fi_length _ (by rw [HR.out]; exact Nat.le_refl _), HR.out] at h
          have e2 : Fi (comb (fun x y => x + y) l k) i = comb (fun x y => x + y) l k := by have := e.out; rwa [HR.out] at this
          rwa [e2] at h
        go_wp2_with fail
        refine (p_trim _ _ _ _ _ hS (by omega)).mono ?_
        rintro e w' ⟨A', n', c', rfl, hs, hg'⟩
        go_wp2_with fail
        go_ret
        exact ⟨A', n', c', rfl, hs, hg.trans hg'⟩

set_option maxHeartbeats 4000000 in
theorem p_combSub (A B : Option Addr) (n c m d : Nat) (l k : List Ext)  (w : World) (hl : Sl w A n c l) (hk : Sl w B m d k) (hn : n ≤ 1000000) (hm : m ≤ 1000000)  :
    Calls Try.prog 49 #[.slice A n c, .slice B m d, .func (.func 51) #[] #[]] w (RetSl w (trim (comb (fun x y => x - y) l k))) := by
  have HC := fun (x y : Ext) (w : World) => e_sub x y w
  have l1 := Lib.hid hl.len
  have k1 := Lib.hid hk.len
  obtain ⟨N, hN⟩ : ∃ N, N = max n m := ⟨_, rfl⟩
  have hNn : n ≤ N := by omega
  have hNm : m ≤ N := by omega
  have hN6 : N ≤ 1000000 := by omega
  have HN := Lib.hid hN; clear hN
  have hres : (comb (fun x y => x - y) l k).length = N := by rw [comb_len, l1.out, k1.out, HN.out]
  have HR := Lib.hid hres; clear hres
  rcases Nat.lt_or_ge n m with hnm | hnm
  · go_enter Try.func49, Try.ntmps49
    go_wp2_with (at_make; refine wpList_mk (.tmp 15) (.tmp 15) N (congrArg (Value.int .i64) (by have := HN.out; omega)) (congrArg (Value.int .i64) (by have := HN.out; omega)) (by omega) ?_)
    go_loopw [19] (fun v wr => ∃ i : Nat, i ≤ N ∧ v = .int .i64 i ∧ Blk wr w.heap.size (Fi (comb (fun x y => x - y) l k) i) ∧ Gn w wr) (fun v _ => N - (intOf v).toNat)
    case atStart => exact ⟨0, by omega, rfl, by rw [Fi_zero, HR.out]; exact hnew w _, Gn.al _⟩
    case round =>
      obtain ⟨i, hi, rfl, hB, hg⟩ := hrel
      by_cases hlt : i < N
      · have hget : (comb (fun x y => x - y) l k)[i]? = some ((fun x y => x - y) (co l i) (co k i)) := comb_get _ (by rw [l1.out, k1.out, ← HN.out]; exact hlt)
        have HG := Lib.hid hget; clear hget
        have hil := Lib.hid (show i < (Fi (comb (fun x y => x - y) l k) i).length by rw [Fi_length _ (by rw [HR.out]; exact hi), HR.out]; exact hlt)
        have H0 := Lib.hid (Fi_get (comb (fun x y => x - y) l k) (i := i) (by rw [HR.out]; exact hlt))
        by_cases h1 : i < n
        · obtain ⟨b, o, x, rfl, hx, q1, q2, q3⟩ := (hl.up hg).at_ h1
          have HX := Lib.hid (co_at hx); clear hx
          by_cases h2 : i < m
          · obtain ⟨b', o', y, rfl, hy, r1, r2, r3⟩ := (hk.up hg).at_ h2
            have HY := Lib.hid (co_at hy); clear hy
            go_wp2_with fail
            refine (HC x y _).mono ?_
            rintro e w2 ⟨rfl, g2⟩
            have gA := ((Gn.al (w := wr) _).trans (Gn.al _)).trans g2
            have hB2 := hB.up gA
            obtain ⟨c1, c2⟩ := hB2.cell H0.out
            have c3 := blk_lt hB2
            have z1 := box_fz (i := i * 2) hB2
            have z2 := box_fz (i := i * 2 + 1) hB2
            have hB' := hB2.set hil.out ((fun x y => x - y) (x) (y))
            have hg' := setE_below (hg.trans gA) (Nat.le_refl _) (i := i) ((fun x y => x - y) (x) (y))
            clear gA g2
            go_wp2_with fail
            refine ⟨⟨i + 1, by omega, by go_num, ?_, hg'⟩, by simp [intOf]; omega⟩
            rw [← Fi_set HG.out, HX.out]; try rw [HY.out]
            exact hB'
          · exfalso; omega
        · by_cases h2 : i < m
          · obtain ⟨b', o', y, rfl, hy, r1, r2, r3⟩ := (hk.up hg).at_ h2
            have HY := Lib.hid (co_at hy); clear hy
            have HX := Lib.hid (co_ge l1.out h1)
            go_wp2_with fail
            refine (HC 0 y _).mono ?_
            rintro e w2 ⟨rfl, g2⟩
            have gA := ((Gn.al (w := wr) _).trans (Gn.al _)).trans g2
            have hB2 := hB.up gA
            obtain ⟨c1, c2⟩ := hB2.cell H0.out
            have c3 := blk_lt hB2
            have z1 := box_fz (i := i * 2) hB2
            have z2 := box_fz (i := i * 2 + 1) hB2
            have hB' := hB2.set hil.out ((fun x y => x - y) (0) (y))
            have hg' := setE_below (hg.trans gA) (Nat.le_refl _) (i := i) ((fun x y => x - y) (0) (y))
            clear gA g2
            go_wp2_with fail
            refine ⟨⟨i + 1, by omega, by go_num, ?_, hg'⟩, by simp [intOf]; omega⟩
            rw [← Fi_set HG.out, HX.out]; try rw [HY.out]
            exact hB'
          · exfalso
            have := HN.out
            omega
      · obtain rfl : i = N := by omega
        have e := Lib.hid (Fi_end (comb (fun x y => x - y) l k))
        have hS : Sl wr (some ⟨w.heap.size, 0, none⟩) i i (comb (fun x y => x - y) l k) := by
          have h := hB.sl (by rw [Fi_length _ (by rw [HR.out]; exact Nat.le_refl _), HR.out]; omega)
          rw [Fi_length _ (by rw [HR.out]; exact Nat.le_refl _), HR.out] at h
          have e2 : Fi (comb (fun x y => x - y) l k) i = comb (fun x y => x - y) l k := by have := e.out; rwa [HR.out] at this
          rwa [e2] at h
        go_wp2_with fail
        refine (p_trim _ _ _ _ _ hS (by omega)).mono ?_
        rintro e w' ⟨A', n', c', rfl, hs, hg'⟩
        go_wp2_with fail
        go_ret
        exact ⟨A', n', c', rfl, hs, hg.trans hg'⟩
  · go_enter Try.func49, Try.ntmps49
    go_wp2_with (at_make; refine wpList_mk (.tmp 15) (.tmp 15) N (congrArg (Value.int .i64) (by have := HN.out; omega)) (congrArg (Value.int .i64) (by have := HN.out; omega)) (by omega) ?_)
    go_loopw [19] (fun v wr => ∃ i : Nat, i ≤ N ∧ v = .int .i64 i ∧ Blk wr w.heap.size (Fi (comb (fun x y => x - y) l k) i) ∧ Gn w wr) (fun v _ => N - (intOf v).toNat)
    case atStart => exact ⟨0, by omega, rfl, by rw [Fi_zero, HR.out]; exact hnew w _, Gn.al _⟩
    case round =>
      obtain ⟨i, hi, rfl, hB, hg⟩ := hrel
      by_cases hlt : i < N
      · have hget : (comb (fun x y => x - y) l k)[i]? = some ((fun x y => x - y) (co l i) (co k i)) := comb_get _ (by rw [l1.out, k1.out, ← HN.out]; exact hlt)
        have HG := Lib.hid hget; clear hget
        have hil := Lib.hid (show i < (Fi (comb (fun x y => x - y) l k) i).length by rw [Fi_length _ (by rw [HR.out]; exact hi), HR.out]; exact hlt)
        have H0 := Lib.hid (Fi_get (comb (fun x y => x - y) l k) (i := i) (by rw [HR.out]; exact hlt))
        by_cases h1 : i < n
        · obtain ⟨b, o, x, rfl, hx, q1, q2, q3⟩ := (hl.up hg).at_ h1
          have HX := Lib.hid (co_at hx); clear hx
          by_cases h2 : i < m
          · obtain ⟨b', o', y, rfl, hy, r1, r2, r3⟩ := (hk.up hg).at_ h2
            have HY := Lib.hid (co_at hy); clear hy
            go_wp2_with fail
            refine (HC x y _).mono ?_
            rintro e w2 ⟨rfl, g2⟩
            have gA := ((Gn.al (w := wr) _).trans (Gn.al _)).trans g2
            have hB2 := hB.up gA
            obtain ⟨c1, c2⟩ := hB2.cell H0.out
            have c3 := blk_lt hB2
            have z1 := box_fz (i := i * 2) hB2
            have z2 := box_fz (i := i * 2 + 1) hB2
            have hB' := hB2.set hil.out ((fun x y => x - y) (x) (y))
            have hg' := setE_below (hg.trans gA) (Nat.le_refl _) (i := i) ((fun x y => x - y) (x) (y))
            clear gA g2
            go_wp2_with fail
            refine ⟨⟨i + 1, by omega, by go_num, ?_, hg'⟩, by simp [intOf]; omega⟩
            rw [← Fi_set HG.out, HX.out]; try rw [HY.out]
            exact hB'
          · have HY := Lib.hid (co_ge k1.out h2)
            go_wp2_with fail
            refine (HC x 0 _).mono ?_
            rintro e w2 ⟨rfl, g2⟩
            have gA := ((Gn.al (w := wr) _).trans (Gn.al _)).trans g2
            have hB2 := hB.up gA
            obtain ⟨c1, c2⟩ := hB2.cell H0.out
            have c3 := blk_lt hB2
            have z1 := box_fz (i := i * 2) hB2
            have z2 := box_fz (i := i * 2 + 1) hB2
            have hB' := hB2.set hil.out ((fun x y => x - y) (x) (0))
            have hg' := setE_below (hg.trans gA) (Nat.le_refl _) (i := i) ((fun x y => x - y) (x) (0))
            clear gA g2
            go_wp2_with fail
            refine ⟨⟨i + 1, by omega, by go_num, ?_, hg'⟩, by simp [intOf]; omega⟩
            rw [← Fi_set HG.out, HX.out]; try rw [HY.out]
            exact hB'
        · by_cases h2 : i < m
          · exfalso; omega
          · exfalso
            have := HN.out
            omega
      · obtain rfl : i = N := by omega
        have e := Lib.hid (Fi_end (comb (fun x y => x - y) l k))
        have hS : Sl wr (some ⟨w.heap.size, 0, none⟩) i i (comb (fun x y => x - y) l k) := by
          have h := hB.sl (by rw [Fi_length _ (by rw [HR.out]; exact Nat.le_refl _), HR.out]; omega)
          rw [Fi_length _ (by rw [HR.out]; exact Nat.le_refl _), HR.out] at h
          have e2 : Fi (comb (fun x y => x - y) l k) i = comb (fun x y => x - y) l k := by have := e.out; rwa [HR.out] at this
          rwa [e2] at h
        go_wp2_with fail
        refine (p_trim _ _ _ _ _ hS (by omega)).mono ?_
        rintro e w' ⟨A', n', c', rfl, hs, hg'⟩
        go_wp2_with fail
        go_ret
        exact ⟨A', n', c', rfl, hs, hg.trans hg'⟩

theorem p_scale1 (x y c : Ext) (cb : Nat) (w : World) (hc : w.heap[cb]? = some (.cells #[.int .u64 (Zm.i (Ext.a c)), .int .u64 (Zm.i (Ext.b c))] 25)) :
    Calls Try.prog 53 #[.agg #[.int .u64 (Zm.i (Ext.a (x))), .int .u64 (Zm.i (Ext.b (x)))], .agg #[.int .u64 (Zm.i (Ext.a (y))), .int .u64 (Zm.i (Ext.b (y)))], .pointer (some ⟨cb, 0, none⟩)] w fun e w' => e = .returned (.agg #[.int .u64 (Zm.i (Ext.a (x * c))), .int .u64 (Zm.i (Ext.b (x * c)))]) ∧ ∃ g, w' = gr w g := by
  refine calls_gr ?_
  have h1 := box_a hc
  have h2 := box_b hc
  have h3 := blk_lt hc
  have h4 : cb < w.heap.size + 1 := by omega
  have h5 : cb < w.heap.size + 1 + 1 := by omega
  go_enter Try.func53, Try.ntmps53
  go_wp2_with fail
  refine (e_mul x c _).mono ?_
  rintro e w' ⟨rfl, g, rfl⟩
  go_wp2_with fail
  exact bodyPost_ret (v := .agg #[.int .u64 (Zm.i (Ext.a (x * c))), .int .u64 (Zm.i (Ext.b (x * c)))]) (by simp [results, Try.results53, go_sem]) rfl ⟨rfl, (by repeat (first | assumption | exact Below.refl _ _ | apply Below.drew | apply below_drewN | apply up_gr | apply below_al | (refine below_gr ?_ (by first | (simp; done) | (simp; omega)) _) | (refine Below.alloc ?_ (by first | (simp; done) | (simp; omega)) _) | (refine Below.setCell ?_ (by first | (simp; done) | (simp; omega)) _)))⟩
set_option maxHeartbeats 4000000 in
theorem p_combScale (A B : Option Addr) (n c m d : Nat) (l k : List Ext) (cc : Ext) (cb : Nat) (w : World) (hl : Sl w A n c l) (hk : Sl w B m d k) (hn : n ≤ 1000000) (hm : m ≤ 1000000) (hc : w.heap[cb]? = some (.cells #[.int .u64 (Zm.i (Ext.a cc)), .int .u64 (Zm.i (Ext.b cc))] 25)) :
    Calls Try.prog 49 #[.slice A n c, .slice B m d, .func (.func 53) #[] #[.pointer (some ⟨cb, 0, none⟩)]] w (RetSl w (trim (comb (fun x _ => x * cc) l k))) := by
  have HC := fun (x y : Ext) (w : World) h => p_scale1 x y cc cb w h
  have l1 := Lib.hid hl.len
  have k1 := Lib.hid hk.len
  obtain ⟨N, hN⟩ : ∃ N, N = max n m := ⟨_, rfl⟩
  have hNn : n ≤ N := by omega
  have hNm : m ≤ N := by omega
  have hN6 : N ≤ 1000000 := by omega
  have HN := Lib.hid hN; clear hN
  have hres : (comb (fun x _ => x * cc) l k).length = N := by rw [comb_len, l1.out, k1.out, HN.out]
  have HR := Lib.hid hres; clear hres
  rcases Nat.lt_or_ge n m with hnm | hnm
  · go_enter Try.func49, Try.ntmps49
    go_wp2_with (at_make; refine wpList_mk (.tmp 15) (.tmp 15) N (congrArg (Value.int .i64) (by have := HN.out; omega)) (congrArg (Value.int .i64) (by have := HN.out; omega)) (by omega) ?_)
    go_loopw [19] (fun v wr => ∃ i : Nat, i ≤ N ∧ v = .int .i64 i ∧ Blk wr w.heap.size (Fi (comb (fun x _ => x * cc) l k) i) ∧ Gn w wr) (fun v _ => N - (intOf v).toNat)
    case atStart => exact ⟨0, by omega, rfl, by rw [Fi_zero, HR.out]; exact hnew w _, Gn.al _⟩
    case round =>
      obtain ⟨i, hi, rfl, hB, hg⟩ := hrel
      by_cases hlt : i < N
      · have hget : (comb (fun x _ => x * cc) l k)[i]? = some ((fun x _ => x * cc) (co l i) (co k i)) := comb_get _ (by rw [l1.out, k1.out, ← HN.out]; exact hlt)
        have HG := Lib.hid hget; clear hget
        have hil := Lib.hid (show i < (Fi (comb (fun x _ => x * cc) l k) i).length by rw [Fi_length _ (by rw [HR.out]; exact hi), HR.out]; exact hlt)
        have H0 := Lib.hid (Fi_get (comb (fun x _ => x * cc) l k) (i := i) (by rw [HR.out]; exact hlt))
        by_cases h1 : i < n
        · obtain ⟨b, o, x, rfl, hx, q1, q2, q3⟩ := (hl.up hg).at_ h1
          have HX := Lib.hid (co_at hx); clear hx
          by_cases h2 : i < m
          · obtain ⟨b', o', y, rfl, hy, r1, r2, r3⟩ := (hk.up hg).at_ h2
            have HY := Lib.hid (co_at hy); clear hy
            go_wp2_with fail
            refine (HC x y _ (((hg.trans (Gn.al _)).trans (Gn.al _)).block hc)).mono ?_
            rintro e w2 ⟨rfl, g2⟩
            have gA := ((Gn.al (w := wr) _).trans (Gn.al _)).trans g2
            have hB2 := hB.up gA
            obtain ⟨c1, c2⟩ := hB2.cell H0.out
            have c3 := blk_lt hB2
            have z1 := box_fz (i := i * 2) hB2
            have z2 := box_fz (i := i * 2 + 1) hB2
            have hB' := hB2.set hil.out ((fun x _ => x * cc) (x) (y))
            have hg' := setE_below (hg.trans gA) (Nat.le_refl _) (i := i) ((fun x _ => x * cc) (x) (y))
            clear gA g2
            go_wp2_with fail
            refine ⟨⟨i + 1, by omega, by go_num, ?_, hg'⟩, by simp [intOf]; omega⟩
            rw [← Fi_set HG.out, HX.out]; try rw [HY.out]
            exact hB'
          · exfalso; omega
        · by_cases h2 : i < m
          · obtain ⟨b', o', y, rfl, hy, r1, r2, r3⟩ := (hk.up hg).at_ h2
            have HY := Lib.hid (co_at hy); clear hy
            have HX := Lib.hid (co_ge l1.out h1)
            go_wp2_with fail
            refine (HC 0 y _ (((hg.trans (Gn.al _)).trans (Gn.al _)).block hc)).mono ?_
            rintro e w2 ⟨rfl, g2⟩
            have gA := ((Gn.al (w := wr) _).trans (Gn.al _)).trans g2
            have hB2 := hB.up gA
            obtain ⟨c1, c2⟩ := hB2.cell H0.out
            have c3 := blk_lt hB2
            have z1 := box_fz (i := i * 2) hB2
            have z2 := box_fz (i := i * 2 + 1) hB2
            have hB' := hB2.set hil.out ((fun x _ => x * cc) (0) (y))
            have hg' := setE_below (hg.trans gA) (Nat.le_refl _) (i := i) ((fun x _ => x * cc) (0) (y))
            clear gA g2
            go_wp2_with fail
            refine ⟨⟨i + 1, by omega, by go_num, ?_, hg'⟩, by simp [intOf]; omega⟩
            rw [← Fi_set HG.out, HX.out]; try rw [HY.out]
            exact hB'
          · exfalso
            have := HN.out
            omega
      · obtain rfl : i = N := by omega
        have e := Lib.hid (Fi_end (comb (fun x _ => x * cc) l k))
        have hS : Sl wr (some ⟨w.heap.size, 0, none⟩) i i (comb (fun x _ => x * cc) l k) := by
          have h := hB.sl (by rw [Fi_length _ (by rw [HR.out]; exact Nat.le_refl _), HR.out]; omega)
          rw [Fi_length _ (by rw [HR.out]; exact Nat.le_refl _), HR.out] at h
          have e2 : Fi (comb (fun x _ => x * cc) l k) i = comb (fun x _ => x * cc) l k := by have := e.out; rwa [HR.out] at this
          rwa [e2] at h
        go_wp2_with fail
        refine (p_trim _ _ _ _ _ hS (by omega)).mono ?_
        rintro e w' ⟨A', n', c', rfl, hs, hg'⟩
        go_wp2_with fail
        go_ret
        exact ⟨A', n', c', rfl, hs, hg.trans hg'⟩
  · go_enter Try.func49, Try.ntmps49
    go_wp2_with (at_make; refine wpList_mk (.tmp 15) (.tmp 15) N (congrArg (Value.int .i64) (by have := HN.out; omega)) (congrArg (Value.int .i64) (by have := HN.out; omega)) (by omega) ?_)
    go_loopw [19] (fun v wr => ∃ i : Nat, i ≤ N ∧ v = .int .i64 i ∧ Blk wr w.heap.size (Fi (comb (fun x _ => x * cc) l k) i) ∧ Gn w wr) (fun v _ => N - (intOf v).toNat)
    case atStart => exact ⟨0, by omega, rfl, by rw [Fi_zero, HR.out]; exact hnew w _, Gn.al _⟩
    case round =>
      obtain ⟨i, hi, rfl, hB, hg⟩ := hrel
      by_cases hlt : i < N
      · have hget : (comb (fun x _ => x * cc) l k)[i]? = some ((fun x _ => x * cc) (co l i) (co k i)) := comb_get _ (by rw [l1.out, k1.out, ← HN.out]; exact hlt)
        have HG := Lib.hid hget; clear hget
        have hil := Lib.hid (show i < (Fi (comb (fun x _ => x * cc) l k) i).length by rw [Fi_length _ (by rw [HR.out]; exact hi), HR.out]; exact hlt)
        have H0 := Lib.hid (Fi_get (comb (fun x _ => x * cc) l k) (i := i) (by rw [HR.out]; exact hlt))
        by_cases h1 : i < n
        · obtain ⟨b, o, x, rfl, hx, q1, q2, q3⟩ := (hl.up hg).at_ h1
          have HX := Lib.hid (co_at hx); clear hx
          by_cases h2 : i < m
          · obtain ⟨b', o', y, rfl, hy, r1, r2, r3⟩ := (hk.up hg).at_ h2
            have HY := Lib.hid (co_at hy); clear hy
            go_wp2_with fail
            refine (HC x y _ (((hg.trans (Gn.al _)).trans (Gn.al _)).block hc)).mono ?_
            rintro e w2 ⟨rfl, g2⟩
            have gA := ((Gn.al (w := wr) _).trans (Gn.al _)).trans g2
            have hB2 := hB.up gA
            obtain ⟨c1, c2⟩ := hB2.cell H0.out
            have c3 := blk_lt hB2
            have z1 := box_fz (i := i * 2) hB2
            have z2 := box_fz (i := i * 2 + 1) hB2
            have hB' := hB2.set hil.out ((fun x _ => x * cc) (x) (y))
            have hg' := setE_below (hg.trans gA) (Nat.le_refl _) (i := i) ((fun x _ => x * cc) (x) (y))
            clear gA g2
            go_wp2_with fail
            refine ⟨⟨i + 1, by omega, by go_num, ?_, hg'⟩, by simp [intOf]; omega⟩
            rw [← Fi_set HG.out, HX.out]; try rw [HY.out]
            exact hB'
          · have HY := Lib.hid (co_ge k1.out h2)
            go_wp2_with fail
            refine (HC x 0 _ (((hg.trans (Gn.al _)).trans (Gn.al _)).block hc)).mono ?_
            rintro e w2 ⟨rfl, g2⟩
            have gA := ((Gn.al (w := wr) _).trans (Gn.al _)).trans g2
            have hB2 := hB.up gA
            obtain ⟨c1, c2⟩ := hB2.cell H0.out
            have c3 := blk_lt hB2
            have z1 := box_fz (i := i * 2) hB2
            have z2 := box_fz (i := i * 2 + 1) hB2
            have hB' := hB2.set hil.out ((fun x _ => x * cc) (x) (0))
            have hg' := setE_below (hg.trans gA) (Nat.le_refl _) (i := i) ((fun x _ => x * cc) (x) (0))
            clear gA g2
            go_wp2_with fail
            refine ⟨⟨i + 1, by omega, by go_num, ?_, hg'⟩, by simp [intOf]; omega⟩
            rw [← Fi_set HG.out, HX.out]; try rw [HY.out]
            exact hB'
        · by_cases h2 : i < m
          · exfalso; omega
          · exfalso
            have := HN.out
            omega
      · obtain rfl : i = N := by omega
        have e := Lib.hid (Fi_end (comb (fun x _ => x * cc) l k))
        have hS : Sl wr (some ⟨w.heap.size, 0, none⟩) i i (comb (fun x _ => x * cc) l k) := by
          have h := hB.sl (by rw [Fi_length _ (by rw [HR.out]; exact Nat.le_refl _), HR.out]; omega)
          rw [Fi_length _ (by rw [HR.out]; exact Nat.le_refl _), HR.out] at h
          have e2 : Fi (comb (fun x _ => x * cc) l k) i = comb (fun x _ => x * cc) l k := by have := e.out; rwa [HR.out] at this
          rwa [e2] at h
        go_wp2_with fail
        refine (p_trim _ _ _ _ _ hS (by omega)).mono ?_
        rintro e w' ⟨A', n', c', rfl, hs, hg'⟩
        go_wp2_with fail
        go_ret
        exact ⟨A', n', c', rfl, hs, hg.trans hg'⟩

theorem p_addL (A B : Option Addr) (n c m d : Nat) (l k : List Ext) (w : World) (hl : Sl w A n c l) (hk : Sl w B m d k) (hn : n ≤ 1000000) (hm : m ≤ 1000000) :
    Calls Try.prog 19 #[.slice A n c, .slice B m d] w (RetSl w (trim (padd l k))) := by
  go_enter Try.func19, Try.ntmps19
  go_wp2_with fail
  refine (p_combAdd A B n c m d l k _ hl hk hn hm).mono ?_
  rintro e w2 ⟨A', n', c', rfl, hs, g2⟩
  go_wp2_with fail
  go_ret
  exact ⟨A', n', c', rfl, hs, g2⟩
theorem p_subL (A B : Option Addr) (n c m d : Nat) (l k : List Ext) (w : World) (hl : Sl w A n c l) (hk : Sl w B m d k) (hn : n ≤ 1000000) (hm : m ≤ 1000000) :
    Calls Try.prog 21 #[.slice A n c, .slice B m d] w (RetSl w (trim (psub l k))) := by
  go_enter Try.func21, Try.ntmps21
  go_wp2_with fail
  refine (p_combSub A B n c m d l k _ hl hk hn hm).mono ?_
  rintro e w2 ⟨A', n', c', rfl, hs, g2⟩
  go_wp2_with fail
  go_ret
  exact ⟨A', n', c', rfl, hs, g2⟩
theorem comb_sca (l : List Ext) (c : Ext) : comb (fun x _ => x * c) l [] = psca l c := by
  unfold comb psca
  simp only [List.length_nil, Nat.max_zero]
theorem p_scale (A : Option Addr) (n c : Nat) (l : List Ext) (x : Ext) (w : World) (hl : Sl w A n c l) (hn : n ≤ 1000000) :
    Calls Try.prog 25 #[.slice A n c, .agg #[.int .u64 (Zm.i (Ext.a (x))), .int .u64 (Zm.i (Ext.b (x)))]] w (RetSl w (trim (psca l x))) := by
  have hc := hnew w (.cells #[.int .u64 (Zm.i (Ext.a x)), .int .u64 (Zm.i (Ext.b x))] 25)
  have hmf : ∀ (fn : Fn) (first cap : Array Value) (w : World), (Instr.makeFunc fn first cap).run Try.prog w = .ok (.func fn first cap) w := fun _ _ _ _ => rfl
  go_enter Try.func25, Try.ntmps25
  go_wp2_with fail
  refine (p_combScale A none n c 0 0 l [] x w.heap.size _ (hl.up (Gn.al _)) (Sl.nil _) hn (by omega) hc).mono ?_
  rintro e w2 ⟨A', n', c', rfl, hs, g2⟩
  go_wp2_with fail
  go_ret
  rw [← comb_sca]
  exact ⟨A', n', c', rfl, hs, (Gn.al _).trans g2⟩
end Go.Proofs.Ytjchccpicddpoaa
