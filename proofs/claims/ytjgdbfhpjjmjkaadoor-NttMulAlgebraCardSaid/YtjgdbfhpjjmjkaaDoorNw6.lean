/- The walks of the reference of ntt: Made of a power of two; Same. -/
import Derived.Test.YtjgdbfhpjjmjkaaDoorNw5
namespace Go.Proofs.YtjgdbfhpjjmjkaaDoor
open Go.RowKit Att Att.CRing
/-- a row of n elements, of which the first i are written -/
def mdF (l : List F) (n i : Nat) : List F := tab n fun x => if x < i then co l x else 0
theorem mdF_len (l : List F) (n i : Nat) : (mdF l n i).length = n := tab_length _ _
theorem mdF_zero (l : List F) (n : Nat) : mdF l n 0 = List.replicate n 0 := by
  unfold mdF tab
  apply List.ext_getElem?
  intro x
  by_cases hx : x < n
  · rw [List.getElem?_map, List.getElem?_range hx, List.getElem?_replicate, if_pos hx]
    simp
  · rw [List.getElem?_eq_none (by simp; omega), List.getElem?_eq_none (by simp; omega)]
theorem mdF_set (l : List F) {n i : Nat} (hi : i < n) : (mdF l n i).set i (co l i) = mdF l n (i + 1) := by
  apply List.ext_getElem?
  intro x
  by_cases hxi : x = i
  · subst hxi
    rw [List.getElem?_set_self (by rw [mdF_len]; exact hi)]
    unfold mdF tab
    rw [List.getElem?_map, List.getElem?_range hi]
    simp
  · rw [List.getElem?_set_ne (Ne.symm hxi)]
    unfold mdF tab
    by_cases hx : x < n
    · rw [List.getElem?_map, List.getElem?_map, List.getElem?_range hx]
      simp only [Option.map_some]
      congr 1
      by_cases h : x < i
      · rw [if_pos h, if_pos (by omega)]
      · rw [if_neg h, if_neg (by omega)]
    · rw [List.getElem?_eq_none (by simp; omega), List.getElem?_eq_none (by simp; omega)]
/-- the elements, and zeros behind them -/
def padF (l : List F) (n : Nat) : List F := tab n (co l)
theorem mdF_end (l : List F) {n i : Nat} (h : n ≤ i ∨ l.length ≤ i) : mdF l n i = padF l n := by
  unfold mdF padF tab
  refine List.map_congr_left fun x hx => ?_
  have hx := List.mem_range.1 hx
  by_cases h1 : x < i
  · rw [if_pos h1]
  · rw [if_neg h1, co_big l x (by omega)]
set_option maxHeartbeats 1000000 in
theorem r_same4 (A B : Option Addr) (n c m d : Nat) (l k : List F) (w : World) (hl : SF w A n c l) (hk : SF w B m d k) :
    Calls Tryd.prog 22 #[.slice A n c, .slice B m d] w fun e w' => e = .returned (.bool (decide (l = k))) ∧ ∃ g, w' = gr w g := by
  have l1 := Lib.hid hl.len
  have k1 := Lib.hid hk.len
  have n1 := hl.le; have n2 := hl.small; have n3 := hk.le; have n4 := hk.small
  by_cases hn : n = m
  · subst hn
    go_enter Tryd.func22, Tryd.ntmps22
    go_wp2_with fail
    go_loopw [5] (fun i wr => ∃ j : Nat, j ≤ n ∧ i = .int .i64 j ∧ Hid (l.take j = k.take j) ∧ Gn w wr) (fun i _ => n - (intOf i).toNat)
    case atStart => exact ⟨0, Nat.zero_le _, rfl, Lib.hid rfl, Gn.refl w⟩
    case round =>
      obtain ⟨j, hj, rfl, HT, hg⟩ := hrel
      by_cases hlt : j < n
      · obtain ⟨b, o, x, rfl, hx, q1, q2⟩ := (hl.up hg).at_ hlt
        obtain ⟨b', o', y, rfl, hy, r1, r2⟩ := (hk.up hg).at_ hlt
        have HX := Lib.hid hx; clear hx
        have HY := Lib.hid hy; clear hy
        by_cases he : x = y
        · subst he
          have HT2 := Lib.hid (show l.take (j + 1) = k.take (j + 1) by rw [List.take_add_one, List.take_add_one, HT.out, HX.out, HY.out])
          go_wp2_with fail
          refine wp_region_gr (by kernel_rfl) (lex_of_chk (by kernel_rfl) (by kernel_rfl)) ?_
          repeat (go_big_quiet_step (fail))
          refine wpQuiet_nil ?_
          intro wr2 hg2
          go_wp2_with fail
          exact ⟨⟨j + 1, by omega, by go_num, HT2, hg.trans hg2⟩, by simp [intOf]; omega⟩
        · have hd : decide (l = k) = false := decide_eq_false (fun e => he (by
            have h1 := HX.out
            rw [e, HY.out] at h1
            exact (Option.some.inj h1).symm))
          have hb : (Zm.i x != Zm.i y) = true := by
            rw [bne_iff_ne]
            exact fun e => he (i_inj e)
          clear he
          go_wp2_with fail
          refine wp_region_gr (by kernel_rfl) (lex_of_chk (by kernel_rfl) (by kernel_rfl)) ?_
          repeat (go_big_quiet_step (fail))
          refine wpQuiet_nil ?_
          intro wr2 hg2
          go_wp2_with fail
          go_ret
          exact ⟨by rw [hd]; rfl, hg.trans hg2⟩
      · obtain rfl : j = n := by omega
        have hd : decide (l = k) = true := by
          refine decide_eq_true ?_
          have e := HT.out
          rwa [List.take_of_length_le (by rw [l1.out]; exact Nat.le_refl _), List.take_of_length_le (by rw [k1.out]; exact Nat.le_refl _)] at e
        go_wp2_with fail
        go_ret
        exact ⟨by rw [hd]; rfl, hg⟩
  · have hd : decide (l = k) = false := decide_eq_false (fun h => hn (by rw [← l1.out, ← k1.out, h]))
    have hb2 : ((n : Int) != (m : Int)) = true := by simp; omega
    clear hn
    go_enter Tryd.func22, Tryd.ntmps22
    go_wp2_with fail
    go_ret
    exact ⟨by rw [hd]; rfl, Gn.refl w⟩
set_option maxHeartbeats 1000000 in
theorem x_made4 (A : Option Addr) (n c : Nat) (l : List Int) (k : Int) (most : Nat) (w : World) (hl : SW w A n c l) (hk : 0 ≤ k) (hk2 : k ≤ 255) (hm : most ≤ 10) :
    Calls Tryd.prog 23 #[.slice A n c, .int .u8 k, .int .i64 most] w (fun e w' => ∃ s, s ≤ most ∧ (s : Int) = k % ((most : Int) + 1) ∧ e = .returned (.slice (some ⟨w.heap.size, 0, none⟩) (2 ^ s : Nat) (2 ^ s : Nat)) ∧ BF w' w.heap.size (padF (redL l) (2 ^ s)) ∧ Gn w w') := by
  have n1 := hl.le; have n2 := hl.small
  have hb1 := Int.emod_nonneg k (show ((most : Int) + 1) ≠ 0 by omega)
  have hb2 := Int.emod_lt_of_pos k (show (0 : Int) < (most : Int) + 1 by omega)
  obtain ⟨s, hs⟩ : ∃ s : Nat, (s : Int) = k % ((most : Int) + 1) := ⟨(k % ((most : Int) + 1)).toNat, Int.toNat_of_nonneg hb1⟩
  have hs2 : s ≤ most := by rw [← hs] at hb2; omega
  clear hb1 hb2
  have e1 : Int.tmod k ((most : Int) + 1) = (s : Int) := by rw [hs]; exact Int.tmod_eq_emod_of_nonneg hk
  have hw := wrap_pow (k := s) (by omega)
  have hp : 2 ^ s ≤ 1024 := Nat.le_trans (Nat.pow_le_pow_right (n := 2) (by omega) (show s ≤ 10 by omega)) (by decide)
  have hp0 : 0 < 2 ^ s := Nat.pow_pos (by omega)
  rw [cast_pow] at hw
  obtain ⟨N, hN⟩ : ∃ N, N = 2 ^ s := ⟨_, rfl⟩
  suffices HH : Calls Tryd.prog 23 #[.slice A n c, .int .u8 k, .int .i64 most] w (fun e w' => e = .returned (.slice (some ⟨w.heap.size, 0, none⟩) (N : Nat) (N : Nat)) ∧ BF w' w.heap.size (padF (redL l) N) ∧ Gn w w') by
    refine HH.mono ?_
    rintro e w' ⟨h1, h2, h3⟩
    exact ⟨s, hs2, hs, by rw [← hN]; exact h1, by rw [← hN]; exact h2, h3⟩
  replace hs := Lib.hid hs
  rw [← hN] at hp hp0 hw
  have hN2 : (2 : Int) ^ s = (N : Int) := by rw [cast_pow, hN]
  replace hN := Lib.hid hN
  have l1 := Lib.hid hl.len
  have n3 : 0 ≤ n := by omega
  go_enter Tryd.func23, Tryd.ntmps23
  go_wp2_with (at_make; refine wpList_mkF (.tmp 16) (.tmp 16) N (congrArg (Value.int .i64) (by have := hN2; omega)) (congrArg (Value.int .i64) (by have := hN2; omega)) (by omega) ?_)
  have hb0 : BF (w.alloc (.cells (ff (List.replicate N 0)).toArray 34)) w.heap.size (mdF (redL l) N 0) := by rw [mdF_zero]; exact hnew w _
  have hg0 : Gn w (w.alloc (.cells (ff (List.replicate N 0)).toArray 34)) := Gn.al _
  generalize w.alloc (.cells (ff (List.replicate N 0)).toArray 34) = w0 at *
  go_loopw [9] (fun v wr => ∃ i : Nat, i ≤ N ∧ v = .int .i64 i ∧ BF wr w.heap.size (mdF (redL l) N i) ∧ Gn w wr) (fun v _ => N - (intOf v).toNat)
  case atStart => exact ⟨0, by omega, rfl, hb0, hg0⟩
  case round =>
    clear hb0 hg0
    obtain ⟨i, hi, rfl, hr, hg⟩ := hrel
    by_cases h1 : i < N
    · by_cases h2 : i < n
      · obtain ⟨b, o, z, rfl, hz, q1, q2, hz64⟩ := (hl.up hg).at_ h2
        have hco : co (redL l) i = int z := by
          unfold redL co
          simp [hz]
        have hst := Lib.hid (mdF_set (redL l) h1)
        rw [hco] at hst
        clear hz hco
        have hlen := mdF_len (redL l) N i
        have HR := r_reduce z
        generalize (int z : F) = x at *
        generalize hM : mdF (redL l) N i = M at *
        have hM := Lib.hid hM
        have c3 := blk_lt hr
        have f1 := box_fz (i := i) hr
        obtain ⟨y, hy⟩ : ∃ y, M[i]? = some y := ⟨_, List.getElem?_eq_getElem (show i < M.length by omega)⟩
        have c1 := hr.cell hy
        clear hy
        have hr2 := BF.set hr (i := i) x
        have hg2 := setF_below (i := i) hg (Nat.le_refl _) x
        rw [hst.out] at hr2
        go_wp2_with fail
        refine (HR _).mono ?_
        rintro e w2 ⟨rfl, rfl⟩
        go_wp2_with fail
        exact ⟨⟨i + 1, by omega, by go_num, hr2, hg2⟩, by simp [intOf]; omega⟩
      · have he := Lib.hid (mdF_end (redL l) (n := N) (i := i) (.inr (by rw [redL_length, l1.out]; omega)))
        rw [he.out] at hr
        go_wp2_with fail
        go_ret
        exact ⟨rfl, hr, hg⟩
    · have he := Lib.hid (mdF_end (redL l) (n := N) (i := i) (.inl (by omega)))
      rw [he.out] at hr
      go_wp2_with fail
      go_ret
      exact ⟨rfl, hr, hg⟩
end Go.Proofs.YtjgdbfhpjjmjkaaDoor
