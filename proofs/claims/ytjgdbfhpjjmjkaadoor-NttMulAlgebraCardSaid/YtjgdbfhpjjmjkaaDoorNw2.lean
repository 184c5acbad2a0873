/- The walk of permute. -/
import Derived.Test.YtjgdbfhpjjmjkaaDoorNw1
import Derived.BigRegion
namespace Go.Proofs.YtjgdbfhpjjmjkaaDoor
open Go.RowKit Att Att.CRing
/-- what stands at place x when the places below i have had their turn -/
def pmF (l : List F) (k i x : Nat) : F := if min x (rev k x) < i then co l (rev k x) else co l x
def pm (l : List F) (k i : Nat) : List F := tab (2 ^ k) (pmF l k i)
theorem pm_len (l : List F) (k i : Nat) : (pm l k i).length = 2 ^ k := tab_length _ _
theorem pm_get (l : List F) {k i x : Nat} (h : x < 2 ^ k) : (pm l k i)[x]? = some (pmF l k i x) := by
  unfold pm tab; rw [List.getElem?_map, List.getElem?_range h]; rfl
theorem pm_zero {l : List F} {k : Nat} (h : l.length = 2 ^ k) : pm l k 0 = l := by
  unfold pm
  rw [← h]
  refine Eq.trans ?_ (tab_eq l)
  unfold tab
  exact List.map_congr_left fun x _ => if_neg (by omega)
theorem pm_end (l : List F) (k : Nat) : pm l k (2 ^ k) = tab (2 ^ k) fun x => co l (rev k x) := by
  unfold pm tab
  exact List.map_congr_left fun x hx => if_pos (by have := List.mem_range.1 hx; omega)
theorem pm_stay {l : List F} {k i : Nat} (hi : i < 2 ^ k) (h : ¬ i < rev k i) : pm l k (i + 1) = pm l k i := by
  unfold pm tab
  refine List.map_congr_left fun x hx => ?_
  have hx := List.mem_range.1 hx
  unfold pmF
  by_cases h1 : min x (rev k x) < i
  · rw [if_pos (by omega), if_pos h1]
  · by_cases h2 : min x (rev k x) < i + 1
    · rw [if_pos h2, if_neg h1]
      rcases Nat.lt_or_ge (rev k x) x with h3 | h3
      · have e : rev k x = i := by omega
        have e2 := rev_rev k x hx
        rw [e] at e2
        omega
      · have e : x = i := by omega
        subst e
        have e3 : rev k x = x := by omega
        rw [e3]
    · rw [if_neg h2, if_neg h1]
theorem pm_swap {l : List F} {k i : Nat} (hi : i < 2 ^ k) (h : i < rev k i) : ((pm l k i).set i (co l (rev k i))).set (rev k i) (co l i) = pm l k (i + 1) := by
  have hj := rev_lt k i
  have hr := rev_rev k i hi
  apply List.ext_getElem?
  intro x
  by_cases hx : x < 2 ^ k
  · rw [pm_get l hx]
    by_cases hxj : x = rev k i
    · subst hxj
      rw [List.getElem?_set_self (by rw [List.length_set, pm_len]; exact hj)]
      unfold pmF
      rw [hr, if_pos (by omega)]
    · rw [List.getElem?_set_ne (Ne.symm hxj)]
      by_cases hxi : x = i
      · subst hxi
        rw [List.getElem?_set_self (by rw [pm_len]; exact hx)]
        unfold pmF
        rw [if_pos (by omega)]
      · rw [List.getElem?_set_ne (Ne.symm hxi), pm_get l hx]
        unfold pmF
        by_cases h1 : min x (rev k x) < i
        · rw [if_pos h1, if_pos (by omega)]
        · rw [if_neg h1, if_neg]
          intro h2
          rcases Nat.lt_or_ge (rev k x) x with h3 | h3
          · have e : rev k x = i := by omega
            have e2 := rev_rev k x hx
            rw [e] at e2
            exact hxj e2.symm
          · exact hxi (by omega)
  · rw [List.getElem?_eq_none (by rw [List.length_set, List.length_set, pm_len]; omega), List.getElem?_eq_none (by rw [pm_len]; omega)]
theorem pm_at {l : List F} {k i : Nat} (hi : i < 2 ^ k) (h : i < rev k i) : (pm l k i)[i]? = some (co l i) ∧ (pm l k i)[rev k i]? = some (co l (rev k i)) := by
  have hj := rev_lt k i
  have hr := rev_rev k i hi
  rw [pm_get l hi, pm_get l hj]
  unfold pmF
  rw [hr, if_neg (by omega), if_neg (by omega)]
  exact ⟨rfl, rfl⟩
theorem gn_by {a b : World} (h : Gn a b) (row : Option Nat) : a.grownBy b row := ⟨h.below.os, h.below.tape, h.below.output, h.below.size, fun k hk _ => h.below.block k hk⟩
theorem setF_by (w : World) (g i : Nat) (x : F) : w.grownBy (setF w g i x) (some g) := ⟨rfl, rfl, rfl, by simp [setF], fun k _ hne => setF_other (fun e => hne (by rw [e])) x⟩
set_option maxHeartbeats 1000000 in
theorem n_permute (g c k : Nat) (l : List F) (rest : List Value) (w : World) (hT : Tab w) (hk : k ≤ 16) (hl : l.length = 2 ^ k) (hR : RF w g l rest) (hc : 2 ^ k ≤ c) :
    Calls Tryd.prog 43 #[.slice (some ⟨g, 0, none⟩) (2 ^ k : Nat) c] w fun e w' => e = .returned (.tuple #[]) ∧ RF w' g (tab (2 ^ k) fun x => co l (rev k x)) rest ∧ w.grownBy w' (some g) := by
  have hp := pow_lt hk
  obtain ⟨n, hn⟩ : ∃ n, n = 2 ^ k := ⟨_, rfl⟩
  have hL := n_log2 k hk w hT
  rw [← hn] at hL hp hc ⊢
  replace hn := Lib.hid hn
  go_enter Tryd.func43, Tryd.ntmps43
  go_wp2_with fail
  refine hL.mono ?_
  rintro e w1 ⟨rfl, g1⟩
  go_wp2_with fail
  have hR1 : RF w1 g (pm l k 0) rest := by rw [pm_zero hl]; exact RF.up hR g1
  go_loopw [10] (fun v wr => ∃ i : Nat, i ≤ n ∧ v = .int .i64 i ∧ RF wr g (pm l k i) rest ∧ w.grownBy wr (some g)) (fun v _ => n - (intOf v).toNat)
  case atStart => exact ⟨0, by omega, rfl, hR1, by obtain ⟨gg, rfl⟩ := g1; have b := gr_below w gg; exact ⟨b.os, b.tape, b.output, b.size, fun k hk _ => b.block k hk⟩⟩
  case round =>
    clear hR1
    obtain ⟨i, hi, rfl, hr, hgb⟩ := hrel
    by_cases h1 : i < n
    · obtain ⟨j, hj⟩ : ∃ j, j = rev k i := ⟨_, rfl⟩
      have hi2 : i < 2 ^ k := by rw [← hn.out]; exact h1
      have hjn : j < n := by rw [hj, hn.out]; exact rev_lt k i
      have hwr : wrap64 (((revN i : Nat) : Int) / 2 ^ (64 - k)) = (j : Int) := by
        rw [show ((2 : Int) ^ (64 - k)) = ((2 ^ (64 - k) : Nat) : Int) from by rw [Int.natCast_pow]; rfl, ← Int.natCast_ediv, rev_shift hk hi2, ← hj]
        exact IntWalk.wrap64_in _ (by omega)
      by_cases hij : i < j
      · have hk0 : 0 < k := by
          rcases Nat.eq_zero_or_pos k with h | h
          · subst h; have e := rev_lt 0 i; rw [hj] at hij; simp at hi2 e; omega
          · exact h
        rw [hj] at hij
        obtain ⟨a1, a2⟩ := pm_at (l := l) hi2 hij
        have hsw := Lib.hid (pm_swap (l := l) hi2 hij)
        rw [← hj] at hij a2 hsw
        replace hj := Lib.hid hj
        have hil := Lib.hid (show i < (pm l k i).length by rw [pm_len]; exact hi2)
        have hjl := Lib.hid (show j < ((pm l k i).set i (co l j)).length by rw [List.length_set, pm_len, ← hn.out]; exact hjn)
        go_wp2_with fail
        refine (n_rev64 i (by omega) _).mono ?_
        rintro e w2 ⟨rfl, g2⟩
        have hr2 := RF.up hr g2
        have hg2 := hgb.trans (gn_by g2 (some g))
        have c1 := hr2.cell a1
        have c2 := hr2.cell a2
        have c3 := blk_lt hr2
        clear a1 a2 hr hgb g2 hi2
        go_wp2_with fail
        have f1 := box_fz (i := i) hr2
        have f2 := box_fz (i := j) hr2
        have H5 := Lib.hid (RF.set (RF.set hr2 hil.out (co l j)) hjl.out (co l i))
        rw [hsw.out] at H5
        have G5 := Lib.hid ((hg2.trans (setF_by w2 g i (co l j))).trans (setF_by (setF w2 g i (co l j)) g j (co l i)))
        clear hr2 hg2
        go_region
        have hr6 : RF ((w2.setCell ⟨g, i, none⟩ (.int .u64 (Zm.i (co l j)))).setCell ⟨g, j, none⟩ (.int .u64 (Zm.i (co l i)))).drew g (pm l k (i + 1)) rest := H5.out
        have hg6 : w.grownBy ((w2.setCell ⟨g, i, none⟩ (.int .u64 (Zm.i (co l j)))).setCell ⟨g, j, none⟩ (.int .u64 (Zm.i (co l i)))).drew (some g) := ⟨G5.out.os, G5.out.tape, G5.out.output, G5.out.size, G5.out.block⟩
        generalize ((w2.setCell ⟨g, i, none⟩ (.int .u64 (Zm.i (co l j)))).setCell ⟨g, j, none⟩ (.int .u64 (Zm.i (co l i)))).drew = w5 at *
        clear c1 c2 c3 f1 f2 H5 G5
        go_wp2_with fail
        exact ⟨⟨i + 1, by omega, by go_num, hr6, hg6⟩, by simp [intOf]; omega⟩
      · have hst := Lib.hid (pm_stay (l := l) hi2 (by rw [← hj]; exact hij))
        clear hj
        by_cases hk0 : 0 < k
        · go_wp2_with fail
          refine (n_rev64 i (by omega) _).mono ?_
          rintro e w2 ⟨rfl, g2⟩
          have hr2 := RF.up hr g2
          have hg2 := hgb.trans (gn_by g2 (some g))
          go_wp2_with fail
          exact ⟨⟨i + 1, by omega, by go_num, by rw [hst.out]; exact hr2, hg2⟩, by simp [intOf]; omega⟩
        · go_wp2_with fail
          refine (n_rev64 i (by omega) _).mono ?_
          rintro e w2 ⟨rfl, g2⟩
          have hr2 := RF.up hr g2
          have hg2 := hgb.trans (gn_by g2 (some g))
          go_wp2_with fail
          exact ⟨⟨i + 1, by omega, by go_num, by rw [hst.out]; exact hr2, hg2⟩, by simp [intOf]; omega⟩
    · obtain rfl : i = n := by omega
      have he := Lib.hid (pm_end l k)
      go_wp2_with fail
      go_end0
      refine ⟨rfl, ?_, hgb⟩
      have e := he.out
      rw [← hn.out] at e
      rw [← e]
      exact hr
end Go.Proofs.YtjgdbfhpjjmjkaaDoor
