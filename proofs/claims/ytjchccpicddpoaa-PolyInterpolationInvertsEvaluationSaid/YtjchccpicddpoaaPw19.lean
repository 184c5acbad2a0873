/- The walk of law03.different. -/
import Derived.Test.YtjchccpicddpoaaKc
namespace Go.Proofs.Ytjchccpicddpoaa
open Go.RowKit Att Att.CRing
/-- the different elements among the first k -/
def dif (l : List Ext) : Nat → List Ext
  | 0 => []
  | k + 1 => if co l k ∈ dif l k then dif l k else dif l k ++ [co l k]
theorem dif_len (l : List Ext) : ∀ k, (dif l k).length ≤ k
  | 0 => Nat.le_refl _
  | k + 1 => by
    have := dif_len l k
    unfold dif
    split
    · omega
    · simp; omega
theorem dif_nodup (l : List Ext) : ∀ k, (dif l k).Nodup
  | 0 => List.nodup_nil
  | k + 1 => by
    unfold dif
    split
    · exact dif_nodup l k
    · rename_i h
      rw [List.nodup_append]
      refine ⟨dif_nodup l k, by simp, ?_⟩
      intro a ha b hb
      simp only [List.mem_singleton] at hb
      subst hb
      intro e; subst e; exact h ha
theorem mem_take_succ {D : List Ext} {k : Nat} {u z : Ext} (h : D[k]? = some u) : z ∈ D.take (k + 1) ↔ z ∈ D.take k ∨ u = z := by
  rw [take_snoc' h, List.mem_append, List.mem_singleton]
  exact ⟨fun h => h.imp id Eq.symm, fun h => h.imp id Eq.symm⟩
set_option maxHeartbeats 2000000 in
theorem o_different (A : Option Addr) (n c : Nat) (l : List Ext) (w : World) (hl : Sl w A n c l) (hn : n ≤ 1000) :
    Calls Try.prog 43 #[.slice A n c] w (RetSl w (dif l n)) := by
  have n1 := hl.le; have n2 := hl.small
  go_enter Try.func43, Try.ntmps43
  go_wp2_with fail
  go_loopw [3, 4] (fun v i wr => ∃ k : Nat, k ≤ n ∧ i = .int .i64 k ∧ Ow wr w.heap.size v (dif l k) ∧ Gn w wr) (fun _ i _ => n - (intOf i).toNat)
  case atStart => exact ⟨0, by omega, rfl, Ow.empty w (Nat.le_refl _), Gn.al _⟩
  case round =>
    obtain ⟨i, hi, rfl, ho, hg⟩ := hrel
    by_cases h1 : i < n
    · obtain ⟨b, o, z, rfl, hz, -, -, -⟩ := hl.at_ h1
      have HZ := Lib.hid (co_at hz); clear hz
      have hle := dif_len l i
      have hst := Lib.hid (show dif l (i + 1) = if z ∈ dif l i then dif l i else dif l i ++ [z] by rw [← HZ.out]; rfl)
      generalize dif l i = D at *
      go_wp2_with fail
      go_loopw [5, 6] (fun f k wr => ∃ j : Nat, j ≤ D.length ∧ k = .int .i64 j ∧ (∃ t : Bool, f = .bool t ∧ Hid (t = true ↔ z ∈ D.take j)) ∧ Ow wr w.heap.size u3 D ∧ Gn w wr) (fun _ k _ => D.length - (intOf k).toNat)
      case atStart => exact ⟨0, by omega, rfl, ⟨false, rfl, Lib.hid (by simp)⟩, ho, hg⟩
      case round =>
        clear ho hg
        obtain ⟨j, hj, rfl, ⟨t, rfl, ht⟩, ho, hg⟩ := hrel
        obtain ⟨A2, c2, rfl, hs⟩ := ho.sl
        have s1 := hs.le; have s2 := hs.small
        by_cases h2 : j < D.length
        · obtain ⟨b', o', u, rfl, hu, q1, q2, q3⟩ := hs.at_ h2
          have HU := Lib.hid (mem_take_succ (z := z) hu); clear hu
          obtain ⟨b1, o1, z1, e1, hz1, r1, r2, r3⟩ := (hl.up hg).at_ h1
          cases e1
          obtain rfl : z1 = z := (co_at hz1).symm.trans HZ.out
          clear hz1
          cases t with
          | true =>
            have hn2 : Hid (z1 ∈ D.take (j + 1)) := Lib.hid (HU.out.2 (.inl (ht.out.1 rfl)))
            go_wp2_with fail
            refine wp_region_gr (by kernel_rfl) (lex_of_chk (by kernel_rfl) (by kernel_rfl)) ?_
            repeat (go_big_quiet_step (fail))
            refine wpQuiet_nil ?_
            intro wr2 hg2
            go_wp2_with fail
            exact ⟨⟨j + 1, by omega, by go_num, ⟨true, rfl, Lib.hid ⟨fun _ => hn2.out, fun _ => rfl⟩⟩, ho.up hg2, hg.trans hg2⟩, by simp [intOf]; omega⟩
          | false =>
            have hno : z1 ∉ D.take j := fun h => by have := ht.out.2 h; cases this
            have HN := Lib.hid hno; clear hno
            rcases eqs u z1 with ⟨h, e1, e2⟩ | h
            · have hn2 : Hid (z1 ∈ D.take (j + 1)) := Lib.hid (HU.out.2 (.inr h))
              clear h
              go_wp2_with fail
              refine wp_region_gr (by kernel_rfl) (lex_of_chk (by kernel_rfl) (by kernel_rfl)) ?_
              repeat (go_big_quiet_step (fail))
              refine wpQuiet_nil ?_
              intro wr2 hg2
              go_wp2_with fail
              exact ⟨⟨j + 1, by omega, by go_num, ⟨true, rfl, Lib.hid ⟨fun _ => hn2.out, fun _ => rfl⟩⟩, ho.up hg2, hg.trans hg2⟩, by simp [intOf]; omega⟩
            · have hne : u ≠ z1 := by rcases h with ⟨h, _⟩ | ⟨h, _⟩ <;> exact h
              have hn2 : Hid (false = true ↔ z1 ∈ D.take (j + 1)) := Lib.hid ⟨fun h => by (cases h), fun h => by rcases HU.out.1 h with h | h; exact absurd h HN.out; exact absurd h hne⟩
              clear hne
              rcases h with ⟨h, e1, e2⟩ | ⟨h, e1, e2⟩
              all_goals
                clear h
                go_wp2_with fail
                refine wp_region_gr (by kernel_rfl) (lex_of_chk (by kernel_rfl) (by kernel_rfl)) ?_
                repeat (go_big_quiet_step (fail))
                refine wpQuiet_nil ?_
                intro wr2 hg2
                go_wp2_with fail
                exact ⟨⟨j + 1, by omega, by go_num, ⟨false, rfl, hn2⟩, ho.up hg2, hg.trans hg2⟩, by simp [intOf]; omega⟩
        · obtain rfl : j = D.length := by omega
          have ht2 : Hid (t = true ↔ z ∈ D) := Lib.hid (by have := ht.out; rwa [List.take_length] at this)
          clear ht hs
          cases t with
          | true =>
            have hst2 := Lib.hid (hst.out.trans (if_pos (ht2.out.1 rfl)))
            go_wp2_with fail
            exact ⟨⟨i + 1, by omega, by go_num, by rw [hst2.out]; exact ho, hg⟩, by simp [intOf]; omega⟩
          | false =>
            have hst2 := Lib.hid (hst.out.trans (if_neg (fun h => by have := ht2.out.2 h; cases this)))
            obtain ⟨b1, o1, z1, e1, hz1, r1, r2, r3⟩ := (hl.up hg).at_ h1
            cases e1
            obtain rfl : z1 = z := (co_at hz1).symm.trans HZ.out
            clear hz1
            go_wp2_with (at_builtin; refine wpList_app (.tmp 34) (.tmp 39) rfl (ho.up (Gn.al _)) (by have := hg.size; simp; omega) rfl ((Blk.one z1).sl (by simp)) (by simp; omega) ?_; intro v4 w4 ho4 hg4; have hg5 := grown_gn (hg.trans (Gn.al _)) (ho.up (Gn.al _)) (Nat.le_refl _) hg4; clear hg4)
            exact ⟨⟨i + 1, by omega, by go_num, by rw [hst2.out]; exact ho4, hg5⟩, by simp [intOf]; omega⟩
    · obtain rfl : i = n := by omega
      go_wp2_with fail
      go_ret
      exact RetSl.of ho hg
end Go.Proofs.Ytjchccpicddpoaa
