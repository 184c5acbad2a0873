/- The walks of the reference of package poly: Made, Exactly, Scale; the laws' ints. -/
import Derived.Test.YtjchccpicddpoaaPw1
namespace Go.Proofs.Ytjchccpicddpoaa
open Go.RowKit Att Att.CRing

theorem gn_le {W a : World} (h : Gn W a) : W.heap.size ≤ a.heap.size := h.size

set_option maxHeartbeats 1000000 in
theorem x_madeL (A : Option Addr) (n c : Nat) (l : List (Int × Int)) (m : Nat) (w : World) (hl : SlR w A n c l) (hm : m ≤ 1000) :
    Calls Try.prog 12 #[.slice A n c, .int .i64 m] w (RetOw w ((l.take m).map mkP)) := by
  have l1 := Lib.hid hl.len
  have n1 := hl.le; have n2 := hl.small
  go_enter Try.func12, Try.ntmps12
  go_wp2_with fail
  go_loopw [5, 6] (fun v i wr => ∃ k : Nat, k ≤ n ∧ k ≤ m ∧ i = .int .i64 k ∧ Ow wr w.heap.size v ((l.take k).map mkP) ∧ Gn w wr) (fun _ i _ => n - (intOf i).toNat)
  case atStart => exact ⟨0, by omega, by omega, rfl, Ow.empty w (Nat.le_refl _), Gn.al _⟩
  case round =>
    obtain ⟨k, hk, hkm, rfl, ho, hg⟩ := hrel
    by_cases h1 : k < n
    · by_cases h2 : k < m
      · obtain ⟨b, o, p, q, rfl, hx, q1, q2, q3, _, _⟩ := (hl.up hg).at_ h1
        have HX := Lib.hid (take_snoc' hx); clear hx
        go_wp2_with fail
        refine (x_mk p q _).mono ?_
        rintro e w2 ⟨rfl, g2⟩
        have ho2 := ho.up g2
        have hg2 := hg.trans g2
        go_wp2_with (at_builtin; refine wpList_app (.tmp 19) (.tmp 25) rfl (ho2.up (Gn.al _)) (by have := hg2.size; simp; omega) rfl ((Blk.one (mk p q)).sl (by simp)) (by simp; omega) ?_; intro v3 w3 ho3 hg3; have hg4 := grown_gn (hg2.trans (Gn.al _)) (ho2.up (Gn.al _)) (Nat.le_refl _) hg3; clear hg3)
        exact ⟨⟨k + 1, by omega, by omega, by go_num, by rw [HX.out, List.map_append]; exact ho3, hg4⟩, by simp [intOf]; omega⟩
      · obtain rfl : k = m := by omega
        go_wp2_with fail
        go_ret
        exact ⟨_, rfl, ho, hg⟩
    · have he := Lib.hid (show l.take k = l.take m by rw [List.take_of_length_le (by rw [l1.out]; omega), List.take_of_length_le (by rw [l1.out]; omega)])
      go_wp2_with fail
      go_ret
      rw [← he.out]
      exact ⟨_, rfl, ho, hg⟩

set_option maxHeartbeats 1000000 in
theorem o_ints (A : Option Addr) (n c : Nat) (l : List Int) (w : World) (hl : SlI w A n c l) (hm : n ≤ 1000) :
    Calls Try.prog 44 #[.slice A n c] w (RetSl w (l.map int)) := by
  have l1 := Lib.hid hl.len
  have n1 := hl.le; have n2 := hl.small
  go_enter Try.func44, Try.ntmps44
  go_wp2_with fail
  go_loopw [3, 4] (fun v i wr => ∃ k : Nat, k ≤ n ∧ i = .int .i64 k ∧ Ow wr w.heap.size v ((l.take k).map int) ∧ Gn w wr) (fun _ i _ => n - (intOf i).toNat)
  case atStart => exact ⟨0, by omega, rfl, Ow.empty w (Nat.le_refl _), Gn.al _⟩
  case round =>
    obtain ⟨k, hk, rfl, ho, hg⟩ := hrel
    by_cases h1 : k < n
    · obtain ⟨b, o, z, rfl, hx, q1, q2, q3, q4⟩ := (hl.up hg).at_ h1
      have HX := Lib.hid (take_snoc' hx); clear hx
      go_wp2_with fail
      refine (x_fromInt z q3 q4 _).mono ?_
      rintro e w2 ⟨rfl, g2⟩
      have ho2 := ho.up g2
      have hg2 := hg.trans g2
      go_wp2_with (at_builtin; refine wpList_app (.tmp 12) (.tmp 18) rfl (ho2.up (Gn.al _)) (by have := hg2.size; simp; omega) rfl ((Blk.one (int z)).sl (by simp)) (by simp; omega) ?_; intro v3 w3 ho3 hg3; have hg4 := grown_gn (hg2.trans (Gn.al _)) (ho2.up (Gn.al _)) (Nat.le_refl _) hg3; clear hg3)
      exact ⟨⟨k + 1, by omega, by go_num, by rw [HX.out, List.map_append]; exact ho3, hg4⟩, by simp [intOf]; omega⟩
    · obtain rfl : k = n := by omega
      have he := Lib.hid (show l.take k = l from List.take_of_length_le (by rw [l1.out]; omega))
      rw [he.out] at ho
      go_wp2_with fail
      go_ret
      exact RetSl.of ho hg

theorem exactly_step {L : List Ext} {m : Nat} (h : L.length < m) : (L ++ [0]) ++ List.replicate (m - (L.length + 1)) 0 = L ++ List.replicate (m - L.length) 0 := by
  rw [List.append_assoc, show m - L.length = (m - (L.length + 1)) + 1 from by omega, List.replicate_succ]; rfl
set_option maxHeartbeats 1000000 in
theorem x_exactly (A : Option Addr) (n c : Nat) (l : List (Int × Int)) (m : Nat) (w : World) (hl : SlR w A n c l) (hm : m ≤ 1000) :
    Calls Try.prog 41 #[.slice A n c, .int .i64 m] w (RetOw w ((l.take m).map mkP ++ List.replicate (m - ((l.take m).map mkP).length) 0)) := by
  have n1 := hl.le; have n2 := hl.small
  have hL : ((l.take m).map mkP).length ≤ m := by simp; omega
  go_enter Try.func41, Try.ntmps41
  go_wp2_with fail
  refine (x_madeL A n c l m _ hl hm).mono ?_
  rintro e w1 ⟨v1, rfl, ho1, g1⟩
  generalize (l.take m).map mkP = L at *
  go_wp2_with fail
  go_loopw [5] (fun v wr => ∃ K : List Ext, K.length ≤ m ∧ Hid (K ++ List.replicate (m - K.length) 0 = L ++ List.replicate (m - L.length) 0) ∧ Ow wr w.heap.size v K ∧ (∃ A n c, v = .slice A n c) ∧ Gn w wr) (fun v _ => match v with | .slice _ n _ => m - n | _ => 0)
  case atStart => exact ⟨L, hL, Lib.hid rfl, ho1, (by obtain ⟨A, c, h, _⟩ := ho1.sl; exact ⟨_, _, _, h⟩), g1⟩
  case round =>
    obtain ⟨K, hK, HK, ho, ⟨A2, n2', c2, rfl⟩, hg⟩ := hrel
    obtain ⟨A3, c3, h3, hs⟩ := ho.sl
    obtain ⟨rfl, rfl, rfl⟩ : A2 = A3 ∧ n2' = K.length ∧ c2 = c3 := by injection h3 with a b c; exact ⟨a, b, c⟩
    have k1 := hs.le; have k2 := hs.small
    clear h3
    by_cases h1 : K.length < m
    · go_wp2_with (at_builtin; refine wpList_app (.tmp 13) (.tmp 15) rfl (ho.up (Gn.al _)) (by have := hg.size; simp; omega) rfl ((Blk.one (0)).sl (by simp)) (by simp; omega) ?_; intro v3 w3 ho3 hg3; have hg4 := grown_gn (hg.trans (Gn.al _)) (ho.up (Gn.al _)) (Nat.le_refl _) hg3; clear hg3)
      obtain ⟨A4, c4, h4, hs4⟩ := ho3.sl
      subst h4
      exact ⟨⟨K ++ [0], by simp; omega, Lib.hid (by rw [List.length_append]; exact (exactly_step h1).trans HK.out), ho3, ⟨_, _, _, rfl⟩, hg4⟩, by simp; omega⟩
    · go_wp2_with fail
      go_ret
      have e := HK.out
      rw [show m - K.length = 0 from by omega, List.replicate_zero, List.append_nil] at e
      rw [← e]
      exact ⟨_, rfl, ho, hg⟩
end Go.Proofs.Ytjchccpicddpoaa
