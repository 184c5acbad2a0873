/- The walks of package reedsolomon: Distance, MinDistance, the rows of components, lift, EncodeExt, At, Is. -/
import Derived.Test.YtgambglgkilgkaaGreatDoorRw1
import Derived.Test.YtgambglgkilgkaaGreatDoorGq
import Derived.Test.YtgambglgkilgkaaGreatDoorGa
namespace Go.Proofs.YtgambglgkilgkaaGreatDoor
open Go.RowKit Att Att.CRing
/-- how many places differ, and by how much one is longer -/
def disL (l k : List F) : Nat := dis (co l) (co k) (min l.length k.length) + (max l.length k.length - min l.length k.length)
theorem coF_get {l : List F} {i : Nat} {x : F} (h : l[i]? = some x) : co l i = x := by
  have hi := (List.getElem?_eq_some_iff.1 h).1
  rw [co_get l i hi]
  exact (List.getElem?_eq_some_iff.1 h).2
theorem dis_eq {f g : Nat → F} {i : Nat} (h : f i = g i) : dis f g (i + 1) = dis f g i := by show dis f g i + _ = _; rw [if_pos h, Nat.add_zero]
theorem dis_ne {f g : Nat → F} {i : Nat} (h : f i ≠ g i) : dis f g (i + 1) = dis f g i + 1 := by show dis f g i + _ = _; rw [if_neg h]

theorem co_partB (l : List Ext) (i : Nat) : co (partB l) i = (co l i).b := by
  unfold co partB
  rw [List.getD_eq_getElem?_getD, List.getD_eq_getElem?_getD, List.getElem?_map]
  cases l[i]? with
  | none => rfl
  | some x => rfl

theorem s_ea (x : Ext) (w : World) : Calls Tryz.prog 15 #[.agg #[.int .u64 (Zm.i (Ext.a (x))), .int .u64 (Zm.i (Ext.b (x)))]] w fun e w' => e = .returned (.int .u64 (Zm.i (Ext.a x))) ∧ ∃ g, w' = gr w g := by
  refine calls_gr ?_
  go_enter Tryz.func15, Tryz.ntmps15
  go_wp2_with fail
  go_ret
  exact ⟨rfl, (Gn.al _).below⟩

theorem s_eb (x : Ext) (w : World) : Calls Tryz.prog 16 #[.agg #[.int .u64 (Zm.i (Ext.a (x))), .int .u64 (Zm.i (Ext.b (x)))]] w fun e w' => e = .returned (.int .u64 (Zm.i (Ext.b x))) ∧ ∃ g, w' = gr w g := by
  refine calls_gr ?_
  go_enter Tryz.func16, Tryz.ntmps16
  go_wp2_with fail
  go_ret
  exact ⟨rfl, (Gn.al _).below⟩

set_option maxHeartbeats 2000000 in
theorem s_compA (A : Option Addr) (n c : Nat) (l : List Ext) (w : World) (hl : Sl w A n c l) (hn : n ≤ 1000000) :
    Calls Tryz.prog 14 #[.slice A n c, .func (.func 15) #[] #[]] w fun e w' => e = .returned (.slice (some ⟨w.heap.size, 0, none⟩) n n) ∧ BF w' w.heap.size (partA l) ∧ Gn w w' := by
  have l1 := Lib.hid (show (partA l).length = n by rw [partA_length, hl.len])
  go_enter Tryz.func14, Tryz.ntmps14
  go_wp2_with (at_make; refine wpList_mkF (.tmp 9) (.tmp 9) n rfl rfl (by omega) ?_)
  have hb0 : BF (w.alloc (.cells (ff (List.replicate n 0)).toArray 28)) w.heap.size (mdF (partA l) n 0) := by rw [mdF_zero]; exact hnew w _
  have hg0 : Gn w (w.alloc (.cells (ff (List.replicate n 0)).toArray 28)) := Gn.al _
  generalize w.alloc (.cells (ff (List.replicate n 0)).toArray 28) = w0 at *
  go_loopw [13] (fun v wr => ∃ i : Nat, i ≤ n ∧ v = .int .i64 i ∧ BF wr w.heap.size (mdF (partA l) n i) ∧ Gn w wr) (fun v _ => n - (intOf v).toNat)
  case atStart => exact ⟨0, by omega, rfl, hb0, hg0⟩
  case round =>
    clear hb0 hg0
    obtain ⟨i, hi, rfl, hr, hg⟩ := hrel
    by_cases h1 : i < n
    · obtain ⟨b, o, x, rfl, hx, q1, q2, q3⟩ := (hl.up hg).at_ h1
      have hco : co (partA l) i = x.a := by rw [co_partA, co_at hx]
      have hst := Lib.hid (mdF_set (partA l) h1)
      rw [hco] at hst
      clear hx hco
      have hB1 := hr.up (Gn.al (.cells #[.int .u64 (Zm.i (Ext.a x)), .int .u64 (Zm.i (Ext.b x))] 30))
      have hg1 := hg.trans (Gn.al (.cells #[.int .u64 (Zm.i (Ext.a x)), .int .u64 (Zm.i (Ext.b x))] 30))
      have hlo := blk_lt hr
      have hlen := mdF_len (partA l) n i
      generalize mdF (partA l) n i = M at *
      obtain ⟨y, hy⟩ : ∃ y, M[i]? = some y := ⟨_, List.getElem?_eq_getElem (show i < M.length by omega)⟩
      clear hlen
      go_wp2_with fail
      generalize wr.alloc (.cells #[.int .u64 (Zm.i (Ext.a x)), .int .u64 (Zm.i (Ext.b x))] 30) = w1 at *
      clear hr hg q1 q2 q3
      refine (s_ea x _).mono ?_
      rintro e w2 ⟨rfl, g2⟩
      have g2 : Gn w1 w2 := g2
      have hB2 := hB1.up g2
      have hg2 := hg1.trans g2
      have c1 := hB2.cell hy
      have c3 := blk_lt hB2
      have f1 := box_fz (i := i) hB2
      have hB3 := BF.set hB2 (i := i) x.a
      have hg3 := setF_below (i := i) hg2 (Nat.le_refl _) x.a
      rw [hst.out] at hB3
      clear hy hB1 hg1 g2
      go_wp2_with fail
      exact ⟨⟨i + 1, by omega, by go_num, hB3, hg3⟩, by simp [intOf]; omega⟩
    · obtain rfl : i = n := by omega
      have he := Lib.hid (mdF_end (partA l) (n := i) (i := i) (.inl (Nat.le_refl _)))
      have hp := padF_self (partA l)
      rw [l1.out] at hp
      rw [he.out, hp] at hr
      clear hp
      go_wp2_with fail
      go_ret
      exact ⟨rfl, hr, hg⟩

set_option maxHeartbeats 2000000 in
theorem s_compB (A : Option Addr) (n c : Nat) (l : List Ext) (w : World) (hl : Sl w A n c l) (hn : n ≤ 1000000) :
    Calls Tryz.prog 14 #[.slice A n c, .func (.func 16) #[] #[]] w fun e w' => e = .returned (.slice (some ⟨w.heap.size, 0, none⟩) n n) ∧ BF w' w.heap.size (partB l) ∧ Gn w w' := by
  have l1 := Lib.hid (show (partB l).length = n by rw [partB_length, hl.len])
  go_enter Tryz.func14, Tryz.ntmps14
  go_wp2_with (at_make; refine wpList_mkF (.tmp 9) (.tmp 9) n rfl rfl (by omega) ?_)
  have hb0 : BF (w.alloc (.cells (ff (List.replicate n 0)).toArray 28)) w.heap.size (mdF (partB l) n 0) := by rw [mdF_zero]; exact hnew w _
  have hg0 : Gn w (w.alloc (.cells (ff (List.replicate n 0)).toArray 28)) := Gn.al _
  generalize w.alloc (.cells (ff (List.replicate n 0)).toArray 28) = w0 at *
  go_loopw [13] (fun v wr => ∃ i : Nat, i ≤ n ∧ v = .int .i64 i ∧ BF wr w.heap.size (mdF (partB l) n i) ∧ Gn w wr) (fun v _ => n - (intOf v).toNat)
  case atStart => exact ⟨0, by omega, rfl, hb0, hg0⟩
  case round =>
    clear hb0 hg0
    obtain ⟨i, hi, rfl, hr, hg⟩ := hrel
    by_cases h1 : i < n
    · obtain ⟨b, o, x, rfl, hx, q1, q2, q3⟩ := (hl.up hg).at_ h1
      have hco : co (partB l) i = x.b := by rw [co_partB, co_at hx]
      have hst := Lib.hid (mdF_set (partB l) h1)
      rw [hco] at hst
      clear hx hco
      have hB1 := hr.up (Gn.al (.cells #[.int .u64 (Zm.i (Ext.a x)), .int .u64 (Zm.i (Ext.b x))] 30))
      have hg1 := hg.trans (Gn.al (.cells #[.int .u64 (Zm.i (Ext.a x)), .int .u64 (Zm.i (Ext.b x))] 30))
      have hlo := blk_lt hr
      have hlen := mdF_len (partB l) n i
      generalize mdF (partB l) n i = M at *
      obtain ⟨y, hy⟩ : ∃ y, M[i]? = some y := ⟨_, List.getElem?_eq_getElem (show i < M.length by omega)⟩
      clear hlen
      go_wp2_with fail
      generalize wr.alloc (.cells #[.int .u64 (Zm.i (Ext.a x)), .int .u64 (Zm.i (Ext.b x))] 30) = w1 at *
      clear hr hg q1 q2 q3
      refine (s_eb x _).mono ?_
      rintro e w2 ⟨rfl, g2⟩
      have g2 : Gn w1 w2 := g2
      have hB2 := hB1.up g2
      have hg2 := hg1.trans g2
      have c1 := hB2.cell hy
      have c3 := blk_lt hB2
      have f1 := box_fz (i := i) hB2
      have hB3 := BF.set hB2 (i := i) x.b
      have hg3 := setF_below (i := i) hg2 (Nat.le_refl _) x.b
      rw [hst.out] at hB3
      clear hy hB1 hg1 g2
      go_wp2_with fail
      exact ⟨⟨i + 1, by omega, by go_num, hB3, hg3⟩, by simp [intOf]; omega⟩
    · obtain rfl : i = n := by omega
      have he := Lib.hid (mdF_end (partB l) (n := i) (i := i) (.inl (Nat.le_refl _)))
      have hp := padF_self (partB l)
      rw [l1.out] at hp
      rw [he.out, hp] at hr
      clear hp
      go_wp2_with fail
      go_ret
      exact ⟨rfl, hr, hg⟩

end Go.Proofs.YtgambglgkilgkaaGreatDoor
