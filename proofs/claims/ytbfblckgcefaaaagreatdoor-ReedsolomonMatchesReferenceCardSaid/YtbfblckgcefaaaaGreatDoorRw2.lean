/- The walks of package reedsolomon: Distance, MinDistance, the rows of components, lift, EncodeExt, At, Is. -/
import Derived.Test.YtbfblckgcefaaaaGreatDoorRw1
import Derived.Test.YtbfblckgcefaaaaGreatDoorGq
import Derived.Test.YtbfblckgcefaaaaGreatDoorGa
namespace Go.Proofs.YtbfblckgcefaaaaGreatDoor
open Go.RowKit Att Att.CRing
/-- how many places differ, and by how much one is longer -/
def disL (l k : List F) : Nat := dis (co l) (co k) (min l.length k.length) + (max l.length k.length - min l.length k.length)
theorem coF_get {l : List F} {i : Nat} {x : F} (h : l[i]? = some x) : co l i = x := by
  have hi := (List.getElem?_eq_some_iff.1 h).1
  rw [co_get l i hi]
  exact (List.getElem?_eq_some_iff.1 h).2
theorem dis_eq {f g : Nat → F} {i : Nat} (h : f i = g i) : dis f g (i + 1) = dis f g i := by show dis f g i + _ = _; rw [if_pos h, Nat.add_zero]
theorem dis_ne {f g : Nat → F} {i : Nat} (h : f i ≠ g i) : dis f g (i + 1) = dis f g i + 1 := by show dis f g i + _ = _; rw [if_neg h]

set_option maxHeartbeats 2000000 in
theorem s_distance (A B : Option Addr) (n c m d : Nat) (l k : List F) (w : World) (hl : SF w A n c l) (hk : SF w B m d k) (hn : n ≤ 1000000) (hm : m ≤ 1000000) :
    Calls Tryz.prog 23 #[.slice A n c, .slice B m d] w fun e w' => e = .returned (.int .i64 (disL l k)) ∧ ∃ g, w' = gr w g := by
  obtain ⟨N, hN⟩ : ∃ N, N = min n m := ⟨_, rfl⟩
  obtain ⟨D, hD⟩ : ∃ D, D = max n m - min n m := ⟨_, rfl⟩
  have he : disL l k = dis (co l) (co k) N + D := by unfold disL; rw [hl.len, hk.len, ← hD, ← hN]
  rw [he]
  clear he
  have hNn : N ≤ n := by omega
  have hNm : N ≤ m := by omega
  have hDb : D ≤ 1000000 := by omega
  have hdl : ∀ i, dis (co l) (co k) i ≤ i := dis_le _ _
  rcases Nat.lt_or_ge n m with h | h
  all_goals
    go_enter Tryz.func23, Tryz.ntmps23
    go_wp2_with fail
    go_loopw [6, 21] (fun v u wr => ∃ i : Nat, i ≤ N ∧ u = .int .i64 i ∧ v = .int .i64 ((dis (co l) (co k) i + D : Nat)) ∧ Gn w wr) (fun _ u _ => N - (intOf u).toNat)
    case atStart => exact ⟨0, by omega, rfl, congrArg (Value.int .i64) (by simp only [dis]; omega), Gn.refl _⟩
    case round =>
      obtain ⟨i, hi, rfl, rfl, hg⟩ := hrel
      have hdi := hdl i
      by_cases h1 : i < N
      · have hl2 := hl.up hg; have hk2 := hk.up hg
        obtain ⟨b1, o1, x, E1, hx, p1, q1⟩ := hl2.at_ (show i < n by omega)
        obtain ⟨b2, o2, y, E2, hy, p2, q2⟩ := hk2.at_ (show i < m by omega)
        subst E1 E2
        have h3 : i < n := by omega
        have h4 : i < m := by omega
        by_cases hxy : x = y
        · subst hxy
          have hst := Lib.hid (dis_eq (f := co l) (g := co k) ((coF_get hx).trans (coF_get hy).symm))
          generalize dis (co l) (co k) i = q at *
          clear hx hy hl2 hk2 hl hk
          go_wp2_with fail
          try simp only [List.append_eq, List.cons_append, List.nil_append]
          refine wp_region_gr (by kernel_rfl) (lex_of_chk (by kernel_rfl) (by kernel_rfl)) ?_
          repeat (go_big_quiet_step (fail))
          refine wpQuiet_nil ?_
          intro wq gd
          replace hg := hg.trans gd
          clear gd
          go_wp2_with fail
          exact ⟨⟨i + 1, by omega, by go_num, by rw [hst.out], hg⟩, by simp [intOf]; omega⟩
        · have hst := Lib.hid (dis_ne (f := co l) (g := co k) (i := i) (by rw [coF_get hx, coF_get hy]; exact hxy))
          have hne : ¬ (Zm.i x = Zm.i y) := fun e => hxy (i_inj e)
          have b1' : (Zm.i x == Zm.i y) = false := by simp [hne]
          have b2' : (Zm.i x != Zm.i y) = true := by simp [hne]
          generalize dis (co l) (co k) i = q at *
          clear hx hy hl2 hk2 hl hk hxy
          go_wp2_with fail
          try simp only [List.append_eq, List.cons_append, List.nil_append]
          refine wp_region_gr (by kernel_rfl) (lex_of_chk (by kernel_rfl) (by kernel_rfl)) ?_
          repeat (go_big_quiet_step (fail))
          refine wpQuiet_nil ?_
          intro wq gd
          replace hg := hg.trans gd
          clear gd
          go_wp2_with fail
          exact ⟨⟨i + 1, by omega, by go_num, by rw [hst.out]; exact congrArg (Value.int .i64) (by omega), hg⟩, by simp [intOf]; omega⟩
      · obtain rfl : i = N := by omega
        go_wp2_with fail
        go_ret
        exact ⟨rfl, hg⟩

theorem s_minDistance (k b P : Nat) (hP : (b : Int) * (k : Int) = (P : Int)) (hk : k ≤ P) (hb : P ≤ 1048576) (w : World) :
    Calls Tryz.prog 28 #[.int .i64 k, .int .i64 b] w fun e w' => e = .returned (.int .i64 ((P - k + 1 : Nat))) ∧ w = w' := by
  go_enter Tryz.func28, Tryz.ntmps28
  go_wp2_with fail
  go_ret
  exact ⟨congrArg (fun z => Ending.returned (.int .i64 z)) (by omega), rfl⟩

theorem y_minDistance (k b P : Nat) (hP : (b : Int) * (k : Int) = (P : Int)) (hk : k ≤ P) (hb : P ≤ 1048576) (w : World) :
    Calls Tryz.prog 42 #[.int .i64 k, .int .i64 b] w fun e w' => e = .returned (.int .i64 ((P - k + 1 : Nat))) ∧ w = w' := by
  go_enter Tryz.func42, Tryz.ntmps42
  go_wp2_with fail
  go_ret
  exact ⟨congrArg (fun z => Ending.returned (.int .i64 z)) (by omega), rfl⟩

theorem co_partB (l : List Ext) (i : Nat) : co (partB l) i = (co l i).b := by
  unfold co partB
  rw [List.getD_eq_getElem?_getD, List.getD_eq_getElem?_getD, List.getElem?_map]
  cases l[i]? with
  | none => rfl
  | some x => rfl

theorem s_ea (x : Ext) (w : World) : Calls Tryz.prog 46 #[.agg #[.int .u64 (Zm.i (Ext.a (x))), .int .u64 (Zm.i (Ext.b (x)))]] w fun e w' => e = .returned (.int .u64 (Zm.i (Ext.a x))) ∧ ∃ g, w' = gr w g := by
  refine calls_gr ?_
  go_enter Tryz.func46, Tryz.ntmps46
  go_wp2_with fail
  go_ret
  exact ⟨rfl, (Gn.al _).below⟩

theorem s_eb (x : Ext) (w : World) : Calls Tryz.prog 47 #[.agg #[.int .u64 (Zm.i (Ext.a (x))), .int .u64 (Zm.i (Ext.b (x)))]] w fun e w' => e = .returned (.int .u64 (Zm.i (Ext.b x))) ∧ ∃ g, w' = gr w g := by
  refine calls_gr ?_
  go_enter Tryz.func47, Tryz.ntmps47
  go_wp2_with fail
  go_ret
  exact ⟨rfl, (Gn.al _).below⟩

theorem s_da (x : Ext) (w : World) : Calls Tryz.prog 40 #[.agg #[.int .u64 (Zm.i (Ext.a (x))), .int .u64 (Zm.i (Ext.b (x)))]] w fun e w' => e = .returned (.int .u64 (Zm.i (Ext.a x))) ∧ ∃ g, w' = gr w g := by
  refine calls_gr ?_
  go_enter Tryz.func40, Tryz.ntmps40
  go_wp2_with fail
  go_ret
  exact ⟨rfl, (Gn.al _).below⟩

set_option maxHeartbeats 2000000 in
theorem s_compA (A : Option Addr) (n c : Nat) (l : List Ext) (w : World) (hl : Sl w A n c l) (hn : n ≤ 1000000) :
    Calls Tryz.prog 39 #[.slice A n c, .func (.func 46) #[] #[]] w fun e w' => e = .returned (.slice (some ⟨w.heap.size, 0, none⟩) n n) ∧ BF w' w.heap.size (partA l) ∧ Gn w w' := by
  have l1 := Lib.hid (show (partA l).length = n by rw [partA_length, hl.len])
  go_enter Tryz.func39, Tryz.ntmps39
  go_wp2_with (at_make; refine wpList_mkF (.tmp 9) (.tmp 9) n rfl rfl (by omega) ?_)
  have hb0 : BF (w.alloc (.cells (ff (List.replicate n 0)).toArray 39)) w.heap.size (mdF (partA l) n 0) := by rw [mdF_zero]; exact hnew w _
  have hg0 : Gn w (w.alloc (.cells (ff (List.replicate n 0)).toArray 39)) := Gn.al _
  generalize w.alloc (.cells (ff (List.replicate n 0)).toArray 39) = w0 at *
  go_loopw [13] (fun v wr => ∃ i : Nat, i ≤ n ∧ v = .int .i64 i ∧ BF wr w.heap.size (mdF (partA l) n i) ∧ Gn w wr) (fun v _ => n - (intOf v).toNat)
  case atStart => exact ⟨0, by omega, rfl, hb0, hg0⟩
  case round =>
    clear hb0 hg0
    obtain ⟨i, hi, rfl, hr, hg⟩ := hrel
    by_cases h1 : i < n
    · obtain ⟨b, o, x, rfl, hx, q1, q2, q3⟩ := (hl.up hg).at_ h1
      have hco : co (partA l) i = x.a := by rw [co_partA, co_at hx]
      have hst := Lib.hid (mdF_set (partA l) h1)
      rw [hco] at hst
      clear hx hco
      have hB1 := hr.up (Gn.al (.cells #[.int .u64 (Zm.i (Ext.a x)), .int .u64 (Zm.i (Ext.b x))] 41))
      have hg1 := hg.trans (Gn.al (.cells #[.int .u64 (Zm.i (Ext.a x)), .int .u64 (Zm.i (Ext.b x))] 41))
      have hlo := blk_lt hr
      have hlen := mdF_len (partA l) n i
      generalize mdF (partA l) n i = M at *
      obtain ⟨y, hy⟩ : ∃ y, M[i]? = some y := ⟨_, List.getElem?_eq_getElem (show i < M.length by omega)⟩
      clear hlen
      go_wp2_with fail
      generalize wr.alloc (.cells #[.int .u64 (Zm.i (Ext.a x)), .int .u64 (Zm.i (Ext.b x))] 41) = w1 at *
      clear hr hg q1 q2 q3
      refine (s_ea x _).mono ?_
      rintro e w2 ⟨rfl, g2⟩
      have g2 : Gn w1 w2 := g2
      have hB2 := hB1.up g2
      have hg2 := hg1.trans g2
      have c1 := hB2.cell hy
      have c3 := blk_lt hB2
      have f1 := box_fz (i := i) hB2
      have hB3 := BF.set hB2 (i := i) x.a
      have hg3 := setF_below (i := i) hg2 (Nat.le_refl _) x.a
      rw [hst.out] at hB3
      clear hy hB1 hg1 g2
      go_wp2_with fail
      exact ⟨⟨i + 1, by omega, by go_num, hB3, hg3⟩, by simp [intOf]; omega⟩
    · obtain rfl : i = n := by omega
      have he := Lib.hid (mdF_end (partA l) (n := i) (i := i) (.inl (Nat.le_refl _)))
      have hp := padF_self (partA l)
      rw [l1.out] at hp
      rw [he.out, hp] at hr
      clear hp
      go_wp2_with fail
      go_ret
      exact ⟨rfl, hr, hg⟩

set_option maxHeartbeats 2000000 in
theorem s_compB (A : Option Addr) (n c : Nat) (l : List Ext) (w : World) (hl : Sl w A n c l) (hn : n ≤ 1000000) :
    Calls Tryz.prog 39 #[.slice A n c, .func (.func 47) #[] #[]] w fun e w' => e = .returned (.slice (some ⟨w.heap.size, 0, none⟩) n n) ∧ BF w' w.heap.size (partB l) ∧ Gn w w' := by
  have l1 := Lib.hid (show (partB l).length = n by rw [partB_length, hl.len])
  go_enter Tryz.func39, Tryz.ntmps39
  go_wp2_with (at_make; refine wpList_mkF (.tmp 9) (.tmp 9) n rfl rfl (by omega) ?_)
  have hb0 : BF (w.alloc (.cells (ff (List.replicate n 0)).toArray 39)) w.heap.size (mdF (partB l) n 0) := by rw [mdF_zero]; exact hnew w _
  have hg0 : Gn w (w.alloc (.cells (ff (List.replicate n 0)).toArray 39)) := Gn.al _
  generalize w.alloc (.cells (ff (List.replicate n 0)).toArray 39) = w0 at *
  go_loopw [13] (fun v wr => ∃ i : Nat, i ≤ n ∧ v = .int .i64 i ∧ BF wr w.heap.size (mdF (partB l) n i) ∧ Gn w wr) (fun v _ => n - (intOf v).toNat)
  case atStart => exact ⟨0, by omega, rfl, hb0, hg0⟩
  case round =>
    clear hb0 hg0
    obtain ⟨i, hi, rfl, hr, hg⟩ := hrel
    by_cases h1 : i < n
    · obtain ⟨b, o, x, rfl, hx, q1, q2, q3⟩ := (hl.up hg).at_ h1
      have hco : co (partB l) i = x.b := by rw [co_partB, co_at hx]
      have hst := Lib.hid (mdF_set (partB l) h1)
      rw [hco] at hst
      clear hx hco
      have hB1 := hr.up (Gn.al (.cells #[.int .u64 (Zm.i (Ext.a x)), .int .u64 (Zm.i (Ext.b x))] 41))
      have hg1 := hg.trans (Gn.al (.cells #[.int .u64 (Zm.i (Ext.a x)), .int .u64 (Zm.i (Ext.b x))] 41))
      have hlo := blk_lt hr
      have hlen := mdF_len (partB l) n i
      generalize mdF (partB l) n i = M at *
      obtain ⟨y, hy⟩ : ∃ y, M[i]? = some y := ⟨_, List.getElem?_eq_getElem (show i < M.length by omega)⟩
      clear hlen
      go_wp2_with fail
      generalize wr.alloc (.cells #[.int .u64 (Zm.i (Ext.a x)), .int .u64 (Zm.i (Ext.b x))] 41) = w1 at *
      clear hr hg q1 q2 q3
      refine (s_eb x _).mono ?_
      rintro e w2 ⟨rfl, g2⟩
      have g2 : Gn w1 w2 := g2
      have hB2 := hB1.up g2
      have hg2 := hg1.trans g2
      have c1 := hB2.cell hy
      have c3 := blk_lt hB2
      have f1 := box_fz (i := i) hB2
      have hB3 := BF.set hB2 (i := i) x.b
      have hg3 := setF_below (i := i) hg2 (Nat.le_refl _) x.b
      rw [hst.out] at hB3
      clear hy hB1 hg1 g2
      go_wp2_with fail
      exact ⟨⟨i + 1, by omega, by go_num, hB3, hg3⟩, by simp [intOf]; omega⟩
    · obtain rfl : i = n := by omega
      have he := Lib.hid (mdF_end (partB l) (n := i) (i := i) (.inl (Nat.le_refl _)))
      have hp := padF_self (partB l)
      rw [l1.out] at hp
      rw [he.out, hp] at hr
      clear hp
      go_wp2_with fail
      go_ret
      exact ⟨rfl, hr, hg⟩

set_option maxHeartbeats 2000000 in
theorem s_compD (A : Option Addr) (n c : Nat) (l : List Ext) (w : World) (hl : Sl w A n c l) (hn : n ≤ 1000000) :
    Calls Tryz.prog 39 #[.slice A n c, .func (.func 40) #[] #[]] w fun e w' => e = .returned (.slice (some ⟨w.heap.size, 0, none⟩) n n) ∧ BF w' w.heap.size (partA l) ∧ Gn w w' := by
  have l1 := Lib.hid (show (partA l).length = n by rw [partA_length, hl.len])
  go_enter Tryz.func39, Tryz.ntmps39
  go_wp2_with (at_make; refine wpList_mkF (.tmp 9) (.tmp 9) n rfl rfl (by omega) ?_)
  have hb0 : BF (w.alloc (.cells (ff (List.replicate n 0)).toArray 39)) w.heap.size (mdF (partA l) n 0) := by rw [mdF_zero]; exact hnew w _
  have hg0 : Gn w (w.alloc (.cells (ff (List.replicate n 0)).toArray 39)) := Gn.al _
  generalize w.alloc (.cells (ff (List.replicate n 0)).toArray 39) = w0 at *
  go_loopw [13] (fun v wr => ∃ i : Nat, i ≤ n ∧ v = .int .i64 i ∧ BF wr w.heap.size (mdF (partA l) n i) ∧ Gn w wr) (fun v _ => n - (intOf v).toNat)
  case atStart => exact ⟨0, by omega, rfl, hb0, hg0⟩
  case round =>
    clear hb0 hg0
    obtain ⟨i, hi, rfl, hr, hg⟩ := hrel
    by_cases h1 : i < n
    · obtain ⟨b, o, x, rfl, hx, q1, q2, q3⟩ := (hl.up hg).at_ h1
      have hco : co (partA l) i = x.a := by rw [co_partA, co_at hx]
      have hst := Lib.hid (mdF_set (partA l) h1)
      rw [hco] at hst
      clear hx hco
      have hB1 := hr.up (Gn.al (.cells #[.int .u64 (Zm.i (Ext.a x)), .int .u64 (Zm.i (Ext.b x))] 41))
      have hg1 := hg.trans (Gn.al (.cells #[.int .u64 (Zm.i (Ext.a x)), .int .u64 (Zm.i (Ext.b x))] 41))
      have hlo := blk_lt hr
      have hlen := mdF_len (partA l) n i
      generalize mdF (partA l) n i = M at *
      obtain ⟨y, hy⟩ : ∃ y, M[i]? = some y := ⟨_, List.getElem?_eq_getElem (show i < M.length by omega)⟩
      clear hlen
      go_wp2_with fail
      generalize wr.alloc (.cells #[.int .u64 (Zm.i (Ext.a x)), .int .u64 (Zm.i (Ext.b x))] 41) = w1 at *
      clear hr hg q1 q2 q3
      refine (s_da x _).mono ?_
      rintro e w2 ⟨rfl, g2⟩
      have g2 : Gn w1 w2 := g2
      have hB2 := hB1.up g2
      have hg2 := hg1.trans g2
      have c1 := hB2.cell hy
      have c3 := blk_lt hB2
      have f1 := box_fz (i := i) hB2
      have hB3 := BF.set hB2 (i := i) x.a
      have hg3 := setF_below (i := i) hg2 (Nat.le_refl _) x.a
      rw [hst.out] at hB3
      clear hy hB1 hg1 g2
      go_wp2_with fail
      exact ⟨⟨i + 1, by omega, by go_num, hB3, hg3⟩, by simp [intOf]; omega⟩
    · obtain rfl : i = n := by omega
      have he := Lib.hid (mdF_end (partA l) (n := i) (i := i) (.inl (Nat.le_refl _)))
      have hp := padF_self (partA l)
      rw [l1.out] at hp
      rw [he.out, hp] at hr
      clear hp
      go_wp2_with fail
      go_ret
      exact ⟨rfl, hr, hg⟩

set_option maxHeartbeats 2000000 in
theorem s_lift (A : Option Addr) (n c : Nat) (l : List F) (w : World) (hl : SF w A n c l) (hn : n ≤ 1000000) :
    Calls Tryz.prog 38 #[.slice A n c] w fun e w' => e = .returned (.slice (some ⟨w.heap.size, 0, none⟩) n n) ∧ Blk w' w.heap.size (liftE l) ∧ Gn w w' := by
  have l1 := Lib.hid (show (liftE l).length = n by rw [liftE_length, hl.len])
  go_enter Tryz.func38, Tryz.ntmps38
  go_wp2_with (at_make; refine wpList_mk (.tmp 7) (.tmp 7) n rfl rfl (by omega) ?_)
  have hb0 : Blk (w.alloc (.cells (fl (List.replicate n 0)).toArray 41)) w.heap.size (Fi (liftE l) 0) := by rw [Fi_zero, l1.out]; exact hnew w _
  have hg0 : Gn w (w.alloc (.cells (fl (List.replicate n 0)).toArray 41)) := Gn.al _
  generalize w.alloc (.cells (fl (List.replicate n 0)).toArray 41) = w0 at *
  go_loopw [11] (fun v wr => ∃ i : Nat, i ≤ n ∧ v = .int .i64 i ∧ Blk wr w.heap.size (Fi (liftE l) i) ∧ Gn w wr) (fun v _ => n - (intOf v).toNat)
  case atStart => exact ⟨0, by omega, rfl, hb0, hg0⟩
  case round =>
    clear hb0 hg0
    obtain ⟨i, hi, rfl, hr, hg⟩ := hrel
    by_cases h1 : i < n
    · have hl2 := hl.up hg
      obtain ⟨b, o, x, E1, hx, q1, q2⟩ := hl2.at_ h1
      subst E1
      have hget : (liftE l)[i]? = some (Ext.base x) := by unfold liftE; rw [List.getElem?_map, hx]; rfl
      have hst := Lib.hid (Fi_set hget)
      have h0 := Fi_get (liftE l) (i := i) (by rw [l1.out]; exact h1)
      have hil := Lib.hid (show i < (Fi (liftE l) i).length by rw [Fi_length _ (by rw [l1.out]; exact hi), l1.out]; exact h1)
      clear hx hget hl2
      generalize Fi (liftE l) i = M at *
      go_wp2_with fail
      refine (e_fromBase x _).mono ?_
      rintro e w2 ⟨rfl, g2⟩
      have g2 : Gn wr w2 := g2
      have hB2 := hr.up g2
      have hg2 := hg.trans g2
      clear hr hg g2 q1 q2
      obtain ⟨c1, c2⟩ := hB2.cell h0
      have c3 := blk_lt hB2
      have f0 := box_fz (i := i * 2) hB2
      have f1 := box_fz (i := i * 2 + 1) hB2
      have hB3 := Blk.set hB2 hil.out (Ext.base x)
      have hg3 := setE_below (i := i) hg2 (Nat.le_refl _) (Ext.base x)
      rw [hst.out] at hB3
      clear h0
      go_wp2_with fail
      exact ⟨⟨i + 1, by omega, by go_num, hB3, hg3⟩, by simp [intOf]; omega⟩
    · obtain rfl : i = n := by omega
      have he := Fi_end (liftE l)
      rw [l1.out] at he
      rw [he] at hr
      clear he
      go_wp2_with fail
      go_ret
      exact ⟨rfl, hr, hg⟩
end Go.Proofs.YtbfblckgcefaaaaGreatDoor
