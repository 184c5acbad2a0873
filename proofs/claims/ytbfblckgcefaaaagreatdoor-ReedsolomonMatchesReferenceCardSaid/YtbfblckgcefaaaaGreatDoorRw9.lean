/- The walk of Corrupt: a word with errors. -/
import Derived.Test.YtbfblckgcefaaaaGreatDoorRw8
namespace Go.Proofs.YtbfblckgcefaaaaGreatDoor
open Go.RowKit Att Att.CRing
set_option maxRecDepth 100000 in
set_option maxHeartbeats 8000000 in
theorem y_corrupt (A B : Option Addr) (n c m d : Nat) (l : List F) (es : List (Int × Int)) (most : Nat) (w : World) (hl : SF w A n c l) (he : SEr w B m d es) (hn : n ≤ 1000000) (h0 : 0 < n) (hm : most ≤ 1000000) :
    Calls Tryz.prog 9 #[.slice A n c, .slice B m d, .int .i64 most] w fun e w' => ∃ (o : List F) (A' : Option Addr) (c' : Nat), o.length = n ∧ dis (co o) (co l) n ≤ most ∧ e = .returned (.tuple #[.slice A' n c', .int .i64 (dis (co o) (co l) n : Nat)]) ∧ SF w' A' n c' o ∧ Gn w w' := by
  have m1 := he.le; have m2 := he.small
  have ll := Lib.hid hl.len
  go_enter Tryz.func9, Tryz.ntmps9
  go_wp2_with (at_builtin; refine wpList_appF (.tmp 13) (.tmp 14) rfl (OF.empty w (Nat.le_refl _)) (by simp) rfl (hl.up (Gn.al _)) (by simp; omega) ?_; intro v1 w1 ho hgb)
  have hg := grown_gnF (Gn.al _) (OF.empty w (Nat.le_refl _)) (Nat.le_refl _) hgb
  clear hgb
  rw [List.nil_append] at ho
  obtain ⟨g, cp, rest, rfl, hr, hgb, hpc, hcc⟩ := ho.rf (by rw [ll.out]; exact h0)
  rw [ll.out] at hpc ⊢
  clear ho
  have hz0 : dis (co l) (co l) n = 0 := dis_zero.2 fun _ _ => rfl
  go_loopw [9, 10] (fun cv iv wr => ∃ (i : Nat) (o : List F), i ≤ m ∧ iv = .int .i64 i ∧ cv = .int .i64 (dis (co o) (co l) n : Nat) ∧ dis (co o) (co l) n ≤ most ∧ o.length = n ∧ RF wr g o rest ∧ Gn w wr) (fun _ iv _ => m - (intOf iv).toNat)
  case atStart => exact ⟨0, l, by omega, rfl, by rw [hz0]; rfl, by rw [hz0]; exact Nat.zero_le _, ll.out, hr, hg⟩
  case round =>
    clear hr hg hz0
    obtain ⟨i, o, hi, rfl, rfl, hd, ho, hr, hg⟩ := hrel
    have hdn := dis_le (co o) (co l) n
    replace ho := Lib.hid ho
    by_cases h1 : i < m
    · have hst : ∀ kk x, kk < n → co o kk = co l kk → x ≠ co l kk → dis (co (o.set kk x)) (co l) n = dis (co o) (co l) n + 1 := fun kk x a1 a2 a3 => dis_set a1 ho.out a2 a3
      replace hst := Lib.hid hst
      have ho2 := ho.out
      obtain ⟨be, oe, p, q, Ee, e1, e2, e3, hp, hq⟩ := (he.up hg).at_ h1
      subst Ee
      obtain ⟨p, rfl⟩ : ∃ p' : Nat, p = (p' : Int) := ⟨p.toNat, by omega⟩
      obtain ⟨kk, hkk⟩ : ∃ kk, kk = p % n := ⟨_, rfl⟩
      have hk1 : kk < n := by rw [hkk]; exact Nat.mod_lt _ h0
      have t1 : Int.tmod (p : Int) (n : Int) = (kk : Int) := by rw [Int.tmod_eq_emod_of_nonneg (by omega), hkk, Int.natCast_emod]
      have t2 : (p : Int) % (n : Int) = (kk : Int) := by rw [hkk, Int.natCast_emod]
      have t3 : IntKind.i64.wrap (p : Int) = (p : Int) := IntWalk.i64_in _ (by omega)
      have HR := r_reduce q
      obtain ⟨x, hx⟩ : ∃ x : F, x = int q := ⟨_, rfl⟩
      rw [← hx] at HR
      obtain ⟨y, hy⟩ : ∃ y, o[kk]? = some y := ⟨_, List.getElem?_eq_getElem (show kk < o.length by rw [ho2]; exact hk1)⟩
      obtain ⟨bl, ol, z, El, hz, l1, l2⟩ := (hl.up hg).at_ hk1
      subst El
      have c0 := blk_lt hr
      have c1 := hr.cell hy
      have f1 := box_fz (i := kk) hr
      have hyc := coF_get hy
      have hzc := coF_get hz
      have hyk := Lib.hid hy
      clear hx hkk hy hz hp
      replace hyc := Lib.hid hyc; replace hzc := Lib.hid hzc
      replace ho := ho2
      clear ho2
      replace ho := Lib.hid ho
      by_cases hx0 : x = 0
      · have bx : (Zm.i x != 0) = false := by rw [hx0, i_zero]; rfl
        have bx2 : (Zm.i x == 0) = true := by rw [hx0, i_zero]; rfl
        generalize hDe : dis (co o) (co l) n = D at *
        replace hDe := Lib.hid hDe
        clear hx0 hst hyc hzc
        go_wp2_with fail
        refine (HR _).mono ?_
        rintro e w2 ⟨rfl, rfl⟩
        go_wp2_with fail
        try simp only [List.append_eq, List.cons_append, List.nil_append]
        refine wp_region_gr (by kernel_rfl) (lex_of_chk (by kernel_rfl) (by kernel_rfl)) ?_
        repeat (go_big_quiet_step (fail))
        refine wpQuiet_nil ?_
        intro wq gd
        replace hr := hr.up gd
        replace hg := hg.trans gd
        clear gd
        go_wp2_with fail
        exact ⟨⟨i + 1, o, by omega, by go_num, by rw [hDe.out], by rw [hDe.out]; exact hd, ho.out, hr, hg⟩, by simp [intOf]; omega⟩
      · have bx : (Zm.i x != 0) = true := by
          rw [bne_iff_ne]
          exact fun e => hx0 (i_inj (by rw [e, i_zero]))
        have bx2 : (Zm.i x == 0) = false := by
          rw [beq_eq_false_iff_ne]
          exact fun e => hx0 (i_inj (by rw [e, i_zero]))
        by_cases hyz : y = z
        · subst hyz
          by_cases hmo : dis (co o) (co l) n < most
          · have hD2 := hst.out kk (y + x) hk1 (by rw [hyc.out, hzc.out]) (by
              rw [hzc.out]
              intro e
              exact hx0 (by rw [← zero_add x, ← sub_self y, CRing.sub_eq, add_assoc, add_comm (-y) x, ← add_assoc, e, ← CRing.sub_eq, sub_self]))
            have hset := fun W (h : RF W g o rest) => RF.set h (i := kk) (by rw [ho.out]; exact hk1) (y + x)
            have hlen2 : (o.set kk (y + x)).length = n := by rw [List.length_set, ho.out]
            have HA := r_addF y x
            have hb1 : decide (((dis (co o) (co l) n : Nat) : Int) < (most : Int)) = true := decide_eq_true (by omega)
            replace hD2 := Lib.hid hD2; replace hset := Lib.hid hset; replace hlen2 := Lib.hid hlen2
            generalize hDe : dis (co o) (co l) n = D at *
            replace hDe := Lib.hid hDe
            clear hx0 hst hyc hzc
            generalize y + x = s at *
            go_wp2_with fail
            refine (HR _).mono ?_
            rintro e w2 ⟨rfl, rfl⟩
            go_wp2_with fail
            try simp only [List.append_eq, List.cons_append, List.nil_append]
            refine wp_region_gr (by kernel_rfl) (lex_of_chk (by kernel_rfl) (by kernel_rfl)) ?_
            repeat (go_big_quiet_step (fail))
            refine wpQuiet_nil ?_
            intro wq gd
            replace hr := hr.up gd
            replace hg := hg.trans gd
            clear gd
            clear c0 c1 f1
            have c0 := blk_lt hr
            have c1 := hr.cell hyk.out
            have f1 := box_fz (i := kk) hr
            have hr2 := hset.out wq hr
            have hg2 := setF_below (i := kk) hg hgb s
            go_wp2_with fail
            refine (HA _).mono ?_
            rintro e w2 ⟨rfl, rfl⟩
            go_wp2_with fail
            exact ⟨⟨i + 1, o.set kk s, by omega, by go_num, by rw [hD2.out]; exact congrArg (Value.int .i64) (by omega), by rw [hD2.out]; omega, hlen2.out, hr2, hg2⟩, by simp [intOf]; omega⟩
          · have hb1 : decide (((dis (co o) (co l) n : Nat) : Int) < (most : Int)) = false := decide_eq_false (by omega)
            generalize hDe : dis (co o) (co l) n = D at *
            replace hDe := Lib.hid hDe
            clear hx0 hst hyc hzc
            go_wp2_with fail
            refine (HR _).mono ?_
            rintro e w2 ⟨rfl, rfl⟩
            go_wp2_with fail
            try simp only [List.append_eq, List.cons_append, List.nil_append]
            refine wp_region_gr (by kernel_rfl) (lex_of_chk (by kernel_rfl) (by kernel_rfl)) ?_
            repeat (go_big_quiet_step (fail))
            refine wpQuiet_nil ?_
            intro wq gd
            replace hr := hr.up gd
            replace hg := hg.trans gd
            clear gd
            go_wp2_with fail
            exact ⟨⟨i + 1, o, by omega, by go_num, by rw [hDe.out], by rw [hDe.out]; exact hd, ho.out, hr, hg⟩, by simp [intOf]; omega⟩
        · have by1 : (Zm.i y == Zm.i z) = false := by
            rw [beq_eq_false_iff_ne]
            exact fun e => hyz (i_inj e)
          generalize hDe : dis (co o) (co l) n = D at *
          replace hDe := Lib.hid hDe
          clear hx0 hst hyc hzc hyz
          go_wp2_with fail
          refine (HR _).mono ?_
          rintro e w2 ⟨rfl, rfl⟩
          go_wp2_with fail
          try simp only [List.append_eq, List.cons_append, List.nil_append]
          refine wp_region_gr (by kernel_rfl) (lex_of_chk (by kernel_rfl) (by kernel_rfl)) ?_
          repeat (go_big_quiet_step (fail))
          refine wpQuiet_nil ?_
          intro wq gd
          replace hr := hr.up gd
          replace hg := hg.trans gd
          clear gd
          go_wp2_with fail
          exact ⟨⟨i + 1, o, by omega, by go_num, by rw [hDe.out], by rw [hDe.out]; exact hd, ho.out, hr, hg⟩, by simp [intOf]; omega⟩
    · obtain rfl : i = m := by omega
      have hs := hr.sf (c := cp) (by rw [ho.out]; exact hpc) hcc
      rw [ho.out] at hs
      clear hr
      go_wp2_with fail
      go_ret2
      exact ⟨o, _, _, ho.out, hd, rfl, hs, hg⟩
end Go.Proofs.YtbfblckgcefaaaaGreatDoor
