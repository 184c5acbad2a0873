/- The walk of law09.sanity. -/
import Derived.Test.YtbfblckgcefaaaaGreatDoorRf
namespace Go.Proofs.YtbfblckgcefaaaaGreatDoor
open Go.RowKit Att Att.CRing
def x13 : Ext := ⟨fo 1, fo 3⟩
theorem r_negF (x : F) (w : World) : Calls Tryz.prog 26 #[.int .u64 (Zm.i (x))] w fun e w' => e = .returned (.int .u64 (Zm.i (-x))) ∧ w = w' := by
  have h := r_neg (Zm.i x) w
  rwa [int_i] at h
theorem r_neg1 (w : World) : Calls Tryz.prog 26 #[.int .u64 1] w fun e w' => e = .returned (.int .u64 (Zm.i (-1))) ∧ w = w' := r_negF 1 w
theorem x_neg13 (w : World) : Calls Tryz.prog 27 #[.agg #[.int .u64 1, .int .u64 3]] w fun e w' => e = .returned (.agg #[.int .u64 (Zm.i (Ext.a (-x13))), .int .u64 (Zm.i (Ext.b (-x13)))]) ∧ ∃ g, w' = gr w g := x_neg x13 w
theorem litG {w : World} (a b c : F) : SF (w.alloc (.cells #[.int .u64 1, .int .u64 (Zm.i (a)), .int .u64 (Zm.i (b)), .int .u64 (Zm.i (c))] 39)) (some ⟨w.heap.size, 0, none⟩) 4 4 [1, a, b, c] :=
  (show BF (w.alloc (.cells #[.int .u64 1, .int .u64 (Zm.i (a)), .int .u64 (Zm.i (b)), .int .u64 (Zm.i (c))] 39)) w.heap.size [1, a, b, c] from hnew w _).sf (by simp)
theorem litE2 {w : World} {a b c d : Int} {x y : Ext} (h1 : Zm.i (Ext.a x) = a) (h2 : Zm.i (Ext.b x) = b) (h3 : Zm.i (Ext.a y) = c) (h4 : Zm.i (Ext.b y) = d) :
    Sl (w.alloc (.cells #[.int .u64 a, .int .u64 b, .int .u64 c, .int .u64 d] 41)) (some ⟨w.heap.size, 0, none⟩) 2 2 [x, y] := by
  subst h1 h2 h3 h4
  exact (show Blk (w.alloc (.cells #[.int .u64 (Zm.i (Ext.a x)), .int .u64 (Zm.i (Ext.b x)), .int .u64 (Zm.i (Ext.a y)), .int .u64 (Zm.i (Ext.b y))] 41)) w.heap.size [x, y] from hnew w _).sl (by simp)
theorem s_decode4 {A : Option Addr} {c : Nat} {l : List F} {w : World} (hT : Tab w) (hl : SF w A 4 c l) :
    Calls Tryz.prog 11 #[.slice A 4 c, .int .i64 4] w fun e w' => ∃ r, DecIs (2 ^ (0 + 2)) (2 ^ 0) (root (0 + 2)) (co l) r ∧ RetX e w w' r :=
  s_decode A c l 0 2 w hT (by decide) (by decide) (by decide) hl
open Classical in
theorem s_is4y {A : Option Addr} {c : Nat} {w : World} (hT : Tab w) (hl : SF w A 4 c [fo 5, fo 5, fo 5, fo 5]) :
    Calls Tryz.prog 20 #[.slice A 4 c, .int .i64 4] w fun e w' => e = .returned (.tuple #[.bool true, .int .i64 0]) ∧ Gn w w' := by
  have h := s_is A c _ 0 2 w hT (by decide) (by decide) (by decide) hl
  rw [decide_eq_true (ex9g _)] at h
  exact h
open Classical in
theorem s_is4n {A : Option Addr} {c : Nat} {w : World} (hT : Tab w) (hl : SF w A 4 c [fo 5, fo 5, fo 5, fo 6]) :
    Calls Tryz.prog 20 #[.slice A 4 c, .int .i64 4] w fun e w' => e = .returned (.tuple #[.bool false, .int .i64 0]) ∧ Gn w w' := by
  have h := s_is A c _ 0 2 w hT (by decide) (by decide) (by decide) hl
  rw [decide_eq_false (ex9h _)] at h
  exact h
theorem s_at2 {A : Option Addr} {c : Nat} (w : World) (hl : Sl w A 2 c [0, x13]) :
    Calls Tryz.prog 18 #[.slice A 2 c, .int .i64 2, .int .i64 2] w fun e w' => e = .returned (.tuple #[.agg #[.int .u64 (Zm.i (Ext.a (-x13))), .int .u64 (Zm.i (Ext.b (-x13)))], .int .i64 0]) ∧ ∃ g, w' = gr w g := by
  have h := s_at A 2 c [0, x13] 1 1 2 w hl (by decide) (by decide) rfl (by decide) (by decide)
  rw [ex9j] at h
  exact h
set_option maxRecDepth 100000 in
set_option maxHeartbeats 8000000 in
theorem o_sanity9 (w : World) (hT : Tab w) :
    Calls Tryz.prog 5 #[] w fun e w' => e = .returned (.bool true) ∧ Gn w w' := by
  have hg : Gn w w := Gn.refl w
  have E2 := ex9b
  have hRt := r_rootN 2 (by decide)
  generalize root 2 = u at *
  have hNu := r_negF u
  have hN1 := r_neg1
  obtain ⟨v, hv⟩ : ∃ v : Ext, v = -x13 := ⟨_, rfl⟩
  have hNx := x_neg13
  have hAt := fun A c w h => s_at2 (A := A) (c := c) w h
  rw [← hv] at hNx hAt
  replace hv := Lib.hid hv
  replace E2 := Lib.hid E2
  go_enter Tryz.func5, Tryz.ntmps5
  go_wp2_with fail
  have hi : SF (w.alloc (.cells #[.int .u64 5] 39)) (some ⟨w.heap.size, 0, none⟩) 1 1 [fo 5] := litF [5] (by decide) (by decide)
  replace hg := hg.trans (Gn.al (w := w) (.cells #[.int .u64 5] 39))
  replace hT := hT.up (Gn.al (w := w) (.cells #[.int .u64 5] 39))
  generalize w.alloc (.cells #[.int .u64 5] 39) = w1 at *
  generalize w.heap.size = bhi at *
  refine (s_encode _ _ _ _ 4 _ hT hi (by decide) (by decide)).mono ?_
  rintro e w2 hR
  rw [ex9a] at hR
  obtain ⟨Aha, cha, rfl, ha, g⟩ := hR.get (n := 4) rfl
  replace hg := hg.trans g
  replace hT := hT.up g
  replace hi := hi.up g
  clear g
  clear hi
  go_wp2_with fail
  have hi : SF (w2.alloc (.cells #[.int .u64 0, .int .u64 1] 39)) (some ⟨w2.heap.size, 0, none⟩) 2 2 [fo 0, fo 1] := litF [0, 1] (by decide) (by decide)
  replace hg := hg.trans (Gn.al (w := w2) (.cells #[.int .u64 0, .int .u64 1] 39))
  replace hT := hT.up (Gn.al (w := w2) (.cells #[.int .u64 0, .int .u64 1] 39))
  replace ha := ha.up (Gn.al (w := w2) (.cells #[.int .u64 0, .int .u64 1] 39))
  generalize w2.alloc (.cells #[.int .u64 0, .int .u64 1] 39) = w3 at *
  generalize w2.heap.size = bhi at *
  refine (s_encode _ _ _ _ 2 _ hT hi (by decide) (by decide)).mono ?_
  rintro e w4 hR
  rw [E2.out] at hR
  obtain ⟨Ahb, chb, rfl, hb, g⟩ := hR.get (n := 4) rfl
  replace hg := hg.trans g
  replace hT := hT.up g
  replace ha := ha.up g
  replace hi := hi.up g
  clear g
  clear hi
  go_wp2_with fail
  refine (hRt _).mono ?_
  rintro e w5 ⟨rfl, rfl⟩
  go_wp2_with fail
  have hi : SF (w4.alloc (.cells #[.int .u64 5, .int .u64 5, .int .u64 7, .int .u64 5] 39)) (some ⟨w4.heap.size, 0, none⟩) 4 4 [fo 5, fo 5, fo 7, fo 5] := litF [5, 5, 7, 5] (by decide) (by decide)
  replace hg := hg.trans (Gn.al (w := w4) (.cells #[.int .u64 5, .int .u64 5, .int .u64 7, .int .u64 5] 39))
  replace hT := hT.up (Gn.al (w := w4) (.cells #[.int .u64 5, .int .u64 5, .int .u64 7, .int .u64 5] 39))
  replace ha := ha.up (Gn.al (w := w4) (.cells #[.int .u64 5, .int .u64 5, .int .u64 7, .int .u64 5] 39))
  replace hb := hb.up (Gn.al (w := w4) (.cells #[.int .u64 5, .int .u64 5, .int .u64 7, .int .u64 5] 39))
  generalize w4.alloc (.cells #[.int .u64 5, .int .u64 5, .int .u64 7, .int .u64 5] 39) = w6 at *
  generalize w4.heap.size = bhi at *
  refine (s_decode4 hT hi).mono ?_
  rintro e w7 ⟨r, hD, hX⟩
  obtain rfl := ex9e hD
  obtain ⟨Ahr, chr, rfl, hr, g⟩ := hX.get (n := 1) rfl
  replace hg := hg.trans g
  replace hT := hT.up g
  replace ha := ha.up g
  replace hb := hb.up g
  replace hi := hi.up g
  clear g hD
  clear hi
  go_wp2_with fail
  have hi : SF (w7.alloc (.cells #[.int .u64 5, .int .u64 5, .int .u64 7, .int .u64 7] 39)) (some ⟨w7.heap.size, 0, none⟩) 4 4 [fo 5, fo 5, fo 7, fo 7] := litF [5, 5, 7, 7] (by decide) (by decide)
  replace hg := hg.trans (Gn.al (w := w7) (.cells #[.int .u64 5, .int .u64 5, .int .u64 7, .int .u64 7] 39))
  replace hT := hT.up (Gn.al (w := w7) (.cells #[.int .u64 5, .int .u64 5, .int .u64 7, .int .u64 7] 39))
  replace ha := ha.up (Gn.al (w := w7) (.cells #[.int .u64 5, .int .u64 5, .int .u64 7, .int .u64 7] 39))
  replace hb := hb.up (Gn.al (w := w7) (.cells #[.int .u64 5, .int .u64 5, .int .u64 7, .int .u64 7] 39))
  replace hr := hr.up (Gn.al (w := w7) (.cells #[.int .u64 5, .int .u64 5, .int .u64 7, .int .u64 7] 39))
  generalize w7.alloc (.cells #[.int .u64 5, .int .u64 5, .int .u64 7, .int .u64 7] 39) = w8 at *
  generalize w7.heap.size = bhi at *
  refine (s_decode4 hT hi).mono ?_
  rintro e w9 ⟨r, hD, hX⟩
  obtain rfl := ex9f hD
  obtain ⟨Ahf, chf, rfl, hf, g⟩ := hX.get (n := 0) rfl
  replace hg := hg.trans g
  replace hT := hT.up g
  replace ha := ha.up g
  replace hb := hb.up g
  replace hr := hr.up g
  replace hi := hi.up g
  clear g hD
  clear hi hf
  go_wp2_with fail
  have hi : SF (w9.alloc (.cells #[.int .u64 1, .int .u64 2, .int .u64 3] 39)) (some ⟨w9.heap.size, 0, none⟩) 3 3 [fo 1, fo 2, fo 3] := litF [1, 2, 3] (by decide) (by decide)
  replace hg := hg.trans (Gn.al (w := w9) (.cells #[.int .u64 1, .int .u64 2, .int .u64 3] 39))
  replace hT := hT.up (Gn.al (w := w9) (.cells #[.int .u64 1, .int .u64 2, .int .u64 3] 39))
  replace ha := ha.up (Gn.al (w := w9) (.cells #[.int .u64 1, .int .u64 2, .int .u64 3] 39))
  replace hb := hb.up (Gn.al (w := w9) (.cells #[.int .u64 1, .int .u64 2, .int .u64 3] 39))
  replace hr := hr.up (Gn.al (w := w9) (.cells #[.int .u64 1, .int .u64 2, .int .u64 3] 39))
  generalize w9.alloc (.cells #[.int .u64 1, .int .u64 2, .int .u64 3] 39) = w10 at *
  generalize w9.heap.size = bhi at *
  refine (s_encode _ _ _ _ 2 _ hT hi (by decide) (by decide)).mono ?_
  rintro e w11 hR
  rw [ex9c _ rfl] at hR
  obtain ⟨Ahf, chf, rfl, hf, g⟩ := hR.get (n := 0) rfl
  replace hg := hg.trans g
  replace hT := hT.up g
  replace ha := ha.up g
  replace hb := hb.up g
  replace hr := hr.up g
  replace hi := hi.up g
  clear g
  clear hi hf
  go_wp2_with fail
  have hi : SF (w11.alloc (.cells #[.int .u64 1] 39)) (some ⟨w11.heap.size, 0, none⟩) 1 1 [fo 1] := litF [1] (by decide) (by decide)
  replace hg := hg.trans (Gn.al (w := w11) (.cells #[.int .u64 1] 39))
  replace hT := hT.up (Gn.al (w := w11) (.cells #[.int .u64 1] 39))
  replace ha := ha.up (Gn.al (w := w11) (.cells #[.int .u64 1] 39))
  replace hb := hb.up (Gn.al (w := w11) (.cells #[.int .u64 1] 39))
  replace hr := hr.up (Gn.al (w := w11) (.cells #[.int .u64 1] 39))
  generalize w11.alloc (.cells #[.int .u64 1] 39) = w12 at *
  generalize w11.heap.size = bhi at *
  refine (s_encode _ _ _ _ 3 _ hT hi (by decide) (by decide)).mono ?_
  rintro e w13 hR
  rw [ex9d _] at hR
  obtain ⟨Ahf, chf, rfl, hf, g⟩ := hR.get (n := 0) rfl
  replace hg := hg.trans g
  replace hT := hT.up g
  replace ha := ha.up g
  replace hb := hb.up g
  replace hr := hr.up g
  replace hi := hi.up g
  clear g
  clear hi hf
  go_wp2_with fail
  have hi : SF (w13.alloc (.cells #[.int .u64 5, .int .u64 5, .int .u64 5, .int .u64 5] 39)) (some ⟨w13.heap.size, 0, none⟩) 4 4 [fo 5, fo 5, fo 5, fo 5] := litF [5, 5, 5, 5] (by decide) (by decide)
  replace hg := hg.trans (Gn.al (w := w13) (.cells #[.int .u64 5, .int .u64 5, .int .u64 5, .int .u64 5] 39))
  replace hT := hT.up (Gn.al (w := w13) (.cells #[.int .u64 5, .int .u64 5, .int .u64 5, .int .u64 5] 39))
  replace ha := ha.up (Gn.al (w := w13) (.cells #[.int .u64 5, .int .u64 5, .int .u64 5, .int .u64 5] 39))
  replace hb := hb.up (Gn.al (w := w13) (.cells #[.int .u64 5, .int .u64 5, .int .u64 5, .int .u64 5] 39))
  replace hr := hr.up (Gn.al (w := w13) (.cells #[.int .u64 5, .int .u64 5, .int .u64 5, .int .u64 5] 39))
  generalize w13.alloc (.cells #[.int .u64 5, .int .u64 5, .int .u64 5, .int .u64 5] 39) = w14 at *
  generalize w13.heap.size = bhi at *
  refine (s_is4y hT hi).mono ?_
  rintro e w15 ⟨rfl, g⟩
  have g : Gn w14 w15 := g
  replace hg := hg.trans g
  replace hT := hT.up g
  replace ha := ha.up g
  replace hb := hb.up g
  replace hr := hr.up g
  replace hi := hi.up g
  clear g
  clear hi
  go_wp2_with fail
  have hi : SF (w15.alloc (.cells #[.int .u64 5, .int .u64 5, .int .u64 5, .int .u64 6] 39)) (some ⟨w15.heap.size, 0, none⟩) 4 4 [fo 5, fo 5, fo 5, fo 6] := litF [5, 5, 5, 6] (by decide) (by decide)
  replace hg := hg.trans (Gn.al (w := w15) (.cells #[.int .u64 5, .int .u64 5, .int .u64 5, .int .u64 6] 39))
  replace hT := hT.up (Gn.al (w := w15) (.cells #[.int .u64 5, .int .u64 5, .int .u64 5, .int .u64 6] 39))
  replace ha := ha.up (Gn.al (w := w15) (.cells #[.int .u64 5, .int .u64 5, .int .u64 5, .int .u64 6] 39))
  replace hb := hb.up (Gn.al (w := w15) (.cells #[.int .u64 5, .int .u64 5, .int .u64 5, .int .u64 6] 39))
  replace hr := hr.up (Gn.al (w := w15) (.cells #[.int .u64 5, .int .u64 5, .int .u64 5, .int .u64 6] 39))
  generalize w15.alloc (.cells #[.int .u64 5, .int .u64 5, .int .u64 5, .int .u64 6] 39) = w16 at *
  generalize w15.heap.size = bhi at *
  refine (s_is4n hT hi).mono ?_
  rintro e w17 ⟨rfl, g⟩
  have g : Gn w16 w17 := g
  replace hg := hg.trans g
  replace hT := hT.up g
  replace ha := ha.up g
  replace hb := hb.up g
  replace hr := hr.up g
  replace hi := hi.up g
  clear g
  clear hi
  go_wp2_with fail
  have hi : SF (w17.alloc (.cells #[.int .u64 5] 39)) (some ⟨w17.heap.size, 0, none⟩) 1 1 [fo 5] := litF [5] (by decide) (by decide)
  replace hg := hg.trans (Gn.al (w := w17) (.cells #[.int .u64 5] 39))
  replace hT := hT.up (Gn.al (w := w17) (.cells #[.int .u64 5] 39))
  replace ha := ha.up (Gn.al (w := w17) (.cells #[.int .u64 5] 39))
  replace hb := hb.up (Gn.al (w := w17) (.cells #[.int .u64 5] 39))
  replace hr := hr.up (Gn.al (w := w17) (.cells #[.int .u64 5] 39))
  generalize w17.alloc (.cells #[.int .u64 5] 39) = w18 at *
  generalize w17.heap.size = bhi at *
  refine (s_is_bad _ _ _ 4 _ (by decide) (by decide) ex9i).mono ?_
  rintro e w19 ⟨rfl, g⟩
  have g : Gn w18 w19 := g
  replace hg := hg.trans g
  replace hT := hT.up g
  replace ha := ha.up g
  replace hb := hb.up g
  replace hr := hr.up g
  replace hi := hi.up g
  clear g
  clear hi
  go_wp2_with fail
  have hi : Sl (w19.alloc (.cells #[.int .u64 0, .int .u64 0, .int .u64 1, .int .u64 3] 41)) (some ⟨w19.heap.size, 0, none⟩) 2 2 [0, x13] := litE2 (by rfl) (by rfl) (by rfl) (by rfl)
  replace hg := hg.trans (Gn.al (w := w19) (.cells #[.int .u64 0, .int .u64 0, .int .u64 1, .int .u64 3] 41))
  replace hT := hT.up (Gn.al (w := w19) (.cells #[.int .u64 0, .int .u64 0, .int .u64 1, .int .u64 3] 41))
  replace ha := ha.up (Gn.al (w := w19) (.cells #[.int .u64 0, .int .u64 0, .int .u64 1, .int .u64 3] 41))
  replace hb := hb.up (Gn.al (w := w19) (.cells #[.int .u64 0, .int .u64 0, .int .u64 1, .int .u64 3] 41))
  replace hr := hr.up (Gn.al (w := w19) (.cells #[.int .u64 0, .int .u64 0, .int .u64 1, .int .u64 3] 41))
  generalize w19.alloc (.cells #[.int .u64 0, .int .u64 0, .int .u64 1, .int .u64 3] 41) = w20 at *
  generalize w19.heap.size = bhi at *
  refine (hAt _ _ _ hi).mono ?_
  rintro e w21 ⟨rfl, g⟩
  have g : Gn w20 w21 := g
  replace hg := hg.trans g
  replace hT := hT.up g
  replace ha := ha.up g
  replace hb := hb.up g
  replace hr := hr.up g
  replace hi := hi.up g
  clear g
  clear hi
  go_wp2_with fail
  have hz : (w21.alloc (.cells #[.int .u64 (Zm.i (Ext.a v)), .int .u64 (Zm.i (Ext.b v))] 41)).heap.size = w21.heap.size + 1 := by simp
  have hx := hnew w21 (.cells #[.int .u64 (Zm.i (Ext.a v)), .int .u64 (Zm.i (Ext.b v))] 41)
  replace hg := hg.trans (Gn.al (w := w21) (.cells #[.int .u64 (Zm.i (Ext.a v)), .int .u64 (Zm.i (Ext.b v))] 41))
  replace hT := hT.up (Gn.al (w := w21) (.cells #[.int .u64 (Zm.i (Ext.a v)), .int .u64 (Zm.i (Ext.b v))] 41))
  replace ha := ha.up (Gn.al (w := w21) (.cells #[.int .u64 (Zm.i (Ext.a v)), .int .u64 (Zm.i (Ext.b v))] 41))
  replace hb := hb.up (Gn.al (w := w21) (.cells #[.int .u64 (Zm.i (Ext.a v)), .int .u64 (Zm.i (Ext.b v))] 41))
  replace hr := hr.up (Gn.al (w := w21) (.cells #[.int .u64 (Zm.i (Ext.a v)), .int .u64 (Zm.i (Ext.b v))] 41))
  generalize w21.alloc (.cells #[.int .u64 (Zm.i (Ext.a v)), .int .u64 (Zm.i (Ext.b v))] 41) = w22 at *
  generalize w21.heap.size = bhx at *
  have hi : Sl (w22.alloc (.cells #[.int .u64 0, .int .u64 0, .int .u64 1, .int .u64 0] 41)) (some ⟨bhx + 1, 0, none⟩) 2 2 [0, ⟨fo 1, fo 0⟩] := by rw [← hz]; exact litE2 (by rfl) (by rfl) (by rfl) (by rfl)
  replace hg := hg.trans (Gn.al (w := w22) (.cells #[.int .u64 0, .int .u64 0, .int .u64 1, .int .u64 0] 41))
  replace hT := hT.up (Gn.al (w := w22) (.cells #[.int .u64 0, .int .u64 0, .int .u64 1, .int .u64 0] 41))
  replace ha := ha.up (Gn.al (w := w22) (.cells #[.int .u64 0, .int .u64 0, .int .u64 1, .int .u64 0] 41))
  replace hb := hb.up (Gn.al (w := w22) (.cells #[.int .u64 0, .int .u64 0, .int .u64 1, .int .u64 0] 41))
  replace hr := hr.up (Gn.al (w := w22) (.cells #[.int .u64 0, .int .u64 0, .int .u64 1, .int .u64 0] 41))
  replace hx := Gn.block (Gn.al (w := w22) (.cells #[.int .u64 0, .int .u64 0, .int .u64 1, .int .u64 0] 41)) hx
  clear hz
  generalize w22.alloc (.cells #[.int .u64 0, .int .u64 0, .int .u64 1, .int .u64 0] 41) = w23 at *
  refine (s_at_bad _ 2 _ 2 4 _ (by decide) (by decide) (ex9k 2 rfl)).mono ?_
  rintro e w24 ⟨rfl, g⟩
  have g : Gn w23 w24 := g
  replace hg := hg.trans g
  replace hT := hT.up g
  replace ha := ha.up g
  replace hb := hb.up g
  replace hr := hr.up g
  replace hx := Gn.block g hx
  replace hi := hi.up g
  clear g
  clear hi
  go_wp2_with fail
  replace hg := hg.trans (Gn.al (w := w24) (.cells #[.int .u64 0, .int .u64 0] 41))
  replace hT := hT.up (Gn.al (w := w24) (.cells #[.int .u64 0, .int .u64 0] 41))
  replace ha := ha.up (Gn.al (w := w24) (.cells #[.int .u64 0, .int .u64 0] 41))
  replace hb := hb.up (Gn.al (w := w24) (.cells #[.int .u64 0, .int .u64 0] 41))
  replace hr := hr.up (Gn.al (w := w24) (.cells #[.int .u64 0, .int .u64 0] 41))
  replace hx := Gn.block (Gn.al (w := w24) (.cells #[.int .u64 0, .int .u64 0] 41)) hx
  generalize w24.alloc (.cells #[.int .u64 0, .int .u64 0] 41) = w25 at *
  have ia : isF _ (.slice Aha 4 cha) w25 := ⟨_, _, _, rfl, ha⟩
  have ib : isF _ (.slice Ahb 4 chb) w25 := ⟨_, _, _, rfl, hb⟩
  have ir : isF _ (.slice Ahr 1 chr) w25 := ⟨_, _, _, rfl, hr⟩
  have r1 := box_a hx; have r2 := box_b hx; have r5 := blk_lt hx
  try simp only [List.append_eq, List.cons_append, List.nil_append]
  refine Fk.wp_region_flow 84 (by kernel_rfl) (by kernel_rfl) ?_
  refine Fk.flow_one rfl (freeB_spec (by kernel_rfl)) ?_
  go_big_quiet_step (fail)
  refine wpQuiet_nil ?_
  refine flow_exS _ rfl (ex_row4 (arg_lit (n := 5) (by decide)) (arg_lit (n := 5) (by decide)) (arg_lit (n := 5) (by decide)) (arg_lit (n := 5) (by decide)) rfl (want_fill (by kernel_rfl) (by kernel_rfl))) ?_
  refine flow_knS (.bool true) rfl (ex_call2 (k_same9 (by simp) rfl) rfl (by kernel_rfl) (want_fill (by kernel_rfl) (by kernel_rfl)) (arg_f0 (by kernel_rfl) rfl ia) (arg_fv 0 rfl (by kernel_rfl) (by kernel_rfl))) ?_
  conv => arg 8; simp only [Act.put, List.setIfInBounds_toArray, List.set_cons_succ, List.set_cons_zero]
  refine Fk.flow_one rfl (freeB_spec (by kernel_rfl)) ?_
  go_big_quiet_step (fail)
  refine wpQuiet_nil ?_
  refine Fk.flow_one rfl (freeB_spec (by kernel_rfl)) ?_
  go_big_quiet_step (fail)
  refine wpQuiet_nil ?_
  refine Fk.flow_one rfl (freeB_spec (by kernel_rfl)) ?_
  go_big_quiet_step (fail)
  refine wpQuiet_nil ?_
  refine Fk.flow_one rfl (freeB_spec (by kernel_rfl)) ?_
  go_big_quiet_step (fail)
  refine wpQuiet_nil ?_
  refine Fk.flow_one rfl (freeB_spec (by kernel_rfl)) ?_
  go_big_quiet_step (fail)
  refine wpQuiet_nil ?_
  refine Fk.flow_one rfl (freeB_spec (by kernel_rfl)) ?_
  go_big_quiet_step (fail)
  refine wpQuiet_nil ?_
  refine Fk.flow_one rfl (freeB_spec (by kernel_rfl)) ?_
  go_big_quiet_step (fail)
  refine wpQuiet_nil ?_
  apply Fk.flow_is
  · exact freeB_spec (by kernel_rfl)
  · intro g K hK
    go_wp2_with fail
    refine (hN1 _).mono ?_
    rintro e w' ⟨rfl, rfl⟩
    go_wp2_with fail
    exact hK _ (Up.refl _)
  · rfl
  conv => arg 8; simp only [Act.put, List.setIfInBounds_toArray, List.set_cons_succ, List.set_cons_zero]
  refine Fk.flow_one rfl (freeB_spec (by kernel_rfl)) ?_
  go_big_quiet_step (fail)
  refine wpQuiet_nil ?_
  apply Fk.flow_is
  · exact freeB_spec (by kernel_rfl)
  · intro g K hK
    go_wp2_with fail
    refine (hNu _).mono ?_
    rintro e w' ⟨rfl, rfl⟩
    go_wp2_with fail
    exact hK _ (Up.refl _)
  · rfl
  conv => arg 8; simp only [Act.put, List.setIfInBounds_toArray, List.set_cons_succ, List.set_cons_zero]
  refine flow_exS _ rfl (ex_row4 (arg_lit (n := 1) (by decide)) (arg_v (by kernel_rfl) rfl) (arg_v (by kernel_rfl) rfl) (arg_v (by kernel_rfl) rfl) rfl (want_fill (by kernel_rfl) (by kernel_rfl))) ?_
  refine flow_knS (.bool true) rfl (ex_call2 (k_same9 (by simp) rfl) rfl (by kernel_rfl) (want_fill (by kernel_rfl) (by kernel_rfl)) (arg_f0 (by kernel_rfl) rfl ib) (arg_fv 0 rfl (by kernel_rfl) (by kernel_rfl))) ?_
  conv => arg 8; simp only [Act.put, List.setIfInBounds_toArray, List.set_cons_succ, List.set_cons_zero]
  refine Fk.flow_one rfl (freeB_spec (by kernel_rfl)) ?_
  go_big_quiet_step (fail)
  refine wpQuiet_nil ?_
  refine Fk.flow_one rfl (freeB_spec (by kernel_rfl)) ?_
  go_big_quiet_step (fail)
  refine wpQuiet_nil ?_
  refine Fk.flow_one rfl (freeB_spec (by kernel_rfl)) ?_
  go_big_quiet_step (fail)
  refine wpQuiet_nil ?_
  refine Fk.flow_one rfl (freeB_spec (by kernel_rfl)) ?_
  go_big_quiet_step (fail)
  refine wpQuiet_nil ?_
  refine Fk.flow_one rfl (freeB_spec (by kernel_rfl)) ?_
  go_big_quiet_step (fail)
  refine wpQuiet_nil ?_
  refine Fk.flow_one rfl (freeB_spec (by kernel_rfl)) ?_
  go_big_quiet_step (fail)
  refine wpQuiet_nil ?_
  refine Fk.flow_one rfl (freeB_spec (by kernel_rfl)) ?_
  go_big_quiet_step (fail)
  refine wpQuiet_nil ?_
  refine flow_exS _ rfl (ex_row1 (arg_lit (n := 5) (by decide)) rfl (want_fill (by kernel_rfl) (by kernel_rfl))) ?_
  refine flow_knS (.bool true) rfl (ex_call2 (k_same9 (by simp) rfl) rfl (by kernel_rfl) (want_fill (by kernel_rfl) (by kernel_rfl)) (arg_f0 (by kernel_rfl) rfl ir) (arg_fv 0 rfl (by kernel_rfl) (by kernel_rfl))) ?_
  conv => arg 8; simp only [Act.put, List.setIfInBounds_toArray, List.set_cons_succ, List.set_cons_zero]
  refine Fk.flow_one rfl (freeB_spec (by kernel_rfl)) ?_
  go_big_quiet_step (fail)
  refine wpQuiet_nil ?_
  refine Fk.flow_one rfl (freeB_spec (by kernel_rfl)) ?_
  go_big_quiet_step (fail)
  refine wpQuiet_nil ?_
  refine Fk.flow_one rfl (freeB_spec (by kernel_rfl)) ?_
  go_big_quiet_step (fail)
  refine wpQuiet_nil ?_
  refine Fk.flow_one rfl (freeB_spec (by kernel_rfl)) ?_
  go_big_quiet_step (fail)
  refine wpQuiet_nil ?_
  refine Fk.flow_one rfl (freeB_spec (by kernel_rfl)) ?_
  go_big_quiet_step (fail)
  refine wpQuiet_nil ?_
  refine Fk.flow_one rfl (freeB_spec (by kernel_rfl)) ?_
  go_big_quiet_step (fail)
  refine wpQuiet_nil ?_
  refine Fk.flow_one rfl (freeB_spec (by kernel_rfl)) ?_
  go_big_quiet_step (fail)
  refine wpQuiet_nil ?_
  refine Fk.flow_one rfl (freeB_spec (by kernel_rfl)) ?_
  go_big_quiet_step (fail)
  refine wpQuiet_nil ?_
  refine Fk.flow_one rfl (freeB_spec (by kernel_rfl)) ?_
  go_big_quiet_step (fail)
  refine wpQuiet_nil ?_
  refine Fk.flow_one rfl (freeB_spec (by kernel_rfl)) ?_
  go_big_quiet_step (fail)
  refine wpQuiet_nil ?_
  refine Fk.flow_one rfl (freeB_spec (by kernel_rfl)) ?_
  go_big_quiet_step (fail)
  refine wpQuiet_nil ?_
  refine Fk.flow_one rfl (freeB_spec (by kernel_rfl)) ?_
  go_big_quiet_step (fail)
  refine wpQuiet_nil ?_
  refine Fk.flow_one rfl (freeB_spec (by kernel_rfl)) ?_
  go_big_quiet_step (fail)
  refine wpQuiet_nil ?_
  refine Fk.flow_one rfl (freeB_spec (by kernel_rfl)) ?_
  go_big_quiet_step (fail)
  refine wpQuiet_nil ?_
  refine Fk.flow_one rfl (freeB_spec (by kernel_rfl)) ?_
  go_big_quiet_step (fail)
  refine wpQuiet_nil ?_
  refine Fk.flow_one rfl (freeB_spec (by kernel_rfl)) ?_
  go_big_quiet_step (fail)
  refine wpQuiet_nil ?_
  refine Fk.flow_one rfl (freeB_spec (by kernel_rfl)) ?_
  go_big_quiet_step (fail)
  refine wpQuiet_nil ?_
  refine Fk.flow_one rfl (freeB_spec (by kernel_rfl)) ?_
  go_big_quiet_step (fail)
  refine wpQuiet_nil ?_
  refine Fk.flow_one rfl (freeB_spec (by kernel_rfl)) ?_
  go_big_quiet_step (fail)
  refine wpQuiet_nil ?_
  refine Fk.flow_one rfl (freeB_spec (by kernel_rfl)) ?_
  go_big_quiet_step (fail)
  refine wpQuiet_nil ?_
  refine Fk.flow_one rfl (freeB_spec (by kernel_rfl)) ?_
  go_big_quiet_step (fail)
  refine wpQuiet_nil ?_
  refine Fk.flow_one rfl (freeB_spec (by kernel_rfl)) ?_
  go_big_quiet_step (fail)
  refine wpQuiet_nil ?_
  refine Fk.flow_one rfl (freeB_spec (by kernel_rfl)) ?_
  go_big_quiet_step (fail)
  refine wpQuiet_nil ?_
  refine Fk.flow_one rfl (freeB_spec (by kernel_rfl)) ?_
  go_big_quiet_step (fail)
  refine wpQuiet_nil ?_
  refine Fk.flow_one rfl (freeB_spec (by kernel_rfl)) ?_
  go_big_quiet_step (fail)
  refine wpQuiet_nil ?_
  refine Fk.flow_one rfl (freeB_spec (by kernel_rfl)) ?_
  go_big_quiet_step (fail)
  refine wpQuiet_nil ?_
  refine Fk.flow_one rfl (freeB_spec (by kernel_rfl)) ?_
  go_big_quiet_step (fail)
  refine wpQuiet_nil ?_
  refine Fk.flow_one rfl (freeB_spec (by kernel_rfl)) ?_
  go_big_quiet_step (fail)
  refine wpQuiet_nil ?_
  refine Fk.flow_one rfl (freeB_spec (by kernel_rfl)) ?_
  go_big_quiet_step (fail)
  refine wpQuiet_nil ?_
  refine Fk.flow_one rfl (freeB_spec (by kernel_rfl)) ?_
  go_big_quiet_step (fail)
  refine wpQuiet_nil ?_
  refine Fk.flow_one rfl (freeB_spec (by kernel_rfl)) ?_
  go_big_quiet_step (fail)
  refine wpQuiet_nil ?_
  refine Fk.flow_one rfl (freeB_spec (by kernel_rfl)) ?_
  go_big_quiet_step (fail)
  refine wpQuiet_nil ?_
  refine Fk.flow_one rfl (freeB_spec (by kernel_rfl)) ?_
  go_big_quiet_step (fail)
  refine wpQuiet_nil ?_
  refine Fk.flow_one rfl (freeB_spec (by kernel_rfl)) ?_
  go_big_quiet_step (fail)
  refine wpQuiet_nil ?_
  refine Fk.flow_one rfl (freeB_spec (by kernel_rfl)) ?_
  go_big_quiet_step (fail)
  refine wpQuiet_nil ?_
  refine Fk.flow_one rfl (freeB_spec (by kernel_rfl)) ?_
  go_big_quiet_step (fail)
  refine wpQuiet_nil ?_
  refine Fk.flow_one rfl (freeB_spec (by kernel_rfl)) ?_
  go_big_quiet_step (fail)
  refine wpQuiet_nil ?_
  refine Fk.flow_one rfl (freeB_spec (by kernel_rfl)) ?_
  go_big_quiet_step (fail)
  refine wpQuiet_nil ?_
  refine Fk.flow_one rfl (freeB_spec (by kernel_rfl)) ?_
  go_big_quiet_step (fail)
  refine wpQuiet_nil ?_
  apply Fk.flow_is
  · exact freeB_spec (by kernel_rfl)
  · intro g K hK
    go_wp2_with fail
    refine (hNx _).mono ?_
    rintro e w' ⟨rfl, g', rfl⟩
    go_wp2_with fail
    exact hK _ (up_comp g g')
  · rfl
  refine Fk.flow_one rfl (freeB_spec (by kernel_rfl)) ?_
  go_big_quiet_step (fail)
  refine wpQuiet_nil ?_
  refine Fk.flow_one rfl (freeB_spec (by kernel_rfl)) ?_
  go_big_quiet_step (fail)
  refine wpQuiet_nil ?_
  refine Fk.flow_one rfl (freeB_spec (by kernel_rfl)) ?_
  go_big_quiet_step (fail)
  refine wpQuiet_nil ?_
  refine Fk.flow_one rfl (freeB_spec (by kernel_rfl)) ?_
  go_big_quiet_step (fail)
  refine wpQuiet_nil ?_
  refine Fk.flow_one rfl (freeB_spec (by kernel_rfl)) ?_
  go_big_quiet_step (fail)
  refine wpQuiet_nil ?_
  refine Fk.flow_one rfl (freeB_spec (by kernel_rfl)) ?_
  go_big_quiet_step (fail)
  refine wpQuiet_nil ?_
  refine Fk.flow_one rfl (freeB_spec (by kernel_rfl)) ?_
  go_big_quiet_step (fail)
  refine wpQuiet_nil ?_
  refine Fk.flow_one rfl (freeB_spec (by kernel_rfl)) ?_
  go_big_quiet_step (fail)
  refine wpQuiet_nil ?_
  refine Fk.flow_one rfl (freeB_spec (by kernel_rfl)) ?_
  go_big_quiet_step (fail)
  refine wpQuiet_nil ?_
  refine Fk.flow_one rfl (freeB_spec (by kernel_rfl)) ?_
  go_big_quiet_step (fail)
  refine wpQuiet_nil ?_
  refine Fk.flow_one rfl (freeB_spec (by kernel_rfl)) ?_
  go_big_quiet_step (fail)
  refine wpQuiet_nil ?_
  apply Fk.flow_is
  · exact freeB_spec (by kernel_rfl)
  · intro g K hK
    go_wp2_with fail
    refine (s_minDistance 4 4 16 rfl (by decide) (by decide) _).mono ?_
    rintro e w' ⟨rfl, rfl⟩
    go_wp2_with fail
    exact hK _ (Up.refl _)
  · rfl
  conv => arg 8; simp only [Act.put, List.setIfInBounds_toArray, List.set_cons_succ, List.set_cons_zero]
  refine Fk.flow_one rfl (freeB_spec (by kernel_rfl)) ?_
  go_big_quiet_step (fail)
  refine wpQuiet_nil ?_
  refine Fk.flow_one rfl (freeB_spec (by kernel_rfl)) ?_
  go_big_quiet_step (fail)
  refine wpQuiet_nil ?_
  refine Fk.flow_one rfl (freeB_spec (by kernel_rfl)) ?_
  go_big_quiet_step (fail)
  refine wpQuiet_nil ?_
  refine flow_exS _ rfl (ex_row3 (arg_lit (n := 1) (by decide)) (arg_lit (n := 2) (by decide)) (arg_lit (n := 3) (by decide)) rfl (want_fill (by kernel_rfl) (by kernel_rfl))) ?_
  refine flow_exS _ rfl (ex_row2 (arg_lit (n := 1) (by decide)) (arg_lit (n := 4) (by decide)) rfl (want_fill (by kernel_rfl) (by kernel_rfl))) ?_
  refine flow_knS (.int .i64 2) rfl (ex_call2 (k_dist9 (by simp) (by simp) ex9l) rfl (by kernel_rfl) (want_fill (by kernel_rfl) (by kernel_rfl)) (arg_fv 1 rfl (by kernel_rfl) (by kernel_rfl)) (arg_fv 0 rfl (by kernel_rfl) (by kernel_rfl))) ?_
  conv => arg 8; simp only [Act.put, List.setIfInBounds_toArray, List.set_cons_succ, List.set_cons_zero]
  refine Fk.flow_one rfl (freeB_spec (by kernel_rfl)) ?_
  go_big_quiet_step (fail)
  refine wpQuiet_nil ?_
  refine Fk.flow_one rfl (freeB_spec (by kernel_rfl)) ?_
  go_big_quiet_step (fail)
  refine wpQuiet_nil ?_
  intro V N' X hΓ hdis g hX
  clear hΓ hdis hX
  have hgn : Gn w25 (gr w25 g) := ⟨g, rfl⟩
  generalize gr w25 g = wz at *
  conv => arg 5; simp only [fill, Act.put, List.setIfInBounds_toArray, List.set_cons_succ, List.set_cons_zero]
  replace hg := hg.trans hgn
  go_wp2_with fail
  go_ret
  exact ⟨rfl, hg⟩
end Go.Proofs.YtbfblckgcefaaaaGreatDoor
