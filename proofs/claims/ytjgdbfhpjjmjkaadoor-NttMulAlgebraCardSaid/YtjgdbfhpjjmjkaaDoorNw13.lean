/- The walk of law04.sanity. -/
import Derived.Test.YtjgdbfhpjjmjkaaDoorNx
namespace Go.Proofs.YtjgdbfhpjjmjkaaDoor
open Go.RowKit Att Att.CRing
set_option maxHeartbeats 4000000 in
theorem o_sanity4 (w : World) (hT : Tab w) :
    Calls Tryd.prog 12 #[] w fun e w' => e = .returned (.bool true) ∧ Gn w w' := by
  go_enter Tryd.func12, Tryd.ntmps12
  have hg : Gn w w := Gn.refl w
  go_wp2_with fail
  have hi : SF (w.alloc (.cells #[.int .u64 5, .int .u64 7] 34)) (some ⟨w.heap.size, 0, none⟩) 2 2 [fo 5, fo 7] := litF [5, 7] (by decide) (by decide)
  replace hg := hg.trans (Gn.al (w := w) (.cells #[.int .u64 5, .int .u64 7] 34))
  replace hT := hT.up (Gn.al (w := w) (.cells #[.int .u64 5, .int .u64 7] 34))
  generalize w.alloc (.cells #[.int .u64 5, .int .u64 7] 34) = w1 at *
  generalize w.heap.size = bhi at *
  refine (n_forward _ _ _ _ _ hT hi (by decide)).mono ?_
  rintro e w2 hR
  rw [ex4a] at hR
  obtain ⟨Aha, cha, rfl, ha, g⟩ := hR.get (n := 2) rfl
  replace hg := hg.trans g
  replace hT := hT.up g
  replace hi := hi.up g
  clear g
  clear hi
  go_wp2_with fail
  have hi : SF (w2.alloc (.cells #[.int .u64 12, .int .u64 18446744069414584319] 34)) (some ⟨w2.heap.size, 0, none⟩) 2 2 [fo 12, fo 18446744069414584319] := litF [12, 18446744069414584319] (by decide) (by decide)
  replace hg := hg.trans (Gn.al (w := w2) (.cells #[.int .u64 12, .int .u64 18446744069414584319] 34))
  replace hT := hT.up (Gn.al (w := w2) (.cells #[.int .u64 12, .int .u64 18446744069414584319] 34))
  replace ha := ha.up (Gn.al (w := w2) (.cells #[.int .u64 12, .int .u64 18446744069414584319] 34))
  generalize w2.alloc (.cells #[.int .u64 12, .int .u64 18446744069414584319] 34) = w3 at *
  generalize w2.heap.size = bhi at *
  refine (n_inverse _ _ _ _ _ hT hi (by decide)).mono ?_
  rintro e w4 hR
  rw [ex4b] at hR
  obtain ⟨Ahb, chb, rfl, hb, g⟩ := hR.get (n := 2) rfl
  replace hg := hg.trans g
  replace hT := hT.up g
  replace ha := ha.up g
  replace hi := hi.up g
  clear g
  clear hi
  go_wp2_with fail
  have hi : SF (w4.alloc (.cells #[.int .u64 3] 34)) (some ⟨w4.heap.size, 0, none⟩) 1 1 [fo 3] := litF [3] (by decide) (by decide)
  replace hg := hg.trans (Gn.al (w := w4) (.cells #[.int .u64 3] 34))
  replace hT := hT.up (Gn.al (w := w4) (.cells #[.int .u64 3] 34))
  replace ha := ha.up (Gn.al (w := w4) (.cells #[.int .u64 3] 34))
  replace hb := hb.up (Gn.al (w := w4) (.cells #[.int .u64 3] 34))
  generalize w4.alloc (.cells #[.int .u64 3] 34) = w5 at *
  generalize w4.heap.size = bhi at *
  refine (n_extend _ _ _ _ 4 _ hT hi (by decide) (by decide)).mono ?_
  rintro e w6 hR
  rw [ex4c] at hR
  obtain ⟨Ahc, chc, rfl, hc, g⟩ := hR.get (n := 4) rfl
  replace hg := hg.trans g
  replace hT := hT.up g
  replace ha := ha.up g
  replace hb := hb.up g
  replace hi := hi.up g
  clear g
  clear hi
  go_wp2_with fail
  have hz : (w6.alloc (.cells #[.int .u64 1, .int .u64 2] 34)).heap.size = w6.heap.size + 1 := by simp
  have hi : SF (w6.alloc (.cells #[.int .u64 1, .int .u64 2] 34)) (some ⟨w6.heap.size, 0, none⟩) 2 2 [fo 1, fo 2] := litF [1, 2] (by decide) (by decide)
  replace hg := hg.trans (Gn.al (w := w6) (.cells #[.int .u64 1, .int .u64 2] 34))
  replace hT := hT.up (Gn.al (w := w6) (.cells #[.int .u64 1, .int .u64 2] 34))
  replace ha := ha.up (Gn.al (w := w6) (.cells #[.int .u64 1, .int .u64 2] 34))
  replace hb := hb.up (Gn.al (w := w6) (.cells #[.int .u64 1, .int .u64 2] 34))
  replace hc := hc.up (Gn.al (w := w6) (.cells #[.int .u64 1, .int .u64 2] 34))
  generalize w6.alloc (.cells #[.int .u64 1, .int .u64 2] 34) = w7 at *
  generalize w6.heap.size = bhi at *
  have hj : SF (w7.alloc (.cells #[.int .u64 3, .int .u64 4, .int .u64 5] 34)) (some ⟨bhi + 1, 0, none⟩) 3 3 [fo 3, fo 4, fo 5] := by rw [← hz]; exact litF [3, 4, 5] (by decide) (by decide)
  replace hg := hg.trans (Gn.al (w := w7) (.cells #[.int .u64 3, .int .u64 4, .int .u64 5] 34))
  replace hT := hT.up (Gn.al (w := w7) (.cells #[.int .u64 3, .int .u64 4, .int .u64 5] 34))
  replace ha := ha.up (Gn.al (w := w7) (.cells #[.int .u64 3, .int .u64 4, .int .u64 5] 34))
  replace hb := hb.up (Gn.al (w := w7) (.cells #[.int .u64 3, .int .u64 4, .int .u64 5] 34))
  replace hc := hc.up (Gn.al (w := w7) (.cells #[.int .u64 3, .int .u64 4, .int .u64 5] 34))
  replace hi := hi.up (Gn.al (w := w7) (.cells #[.int .u64 3, .int .u64 4, .int .u64 5] 34))
  clear hz
  generalize w7.alloc (.cells #[.int .u64 3, .int .u64 4, .int .u64 5] 34) = w8 at *
  refine (n_mul _ _ _ _ _ _ _ _ _ hT hi hj (by decide) (by decide)).mono ?_
  rintro e w9 hR
  rw [ex4d] at hR
  obtain ⟨Ahd, chd, rfl, hd, g⟩ := hR.get (n := 4) rfl
  replace hg := hg.trans g
  replace hT := hT.up g
  replace ha := ha.up g
  replace hb := hb.up g
  replace hc := hc.up g
  replace hi := hi.up g
  replace hj := hj.up g
  clear g
  clear hi
  clear hj
  go_wp2_with fail
  have hi : SF (w9.alloc (.cells #[.int .u64 0, .int .u64 1, .int .u64 0, .int .u64 0] 34)) (some ⟨w9.heap.size, 0, none⟩) 4 4 [fo 0, fo 1, fo 0, fo 0] := litF [0, 1, 0, 0] (by decide) (by decide)
  replace hg := hg.trans (Gn.al (w := w9) (.cells #[.int .u64 0, .int .u64 1, .int .u64 0, .int .u64 0] 34))
  replace hT := hT.up (Gn.al (w := w9) (.cells #[.int .u64 0, .int .u64 1, .int .u64 0, .int .u64 0] 34))
  replace ha := ha.up (Gn.al (w := w9) (.cells #[.int .u64 0, .int .u64 1, .int .u64 0, .int .u64 0] 34))
  replace hb := hb.up (Gn.al (w := w9) (.cells #[.int .u64 0, .int .u64 1, .int .u64 0, .int .u64 0] 34))
  replace hc := hc.up (Gn.al (w := w9) (.cells #[.int .u64 0, .int .u64 1, .int .u64 0, .int .u64 0] 34))
  replace hd := hd.up (Gn.al (w := w9) (.cells #[.int .u64 0, .int .u64 1, .int .u64 0, .int .u64 0] 34))
  generalize w9.alloc (.cells #[.int .u64 0, .int .u64 1, .int .u64 0, .int .u64 0] 34) = w10 at *
  generalize w9.heap.size = bhi at *
  refine (n_forward _ _ _ _ _ hT hi (by decide)).mono ?_
  rintro e w11 hR
  rw [ex4e] at hR
  obtain ⟨Ahe, che, rfl, he, g⟩ := hR.get (n := 4) rfl
  replace hg := hg.trans g
  replace hT := hT.up g
  replace ha := ha.up g
  replace hb := hb.up g
  replace hc := hc.up g
  replace hd := hd.up g
  replace hi := hi.up g
  clear g
  clear hi
  go_wp2_with fail
  have hi : SF (w11.alloc (.cells #[.int .u64 1, .int .u64 2, .int .u64 3] 34)) (some ⟨w11.heap.size, 0, none⟩) 3 3 [fo 1, fo 2, fo 3] := litF [1, 2, 3] (by decide) (by decide)
  replace hg := hg.trans (Gn.al (w := w11) (.cells #[.int .u64 1, .int .u64 2, .int .u64 3] 34))
  replace hT := hT.up (Gn.al (w := w11) (.cells #[.int .u64 1, .int .u64 2, .int .u64 3] 34))
  replace ha := ha.up (Gn.al (w := w11) (.cells #[.int .u64 1, .int .u64 2, .int .u64 3] 34))
  replace hb := hb.up (Gn.al (w := w11) (.cells #[.int .u64 1, .int .u64 2, .int .u64 3] 34))
  replace hc := hc.up (Gn.al (w := w11) (.cells #[.int .u64 1, .int .u64 2, .int .u64 3] 34))
  replace hd := hd.up (Gn.al (w := w11) (.cells #[.int .u64 1, .int .u64 2, .int .u64 3] 34))
  replace he := he.up (Gn.al (w := w11) (.cells #[.int .u64 1, .int .u64 2, .int .u64 3] 34))
  generalize w11.alloc (.cells #[.int .u64 1, .int .u64 2, .int .u64 3] 34) = w12 at *
  generalize w11.heap.size = bhi at *
  refine (n_forward _ _ _ _ _ hT hi (by decide)).mono ?_
  rintro e w13 hR
  rw [ex4f _ rfl] at hR
  obtain ⟨Ahx1, chx1, rfl, hx1, g⟩ := hR.get (n := 0) rfl
  replace hg := hg.trans g
  replace hT := hT.up g
  replace ha := ha.up g
  replace hb := hb.up g
  replace hc := hc.up g
  replace hd := hd.up g
  replace he := he.up g
  replace hi := hi.up g
  clear g
  clear hi
  clear hx1
  go_wp2_with fail
  refine (n_inverse _ _ _ _ _ hT (SF.nil _) (by decide)).mono ?_
  rintro e w14 hR
  rw [ex4g] at hR
  obtain ⟨Ahx2, chx2, rfl, hx2, g⟩ := hR.get (n := 0) rfl
  replace hg := hg.trans g
  replace hT := hT.up g
  replace ha := ha.up g
  replace hb := hb.up g
  replace hc := hc.up g
  replace hd := hd.up g
  replace he := he.up g
  clear g
  clear hx2
  go_wp2_with fail
  have hi : SF (w14.alloc (.cells #[.int .u64 1, .int .u64 2] 34)) (some ⟨w14.heap.size, 0, none⟩) 2 2 [fo 1, fo 2] := litF [1, 2] (by decide) (by decide)
  replace hg := hg.trans (Gn.al (w := w14) (.cells #[.int .u64 1, .int .u64 2] 34))
  replace hT := hT.up (Gn.al (w := w14) (.cells #[.int .u64 1, .int .u64 2] 34))
  replace ha := ha.up (Gn.al (w := w14) (.cells #[.int .u64 1, .int .u64 2] 34))
  replace hb := hb.up (Gn.al (w := w14) (.cells #[.int .u64 1, .int .u64 2] 34))
  replace hc := hc.up (Gn.al (w := w14) (.cells #[.int .u64 1, .int .u64 2] 34))
  replace hd := hd.up (Gn.al (w := w14) (.cells #[.int .u64 1, .int .u64 2] 34))
  replace he := he.up (Gn.al (w := w14) (.cells #[.int .u64 1, .int .u64 2] 34))
  generalize w14.alloc (.cells #[.int .u64 1, .int .u64 2] 34) = w15 at *
  generalize w14.heap.size = bhi at *
  refine (n_extend _ _ _ _ 3 _ hT hi (by decide) (by decide)).mono ?_
  rintro e w16 hR
  rw [ex4h] at hR
  obtain ⟨Ahx3, chx3, rfl, hx3, g⟩ := hR.get (n := 0) rfl
  replace hg := hg.trans g
  replace hT := hT.up g
  replace ha := ha.up g
  replace hb := hb.up g
  replace hc := hc.up g
  replace hd := hd.up g
  replace he := he.up g
  replace hi := hi.up g
  clear g
  clear hi
  clear hx3
  go_wp2_with fail
  have hi : SF (w16.alloc (.cells #[.int .u64 1] 34)) (some ⟨w16.heap.size, 0, none⟩) 1 1 [fo 1] := litF [1] (by decide) (by decide)
  replace hg := hg.trans (Gn.al (w := w16) (.cells #[.int .u64 1] 34))
  replace hT := hT.up (Gn.al (w := w16) (.cells #[.int .u64 1] 34))
  replace ha := ha.up (Gn.al (w := w16) (.cells #[.int .u64 1] 34))
  replace hb := hb.up (Gn.al (w := w16) (.cells #[.int .u64 1] 34))
  replace hc := hc.up (Gn.al (w := w16) (.cells #[.int .u64 1] 34))
  replace hd := hd.up (Gn.al (w := w16) (.cells #[.int .u64 1] 34))
  replace he := he.up (Gn.al (w := w16) (.cells #[.int .u64 1] 34))
  generalize w16.alloc (.cells #[.int .u64 1] 34) = w17 at *
  generalize w16.heap.size = bhi at *
  refine (n_extend _ _ _ _ 131072 _ hT hi (by decide) (by decide)).mono ?_
  rintro e w18 hR
  rw [ex4i] at hR
  obtain ⟨Ahx4, chx4, rfl, hx4, g⟩ := hR.get (n := 0) rfl
  replace hg := hg.trans g
  replace hT := hT.up g
  replace ha := ha.up g
  replace hb := hb.up g
  replace hc := hc.up g
  replace hd := hd.up g
  replace he := he.up g
  replace hi := hi.up g
  clear g
  clear hi
  clear hx4
  go_wp2_with fail
  have hi : SF (w18.alloc (.cells #[.int .u64 1] 34)) (some ⟨w18.heap.size, 0, none⟩) 1 1 [fo 1] := litF [1] (by decide) (by decide)
  replace hg := hg.trans (Gn.al (w := w18) (.cells #[.int .u64 1] 34))
  replace hT := hT.up (Gn.al (w := w18) (.cells #[.int .u64 1] 34))
  replace ha := ha.up (Gn.al (w := w18) (.cells #[.int .u64 1] 34))
  replace hb := hb.up (Gn.al (w := w18) (.cells #[.int .u64 1] 34))
  replace hc := hc.up (Gn.al (w := w18) (.cells #[.int .u64 1] 34))
  replace hd := hd.up (Gn.al (w := w18) (.cells #[.int .u64 1] 34))
  replace he := he.up (Gn.al (w := w18) (.cells #[.int .u64 1] 34))
  generalize w18.alloc (.cells #[.int .u64 1] 34) = w19 at *
  generalize w18.heap.size = bhi at *
  refine (n_mul _ _ _ _ _ _ _ _ _ hT (SF.nil _) hi (by decide) (by decide)).mono ?_
  rintro e w20 hR
  rw [ex4j] at hR
  obtain ⟨Ahx5, chx5, rfl, hx5, g⟩ := hR.get (n := 0) rfl
  replace hg := hg.trans g
  replace hT := hT.up g
  replace ha := ha.up g
  replace hb := hb.up g
  replace hc := hc.up g
  replace hd := hd.up g
  replace he := he.up g
  replace hi := hi.up g
  clear g
  clear hi
  clear hx5
  go_wp2_with fail
  have hk : SF (w20.alloc (.cells #[.int .u64 12, .int .u64 18446744069414584319] 34)) (some ⟨w20.heap.size, 0, none⟩) 2 2 [fo 12, fo 18446744069414584319] := litF [12, 18446744069414584319] (by decide) (by decide)
  replace hg := hg.trans (Gn.al (w := w20) (.cells #[.int .u64 12, .int .u64 18446744069414584319] 34))
  replace hT := hT.up (Gn.al (w := w20) (.cells #[.int .u64 12, .int .u64 18446744069414584319] 34))
  replace ha := ha.up (Gn.al (w := w20) (.cells #[.int .u64 12, .int .u64 18446744069414584319] 34))
  replace hb := hb.up (Gn.al (w := w20) (.cells #[.int .u64 12, .int .u64 18446744069414584319] 34))
  replace hc := hc.up (Gn.al (w := w20) (.cells #[.int .u64 12, .int .u64 18446744069414584319] 34))
  replace hd := hd.up (Gn.al (w := w20) (.cells #[.int .u64 12, .int .u64 18446744069414584319] 34))
  replace he := he.up (Gn.al (w := w20) (.cells #[.int .u64 12, .int .u64 18446744069414584319] 34))
  generalize w20.alloc (.cells #[.int .u64 12, .int .u64 18446744069414584319] 34) = w21 at *
  generalize w20.heap.size = bhk at *
  refine (r_same_true ha hk rfl).mono ?_
  rintro e w22 ⟨rfl, g⟩
  replace hg := hg.trans g
  replace hT := hT.up g
  replace ha := ha.up g
  replace hb := hb.up g
  replace hc := hc.up g
  replace hd := hd.up g
  replace he := he.up g
  replace hk := hk.up g
  clear g
  clear hk ha
  go_wp2_with fail
  have hk : SF (w22.alloc (.cells #[.int .u64 5, .int .u64 7] 34)) (some ⟨w22.heap.size, 0, none⟩) 2 2 [fo 5, fo 7] := litF [5, 7] (by decide) (by decide)
  replace hg := hg.trans (Gn.al (w := w22) (.cells #[.int .u64 5, .int .u64 7] 34))
  replace hT := hT.up (Gn.al (w := w22) (.cells #[.int .u64 5, .int .u64 7] 34))
  replace hb := hb.up (Gn.al (w := w22) (.cells #[.int .u64 5, .int .u64 7] 34))
  replace hc := hc.up (Gn.al (w := w22) (.cells #[.int .u64 5, .int .u64 7] 34))
  replace hd := hd.up (Gn.al (w := w22) (.cells #[.int .u64 5, .int .u64 7] 34))
  replace he := he.up (Gn.al (w := w22) (.cells #[.int .u64 5, .int .u64 7] 34))
  generalize w22.alloc (.cells #[.int .u64 5, .int .u64 7] 34) = w23 at *
  generalize w22.heap.size = bhk at *
  refine (r_same_true hb hk rfl).mono ?_
  rintro e w24 ⟨rfl, g⟩
  replace hg := hg.trans g
  replace hT := hT.up g
  replace hb := hb.up g
  replace hc := hc.up g
  replace hd := hd.up g
  replace he := he.up g
  replace hk := hk.up g
  clear g
  clear hk hb
  go_wp2_with fail
  have hk : SF (w24.alloc (.cells #[.int .u64 3, .int .u64 3, .int .u64 3, .int .u64 3] 34)) (some ⟨w24.heap.size, 0, none⟩) 4 4 [fo 3, fo 3, fo 3, fo 3] := litF [3, 3, 3, 3] (by decide) (by decide)
  replace hg := hg.trans (Gn.al (w := w24) (.cells #[.int .u64 3, .int .u64 3, .int .u64 3, .int .u64 3] 34))
  replace hT := hT.up (Gn.al (w := w24) (.cells #[.int .u64 3, .int .u64 3, .int .u64 3, .int .u64 3] 34))
  replace hc := hc.up (Gn.al (w := w24) (.cells #[.int .u64 3, .int .u64 3, .int .u64 3, .int .u64 3] 34))
  replace hd := hd.up (Gn.al (w := w24) (.cells #[.int .u64 3, .int .u64 3, .int .u64 3, .int .u64 3] 34))
  replace he := he.up (Gn.al (w := w24) (.cells #[.int .u64 3, .int .u64 3, .int .u64 3, .int .u64 3] 34))
  generalize w24.alloc (.cells #[.int .u64 3, .int .u64 3, .int .u64 3, .int .u64 3] 34) = w25 at *
  generalize w24.heap.size = bhk at *
  refine (r_same_true hc hk rfl).mono ?_
  rintro e w26 ⟨rfl, g⟩
  replace hg := hg.trans g
  replace hT := hT.up g
  replace hc := hc.up g
  replace hd := hd.up g
  replace he := he.up g
  replace hk := hk.up g
  clear g
  clear hk hc
  go_wp2_with fail
  have hk : SF (w26.alloc (.cells #[.int .u64 3, .int .u64 10, .int .u64 13, .int .u64 10] 34)) (some ⟨w26.heap.size, 0, none⟩) 4 4 [fo 3, fo 10, fo 13, fo 10] := litF [3, 10, 13, 10] (by decide) (by decide)
  replace hg := hg.trans (Gn.al (w := w26) (.cells #[.int .u64 3, .int .u64 10, .int .u64 13, .int .u64 10] 34))
  replace hT := hT.up (Gn.al (w := w26) (.cells #[.int .u64 3, .int .u64 10, .int .u64 13, .int .u64 10] 34))
  replace hd := hd.up (Gn.al (w := w26) (.cells #[.int .u64 3, .int .u64 10, .int .u64 13, .int .u64 10] 34))
  replace he := he.up (Gn.al (w := w26) (.cells #[.int .u64 3, .int .u64 10, .int .u64 13, .int .u64 10] 34))
  generalize w26.alloc (.cells #[.int .u64 3, .int .u64 10, .int .u64 13, .int .u64 10] 34) = w27 at *
  generalize w26.heap.size = bhk at *
  refine (r_same_true hd hk rfl).mono ?_
  rintro e w28 ⟨rfl, g⟩
  replace hg := hg.trans g
  replace hT := hT.up g
  replace hd := hd.up g
  replace he := he.up g
  replace hk := hk.up g
  clear g
  clear hk hd
  go_wp2_with fail
  have hk : SF (w28.alloc (.cells #[.int .u64 1, .int .u64 281474976710656, .int .u64 18446744069414584320, .int .u64 18446462594437873665] 34)) (some ⟨w28.heap.size, 0, none⟩) 4 4 [fo 1, fo 281474976710656, fo 18446744069414584320, fo 18446462594437873665] := litF [1, 281474976710656, 18446744069414584320, 18446462594437873665] (by decide) (by decide)
  replace hg := hg.trans (Gn.al (w := w28) (.cells #[.int .u64 1, .int .u64 281474976710656, .int .u64 18446744069414584320, .int .u64 18446462594437873665] 34))
  replace hT := hT.up (Gn.al (w := w28) (.cells #[.int .u64 1, .int .u64 281474976710656, .int .u64 18446744069414584320, .int .u64 18446462594437873665] 34))
  replace he := he.up (Gn.al (w := w28) (.cells #[.int .u64 1, .int .u64 281474976710656, .int .u64 18446744069414584320, .int .u64 18446462594437873665] 34))
  generalize w28.alloc (.cells #[.int .u64 1, .int .u64 281474976710656, .int .u64 18446744069414584320, .int .u64 18446462594437873665] 34) = w29 at *
  generalize w28.heap.size = bhk at *
  refine (r_same_true he hk rfl).mono ?_
  rintro e w30 ⟨rfl, g⟩
  replace hg := hg.trans g
  replace hT := hT.up g
  replace he := he.up g
  replace hk := hk.up g
  clear g
  clear hk he
  go_wp2_with fail
  go_ret
  exact ⟨rfl, hg⟩
end Go.Proofs.YtjgdbfhpjjmjkaaDoor
