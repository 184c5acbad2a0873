/- PolyRing: for every three rows the law on sums, products and degrees returns true; no conditions. -/
import Derived.Test.YtjchccpicddpoaaFrm
import Derived.Test.YtjchccpicddpoaaPl
import Derived.Test.YtjchccpicddpoaaOp
namespace Go.Proofs.Ytjchccpicddpoaa.lawPolyRing
open Go.ChangeShapes Go.WideShapes Go.ChangeAt Go.RowKit Att Att.CRing

set_option maxRecDepth 100000 in
set_option maxHeartbeats 4000000 in
theorem walk (w : World) (a0 : Option Addr) (len0 cap0 : Nat) (x0 : List (Int × Int)) (a1 : Option Addr) (len1 cap1 : Nat) (x1 : List (Int × Int)) (a2 : Option Addr) (len2 cap2 : Nat) (x2 : List (Int × Int)) (h_x0 : SlR w a0 len0 cap0 x0) (h_x1 : SlR w a1 len1 cap1 x1) (h_x2 : SlR w a2 len2 cap2 x2) :
    Calls Try.prog 10 #[.slice a0 len0 cap0, .slice a1 len1 cap1, .slice a2 len2 cap2] w fun e w' => e = .returned (.bool true) ∧ Below w.heap.size w w' := by
  refine Calls.mono (R := fun e w' => e = .returned (.bool true) ∧ Gn w w') ?_ (fun e w' h => ⟨h.1, h.2.below⟩)
  go_enter Try.func10, Try.ntmps10
  go_wp2_with fail
  have hg : Gn w w := Gn.refl w
  refine (o_sanity _).mono ?_
  rintro e w1 ⟨rfl, g⟩
  replace hg := hg.trans g
  clear g
  go_wp2_with fail
  skip
  refine (x_madeL a0 len0 cap0 x0 8 _ (h_x0.up hg) (by omega)).mono ?_
  rintro e w2 ⟨v, rfl, o, g⟩
  obtain ⟨Ap, cp, rfl, s⟩ := o.sl
  replace hg := hg.trans g
  clear g
  have hp : isSl ((x0.take 8).map mkP) (.slice Ap ((x0.take 8).map mkP).length cp) w2 := ⟨_, _, _, rfl, s⟩
  have lp : ((x0.take 8).map mkP).length ≤ 8 := by simp; omega
  generalize ((x0.take 8).map mkP) = p at *
  clear o s
  go_wp2_with fail
  skip
  refine (x_madeL a1 len1 cap1 x1 8 _ (h_x1.up hg) (by omega)).mono ?_
  rintro e w3 ⟨v, rfl, o, g⟩
  obtain ⟨Aq, cq, rfl, s⟩ := o.sl
  replace hg := hg.trans g
  replace hp := isSl.gn hp g
  clear g
  have hq : isSl ((x1.take 8).map mkP) (.slice Aq ((x1.take 8).map mkP).length cq) w3 := ⟨_, _, _, rfl, s⟩
  have lq : ((x1.take 8).map mkP).length ≤ 8 := by simp; omega
  generalize ((x1.take 8).map mkP) = q at *
  clear o s
  go_wp2_with fail
  skip
  refine (x_madeL a2 len2 cap2 x2 8 _ (h_x2.up hg) (by omega)).mono ?_
  rintro e w4 ⟨v, rfl, o, g⟩
  obtain ⟨Ar, cr, rfl, s⟩ := o.sl
  replace hg := hg.trans g
  replace hp := isSl.gn hp g
  replace hq := isSl.gn hq g
  clear g
  have hr : isSl ((x2.take 8).map mkP) (.slice Ar ((x2.take 8).map mkP).length cr) w4 := ⟨_, _, _, rfl, s⟩
  have lr : ((x2.take 8).map mkP).length ≤ 8 := by simp; omega
  generalize ((x2.take 8).map mkP) = r at *
  clear o s
  have la := trim_le (l := p) rfl
  have lb := trim_le (l := q) rfl
  obtain ⟨a, ha⟩ : ∃ a, a = (trim p).length := ⟨_, rfl⟩
  obtain ⟨b, hb⟩ : ∃ b, b = (trim q).length := ⟨_, rfl⟩
  rw [← ha] at la
  rw [← hb] at lb
  replace ha := Lib.hid ha
  replace hb := Lib.hid hb
  go_wp2_with fail
  skip
  cases a with
  | zero =>
    have hc := p_degree Ap _ cp p w4 hp.sl (by omega)
    rw [← ha.out] at hc
    refine hc.mono ?_
    rintro e w5 ⟨rfl, g⟩
    clear hc
    replace hg := hg.trans g
    replace hp := isSl.gn hp g
    replace hq := isSl.gn hq g
    replace hr := isSl.gn hr g
    clear g
    go_wp2_with fail
    skip
    refine (k_padd (by first | omega | exact bpadd _ (by omega) (by omega) | exact bpsub _ (by omega) (by omega) | exact bpmul _ (by omega) | exact bpsca _ (by omega) | exact Nat.le_trans (bpmul 1000 (by omega)) (by omega)) (by first | omega | exact bpadd _ (by omega) (by omega) | exact bpsub _ (by omega) (by omega) | exact bpmul _ (by omega) | exact bpsca _ (by omega) | exact Nat.le_trans (bpmul 1000 (by omega)) (by omega)) _ _ _ hp hq).mono ?_
    rintro e w6 ⟨v42, rfl, g, ht42⟩
    replace g := Gn.of g
    replace hg := hg.trans g
    replace hp := isSl.gn hp g
    replace hq := isSl.gn hq g
    replace hr := isSl.gn hr g
    clear g
    go_wp2_with fail
    skip
    refine (k_padd (by first | omega | exact bpadd _ (by omega) (by omega) | exact bpsub _ (by omega) (by omega) | exact bpmul _ (by omega) | exact bpsca _ (by omega) | exact Nat.le_trans (bpmul 1000 (by omega)) (by omega)) (by first | omega | exact bpadd _ (by omega) (by omega) | exact bpsub _ (by omega) (by omega) | exact bpmul _ (by omega) | exact bpsca _ (by omega) | exact Nat.le_trans (bpmul 1000 (by omega)) (by omega)) _ _ _ hq hp).mono ?_
    rintro e w7 ⟨v45, rfl, g, ht45⟩
    replace g := Gn.of g
    replace hg := hg.trans g
    replace hp := isSl.gn hp g
    replace hq := isSl.gn hq g
    replace hr := isSl.gn hr g
    replace ht42 := isSl.gn ht42 g
    clear g
    go_wp2_with fail
    skip
    refine (k_same (decide_eq_true (pl1 p q)) _ _ _ ht42 ht45).mono ?_
    rintro e w8 ⟨_, rfl, g, rfl⟩
    replace g := Gn.of g
    replace hg := hg.trans g
    replace hp := isSl.gn hp g
    replace hq := isSl.gn hq g
    replace hr := isSl.gn hr g
    replace ht42 := isSl.gn ht42 g
    replace ht45 := isSl.gn ht45 g
    clear g
    go_wp2_with fail
    skip
    refine (k_pmul (by first | omega | exact bpadd _ (by omega) (by omega) | exact bpsub _ (by omega) (by omega) | exact bpmul _ (by omega) | exact bpsca _ (by omega) | exact Nat.le_trans (bpmul 1000 (by omega)) (by omega)) (by first | omega | exact bpadd _ (by omega) (by omega) | exact bpsub _ (by omega) (by omega) | exact bpmul _ (by omega) | exact bpsca _ (by omega) | exact Nat.le_trans (bpmul 1000 (by omega)) (by omega)) _ _ _ hp hq).mono ?_
    rintro e w9 ⟨v51, rfl, g, ht51⟩
    replace g := Gn.of g
    replace hg := hg.trans g
    replace hp := isSl.gn hp g
    replace hq := isSl.gn hq g
    replace hr := isSl.gn hr g
    replace ht42 := isSl.gn ht42 g
    replace ht45 := isSl.gn ht45 g
    clear g
    go_wp2_with fail
    skip
    refine (k_pmul (by first | omega | exact bpadd _ (by omega) (by omega) | exact bpsub _ (by omega) (by omega) | exact bpmul _ (by omega) | exact bpsca _ (by omega) | exact Nat.le_trans (bpmul 1000 (by omega)) (by omega)) (by first | omega | exact bpadd _ (by omega) (by omega) | exact bpsub _ (by omega) (by omega) | exact bpmul _ (by omega) | exact bpsca _ (by omega) | exact Nat.le_trans (bpmul 1000 (by omega)) (by omega)) _ _ _ hq hp).mono ?_
    rintro e w10 ⟨v54, rfl, g, ht54⟩
    replace g := Gn.of g
    replace hg := hg.trans g
    replace hp := isSl.gn hp g
    replace hq := isSl.gn hq g
    replace hr := isSl.gn hr g
    replace ht42 := isSl.gn ht42 g
    replace ht45 := isSl.gn ht45 g
    replace ht51 := isSl.gn ht51 g
    clear g
    go_wp2_with fail
    skip
    refine (k_same (decide_eq_true (pl2 p q)) _ _ _ ht51 ht54).mono ?_
    rintro e w11 ⟨_, rfl, g, rfl⟩
    replace g := Gn.of g
    replace hg := hg.trans g
    replace hp := isSl.gn hp g
    replace hq := isSl.gn hq g
    replace hr := isSl.gn hr g
    replace ht42 := isSl.gn ht42 g
    replace ht45 := isSl.gn ht45 g
    replace ht51 := isSl.gn ht51 g
    replace ht54 := isSl.gn ht54 g
    clear g
    go_wp2_with fail
    skip
    refine (k_padd (by first | omega | exact bpadd _ (by omega) (by omega) | exact bpsub _ (by omega) (by omega) | exact bpmul _ (by omega) | exact bpsca _ (by omega) | exact Nat.le_trans (bpmul 1000 (by omega)) (by omega)) (by first | omega | exact bpadd _ (by omega) (by omega) | exact bpsub _ (by omega) (by omega) | exact bpmul _ (by omega) | exact bpsca _ (by omega) | exact Nat.le_trans (bpmul 1000 (by omega)) (by omega)) _ _ _ hp hq).mono ?_
    rintro e w12 ⟨v60, rfl, g, ht60⟩
    replace g := Gn.of g
    replace hg := hg.trans g
    replace hp := isSl.gn hp g
    replace hq := isSl.gn hq g
    replace hr := isSl.gn hr g
    replace ht42 := isSl.gn ht42 g
    replace ht45 := isSl.gn ht45 g
    replace ht51 := isSl.gn ht51 g
    replace ht54 := isSl.gn ht54 g
    clear g
    go_wp2_with fail
    skip
    refine (k_padd (by first | omega | exact bpadd _ (by omega) (by omega) | exact bpsub _ (by omega) (by omega) | exact bpmul _ (by omega) | exact bpsca _ (by omega) | exact Nat.le_trans (bpmul 1000 (by omega)) (by omega)) (by first | omega | exact bpadd _ (by omega) (by omega) | exact bpsub _ (by omega) (by omega) | exact bpmul _ (by omega) | exact bpsca _ (by omega) | exact Nat.le_trans (bpmul 1000 (by omega)) (by omega)) _ _ _ ht60 hr).mono ?_
    rintro e w13 ⟨v62, rfl, g, ht62⟩
    replace g := Gn.of g
    replace hg := hg.trans g
    replace hp := isSl.gn hp g
    replace hq := isSl.gn hq g
    replace hr := isSl.gn hr g
    replace ht42 := isSl.gn ht42 g
    replace ht45 := isSl.gn ht45 g
    replace ht51 := isSl.gn ht51 g
    replace ht54 := isSl.gn ht54 g
    replace ht60 := isSl.gn ht60 g
    clear g
    go_wp2_with fail
    skip
    refine (k_padd (by first | omega | exact bpadd _ (by omega) (by omega) | exact bpsub _ (by omega) (by omega) | exact bpmul _ (by omega) | exact bpsca _ (by omega) | exact Nat.le_trans (bpmul 1000 (by omega)) (by omega)) (by first | omega | exact bpadd _ (by omega) (by omega) | exact bpsub _ (by omega) (by omega) | exact bpmul _ (by omega) | exact bpsca _ (by omega) | exact Nat.le_trans (bpmul 1000 (by omega)) (by omega)) _ _ _ hq hr).mono ?_
    rintro e w14 ⟨v66, rfl, g, ht66⟩
    replace g := Gn.of g
    replace hg := hg.trans g
    replace hp := isSl.gn hp g
    replace hq := isSl.gn hq g
    replace hr := isSl.gn hr g
    replace ht42 := isSl.gn ht42 g
    replace ht45 := isSl.gn ht45 g
    replace ht51 := isSl.gn ht51 g
    replace ht54 := isSl.gn ht54 g
    replace ht60 := isSl.gn ht60 g
    replace ht62 := isSl.gn ht62 g
    clear g
    go_wp2_with fail
    skip
    refine (k_padd (by first | omega | exact bpadd _ (by omega) (by omega) | exact bpsub _ (by omega) (by omega) | exact bpmul _ (by omega) | exact bpsca _ (by omega) | exact Nat.le_trans (bpmul 1000 (by omega)) (by omega)) (by first | omega | exact bpadd _ (by omega) (by omega) | exact bpsub _ (by omega) (by omega) | exact bpmul _ (by omega) | exact bpsca _ (by omega) | exact Nat.le_trans (bpmul 1000 (by omega)) (by omega)) _ _ _ hp ht66).mono ?_
    rintro e w15 ⟨v67, rfl, g, ht67⟩
    replace g := Gn.of g
    replace hg := hg.trans g
    replace hp := isSl.gn hp g
    replace hq := isSl.gn hq g
    replace hr := isSl.gn hr g
    replace ht42 := isSl.gn ht42 g
    replace ht45 := isSl.gn ht45 g
    replace ht51 := isSl.gn ht51 g
    replace ht54 := isSl.gn ht54 g
    replace ht60 := isSl.gn ht60 g
    replace ht62 := isSl.gn ht62 g
    replace ht66 := isSl.gn ht66 g
    clear g
    go_wp2_with fail
    skip
    refine (k_same (decide_eq_true (pl3 p q r)) _ _ _ ht62 ht67).mono ?_
    rintro e w16 ⟨_, rfl, g, rfl⟩
    replace g := Gn.of g
    replace hg := hg.trans g
    replace hp := isSl.gn hp g
    replace hq := isSl.gn hq g
    replace hr := isSl.gn hr g
    replace ht42 := isSl.gn ht42 g
    replace ht45 := isSl.gn ht45 g
    replace ht51 := isSl.gn ht51 g
    replace ht54 := isSl.gn ht54 g
    replace ht60 := isSl.gn ht60 g
    replace ht62 := isSl.gn ht62 g
    replace ht66 := isSl.gn ht66 g
    replace ht67 := isSl.gn ht67 g
    clear g
    go_wp2_with fail
    skip
    refine (k_pmul (by first | omega | exact bpadd _ (by omega) (by omega) | exact bpsub _ (by omega) (by omega) | exact bpmul _ (by omega) | exact bpsca _ (by omega) | exact Nat.le_trans (bpmul 1000 (by omega)) (by omega)) (by first | omega | exact bpadd _ (by omega) (by omega) | exact bpsub _ (by omega) (by omega) | exact bpmul _ (by omega) | exact bpsca _ (by omega) | exact Nat.le_trans (bpmul 1000 (by omega)) (by omega)) _ _ _ hp hq).mono ?_
    rintro e w17 ⟨v73, rfl, g, ht73⟩
    replace g := Gn.of g
    replace hg := hg.trans g
    replace hp := isSl.gn hp g
    replace hq := isSl.gn hq g
    replace hr := isSl.gn hr g
    replace ht42 := isSl.gn ht42 g
    replace ht45 := isSl.gn ht45 g
    replace ht51 := isSl.gn ht51 g
    replace ht54 := isSl.gn ht54 g
    replace ht60 := isSl.gn ht60 g
    replace ht62 := isSl.gn ht62 g
    replace ht66 := isSl.gn ht66 g
    replace ht67 := isSl.gn ht67 g
    clear g
    go_wp2_with fail
    skip
    refine (k_pmul (by first | omega | exact bpadd _ (by omega) (by omega) | exact bpsub _ (by omega) (by omega) | exact bpmul _ (by omega) | exact bpsca _ (by omega) | exact Nat.le_trans (bpmul 1000 (by omega)) (by omega)) (by first | omega | exact bpadd _ (by omega) (by omega) | exact bpsub _ (by omega) (by omega) | exact bpmul _ (by omega) | exact bpsca _ (by omega) | exact Nat.le_trans (bpmul 1000 (by omega)) (by omega)) _ _ _ ht73 hr).mono ?_
    rintro e w18 ⟨v75, rfl, g, ht75⟩
    replace g := Gn.of g
    replace hg := hg.trans g
    replace hp := isSl.gn hp g
    replace hq := isSl.gn hq g
    replace hr := isSl.gn hr g
    replace ht42 := isSl.gn ht42 g
    replace ht45 := isSl.gn ht45 g
    replace ht51 := isSl.gn ht51 g
    replace ht54 := isSl.gn ht54 g
    replace ht60 := isSl.gn ht60 g
    replace ht62 := isSl.gn ht62 g
    replace ht66 := isSl.gn ht66 g
    replace ht67 := isSl.gn ht67 g
    replace ht73 := isSl.gn ht73 g
    clear g
    go_wp2_with fail
    skip
    refine (k_pmul (by first | omega | exact bpadd _ (by omega) (by omega) | exact bpsub _ (by omega) (by omega) | exact bpmul _ (by omega) | exact bpsca _ (by omega) | exact Nat.le_trans (bpmul 1000 (by omega)) (by omega)) (by first | omega | exact bpadd _ (by omega) (by omega) | exact bpsub _ (by omega) (by omega) | exact bpmul _ (by omega) | exact bpsca _ (by omega) | exact Nat.le_trans (bpmul 1000 (by omega)) (by omega)) _ _ _ hq hr).mono ?_
    rintro e w19 ⟨v79, rfl, g, ht79⟩
    replace g := Gn.of g
    replace hg := hg.trans g
    replace hp := isSl.gn hp g
    replace hq := isSl.gn hq g
    replace hr := isSl.gn hr g
    replace ht42 := isSl.gn ht42 g
    replace ht45 := isSl.gn ht45 g
    replace ht51 := isSl.gn ht51 g
    replace ht54 := isSl.gn ht54 g
    replace ht60 := isSl.gn ht60 g
    replace ht62 := isSl.gn ht62 g
    replace ht66 := isSl.gn ht66 g
    replace ht67 := isSl.gn ht67 g
    replace ht73 := isSl.gn ht73 g
    replace ht75 := isSl.gn ht75 g
    clear g
    go_wp2_with fail
    skip
    refine (k_pmul (by first | omega | exact bpadd _ (by omega) (by omega) | exact bpsub _ (by omega) (by omega) | exact bpmul _ (by omega) | exact bpsca _ (by omega) | exact Nat.le_trans (bpmul 1000 (by omega)) (by omega)) (by first | omega | exact bpadd _ (by omega) (by omega) | exact bpsub _ (by omega) (by omega) | exact bpmul _ (by omega) | exact bpsca _ (by omega) | exact Nat.le_trans (bpmul 1000 (by omega)) (by omega)) _ _ _ hp ht79).mono ?_
    rintro e w20 ⟨v80, rfl, g, ht80⟩
    replace g := Gn.of g
    replace hg := hg.trans g
    replace hp := isSl.gn hp g
    replace hq := isSl.gn hq g
    replace hr := isSl.gn hr g
    replace ht42 := isSl.gn ht42 g
    replace ht45 := isSl.gn ht45 g
    replace ht51 := isSl.gn ht51 g
    replace ht54 := isSl.gn ht54 g
    replace ht60 := isSl.gn ht60 g
    replace ht62 := isSl.gn ht62 g
    replace ht66 := isSl.gn ht66 g
    replace ht67 := isSl.gn ht67 g
    replace ht73 := isSl.gn ht73 g
    replace ht75 := isSl.gn ht75 g
    replace ht79 := isSl.gn ht79 g
    clear g
    go_wp2_with fail
    skip
    refine (k_same (decide_eq_true (pl4 p q r)) _ _ _ ht75 ht80).mono ?_
    rintro e w21 ⟨_, rfl, g, rfl⟩
    replace g := Gn.of g
    replace hg := hg.trans g
    replace hp := isSl.gn hp g
    replace hq := isSl.gn hq g
    replace hr := isSl.gn hr g
    replace ht42 := isSl.gn ht42 g
    replace ht45 := isSl.gn ht45 g
    replace ht51 := isSl.gn ht51 g
    replace ht54 := isSl.gn ht54 g
    replace ht60 := isSl.gn ht60 g
    replace ht62 := isSl.gn ht62 g
    replace ht66 := isSl.gn ht66 g
    replace ht67 := isSl.gn ht67 g
    replace ht73 := isSl.gn ht73 g
    replace ht75 := isSl.gn ht75 g
    replace ht79 := isSl.gn ht79 g
    replace ht80 := isSl.gn ht80 g
    clear g
    go_wp2_with fail
    skip
    refine (k_padd (by first | omega | exact bpadd _ (by omega) (by omega) | exact bpsub _ (by omega) (by omega) | exact bpmul _ (by omega) | exact bpsca _ (by omega) | exact Nat.le_trans (bpmul 1000 (by omega)) (by omega)) (by first | omega | exact bpadd _ (by omega) (by omega) | exact bpsub _ (by omega) (by omega) | exact bpmul _ (by omega) | exact bpsca _ (by omega) | exact Nat.le_trans (bpmul 1000 (by omega)) (by omega)) _ _ _ hq hr).mono ?_
    rintro e w22 ⟨v87, rfl, g, ht87⟩
    replace g := Gn.of g
    replace hg := hg.trans g
    replace hp := isSl.gn hp g
    replace hq := isSl.gn hq g
    replace hr := isSl.gn hr g
    replace ht42 := isSl.gn ht42 g
    replace ht45 := isSl.gn ht45 g
    replace ht51 := isSl.gn ht51 g
    replace ht54 := isSl.gn ht54 g
    replace ht60 := isSl.gn ht60 g
    replace ht62 := isSl.gn ht62 g
    replace ht66 := isSl.gn ht66 g
    replace ht67 := isSl.gn ht67 g
    replace ht73 := isSl.gn ht73 g
    replace ht75 := isSl.gn ht75 g
    replace ht79 := isSl.gn ht79 g
    replace ht80 := isSl.gn ht80 g
    clear g
    go_wp2_with fail
    skip
    refine (k_pmul (by first | omega | exact bpadd _ (by omega) (by omega) | exact bpsub _ (by omega) (by omega) | exact bpmul _ (by omega) | exact bpsca _ (by omega) | exact Nat.le_trans (bpmul 1000 (by omega)) (by omega)) (by first | omega | exact bpadd _ (by omega) (by omega) | exact bpsub _ (by omega) (by omega) | exact bpmul _ (by omega) | exact bpsca _ (by omega) | exact Nat.le_trans (bpmul 1000 (by omega)) (by omega)) _ _ _ hp ht87).mono ?_
    rintro e w23 ⟨v88, rfl, g, ht88⟩
    replace g := Gn.of g
    replace hg := hg.trans g
    replace hp := isSl.gn hp g
    replace hq := isSl.gn hq g
    replace hr := isSl.gn hr g
    replace ht42 := isSl.gn ht42 g
    replace ht45 := isSl.gn ht45 g
    replace ht51 := isSl.gn ht51 g
    replace ht54 := isSl.gn ht54 g
    replace ht60 := isSl.gn ht60 g
    replace ht62 := isSl.gn ht62 g
    replace ht66 := isSl.gn ht66 g
    replace ht67 := isSl.gn ht67 g
    replace ht73 := isSl.gn ht73 g
    replace ht75 := isSl.gn ht75 g
    replace ht79 := isSl.gn ht79 g
    replace ht80 := isSl.gn ht80 g
    replace ht87 := isSl.gn ht87 g
    clear g
    go_wp2_with fail
    skip
    refine (k_pmul (by first | omega | exact bpadd _ (by omega) (by omega) | exact bpsub _ (by omega) (by omega) | exact bpmul _ (by omega) | exact bpsca _ (by omega) | exact Nat.le_trans (bpmul 1000 (by omega)) (by omega)) (by first | omega | exact bpadd _ (by omega) (by omega) | exact bpsub _ (by omega) (by omega) | exact bpmul _ (by omega) | exact bpsca _ (by omega) | exact Nat.le_trans (bpmul 1000 (by omega)) (by omega)) _ _ _ hp hq).mono ?_
    rintro e w24 ⟨v91, rfl, g, ht91⟩
    replace g := Gn.of g
    replace hg := hg.trans g
    replace hp := isSl.gn hp g
    replace hq := isSl.gn hq g
    replace hr := isSl.gn hr g
    replace ht42 := isSl.gn ht42 g
    replace ht45 := isSl.gn ht45 g
    replace ht51 := isSl.gn ht51 g
    replace ht54 := isSl.gn ht54 g
    replace ht60 := isSl.gn ht60 g
    replace ht62 := isSl.gn ht62 g
    replace ht66 := isSl.gn ht66 g
    replace ht67 := isSl.gn ht67 g
    replace ht73 := isSl.gn ht73 g
    replace ht75 := isSl.gn ht75 g
    replace ht79 := isSl.gn ht79 g
    replace ht80 := isSl.gn ht80 g
    replace ht87 := isSl.gn ht87 g
    replace ht88 := isSl.gn ht88 g
    clear g
    go_wp2_with fail
    skip
    refine (k_pmul (by first | omega | exact bpadd _ (by omega) (by omega) | exact bpsub _ (by omega) (by omega) | exact bpmul _ (by omega) | exact bpsca _ (by omega) | exact Nat.le_trans (bpmul 1000 (by omega)) (by omega)) (by first | omega | exact bpadd _ (by omega) (by omega) | exact bpsub _ (by omega) (by omega) | exact bpmul _ (by omega) | exact bpsca _ (by omega) | exact Nat.le_trans (bpmul 1000 (by omega)) (by omega)) _ _ _ hp hr).mono ?_
    rintro e w25 ⟨v94, rfl, g, ht94⟩
    replace g := Gn.of g
    replace hg := hg.trans g
    replace hp := isSl.gn hp g
    replace hq := isSl.gn hq g
    replace hr := isSl.gn hr g
    replace ht42 := isSl.gn ht42 g
    replace ht45 := isSl.gn ht45 g
    replace ht51 := isSl.gn ht51 g
    replace ht54 := isSl.gn ht54 g
    replace ht60 := isSl.gn ht60 g
    replace ht62 := isSl.gn ht62 g
    replace ht66 := isSl.gn ht66 g
    replace ht67 := isSl.gn ht67 g
    replace ht73 := isSl.gn ht73 g
    replace ht75 := isSl.gn ht75 g
    replace ht79 := isSl.gn ht79 g
    replace ht80 := isSl.gn ht80 g
    replace ht87 := isSl.gn ht87 g
    replace ht88 := isSl.gn ht88 g
    replace ht91 := isSl.gn ht91 g
    clear g
    go_wp2_with fail
    skip
    refine (k_padd (by first | omega | exact bpadd _ (by omega) (by omega) | exact bpsub _ (by omega) (by omega) | exact bpmul _ (by omega) | exact bpsca _ (by omega) | exact Nat.le_trans (bpmul 1000 (by omega)) (by omega)) (by first | omega | exact bpadd _ (by omega) (by omega) | exact bpsub _ (by omega) (by omega) | exact bpmul _ (by omega) | exact bpsca _ (by omega) | exact Nat.le_trans (bpmul 1000 (by omega)) (by omega)) _ _ _ ht91 ht94).mono ?_
    rintro e w26 ⟨v95, rfl, g, ht95⟩
    replace g := Gn.of g
    replace hg := hg.trans g
    replace hp := isSl.gn hp g
    replace hq := isSl.gn hq g
    replace hr := isSl.gn hr g
    replace ht42 := isSl.gn ht42 g
    replace ht45 := isSl.gn ht45 g
    replace ht51 := isSl.gn ht51 g
    replace ht54 := isSl.gn ht54 g
    replace ht60 := isSl.gn ht60 g
    replace ht62 := isSl.gn ht62 g
    replace ht66 := isSl.gn ht66 g
    replace ht67 := isSl.gn ht67 g
    replace ht73 := isSl.gn ht73 g
    replace ht75 := isSl.gn ht75 g
    replace ht79 := isSl.gn ht79 g
    replace ht80 := isSl.gn ht80 g
    replace ht87 := isSl.gn ht87 g
    replace ht88 := isSl.gn ht88 g
    replace ht91 := isSl.gn ht91 g
    replace ht94 := isSl.gn ht94 g
    clear g
    go_wp2_with fail
    skip
    refine (k_same (decide_eq_true (pl5 p q r)) _ _ _ ht88 ht95).mono ?_
    rintro e w27 ⟨_, rfl, g, rfl⟩
    replace g := Gn.of g
    replace hg := hg.trans g
    replace hp := isSl.gn hp g
    replace hq := isSl.gn hq g
    replace hr := isSl.gn hr g
    replace ht42 := isSl.gn ht42 g
    replace ht45 := isSl.gn ht45 g
    replace ht51 := isSl.gn ht51 g
    replace ht54 := isSl.gn ht54 g
    replace ht60 := isSl.gn ht60 g
    replace ht62 := isSl.gn ht62 g
    replace ht66 := isSl.gn ht66 g
    replace ht67 := isSl.gn ht67 g
    replace ht73 := isSl.gn ht73 g
    replace ht75 := isSl.gn ht75 g
    replace ht79 := isSl.gn ht79 g
    replace ht80 := isSl.gn ht80 g
    replace ht87 := isSl.gn ht87 g
    replace ht88 := isSl.gn ht88 g
    replace ht91 := isSl.gn ht91 g
    replace ht94 := isSl.gn ht94 g
    replace ht95 := isSl.gn ht95 g
    clear g
    go_wp2_with fail
    skip
    refine (k_psub (by first | omega | exact bpadd _ (by omega) (by omega) | exact bpsub _ (by omega) (by omega) | exact bpmul _ (by omega) | exact bpsca _ (by omega) | exact Nat.le_trans (bpmul 1000 (by omega)) (by omega)) (by first | omega | exact bpadd _ (by omega) (by omega) | exact bpsub _ (by omega) (by omega) | exact bpmul _ (by omega) | exact bpsca _ (by omega) | exact Nat.le_trans (bpmul 1000 (by omega)) (by omega)) _ _ _ hp hq).mono ?_
    rintro e w28 ⟨v101, rfl, g, ht101⟩
    replace g := Gn.of g
    replace hg := hg.trans g
    replace hp := isSl.gn hp g
    replace hq := isSl.gn hq g
    replace hr := isSl.gn hr g
    replace ht42 := isSl.gn ht42 g
    replace ht45 := isSl.gn ht45 g
    replace ht51 := isSl.gn ht51 g
    replace ht54 := isSl.gn ht54 g
    replace ht60 := isSl.gn ht60 g
    replace ht62 := isSl.gn ht62 g
    replace ht66 := isSl.gn ht66 g
    replace ht67 := isSl.gn ht67 g
    replace ht73 := isSl.gn ht73 g
    replace ht75 := isSl.gn ht75 g
    replace ht79 := isSl.gn ht79 g
    replace ht80 := isSl.gn ht80 g
    replace ht87 := isSl.gn ht87 g
    replace ht88 := isSl.gn ht88 g
    replace ht91 := isSl.gn ht91 g
    replace ht94 := isSl.gn ht94 g
    replace ht95 := isSl.gn ht95 g
    clear g
    go_wp2_with fail
    skip
    refine (k_padd (by first | omega | exact bpadd _ (by omega) (by omega) | exact bpsub _ (by omega) (by omega) | exact bpmul _ (by omega) | exact bpsca _ (by omega) | exact Nat.le_trans (bpmul 1000 (by omega)) (by omega)) (by first | omega | exact bpadd _ (by omega) (by omega) | exact bpsub _ (by omega) (by omega) | exact bpmul _ (by omega) | exact bpsca _ (by omega) | exact Nat.le_trans (bpmul 1000 (by omega)) (by omega)) _ _ _ ht101 hq).mono ?_
    rintro e w29 ⟨v103, rfl, g, ht103⟩
    replace g := Gn.of g
    replace hg := hg.trans g
    replace hp := isSl.gn hp g
    replace hq := isSl.gn hq g
    replace hr := isSl.gn hr g
    replace ht42 := isSl.gn ht42 g
    replace ht45 := isSl.gn ht45 g
    replace ht51 := isSl.gn ht51 g
    replace ht54 := isSl.gn ht54 g
    replace ht60 := isSl.gn ht60 g
    replace ht62 := isSl.gn ht62 g
    replace ht66 := isSl.gn ht66 g
    replace ht67 := isSl.gn ht67 g
    replace ht73 := isSl.gn ht73 g
    replace ht75 := isSl.gn ht75 g
    replace ht79 := isSl.gn ht79 g
    replace ht80 := isSl.gn ht80 g
    replace ht87 := isSl.gn ht87 g
    replace ht88 := isSl.gn ht88 g
    replace ht91 := isSl.gn ht91 g
    replace ht94 := isSl.gn ht94 g
    replace ht95 := isSl.gn ht95 g
    replace ht101 := isSl.gn ht101 g
    clear g
    go_wp2_with fail
    skip
    refine (k_ptrim (by first | omega | exact bpadd _ (by omega) (by omega) | exact bpsub _ (by omega) (by omega) | exact bpmul _ (by omega) | exact bpsca _ (by omega) | exact Nat.le_trans (bpmul 1000 (by omega)) (by omega)) _ _ hp).mono ?_
    rintro e w30 ⟨v105, rfl, g, ht105⟩
    replace g := Gn.of g
    replace hg := hg.trans g
    replace hp := isSl.gn hp g
    replace hq := isSl.gn hq g
    replace hr := isSl.gn hr g
    replace ht42 := isSl.gn ht42 g
    replace ht45 := isSl.gn ht45 g
    replace ht51 := isSl.gn ht51 g
    replace ht54 := isSl.gn ht54 g
    replace ht60 := isSl.gn ht60 g
    replace ht62 := isSl.gn ht62 g
    replace ht66 := isSl.gn ht66 g
    replace ht67 := isSl.gn ht67 g
    replace ht73 := isSl.gn ht73 g
    replace ht75 := isSl.gn ht75 g
    replace ht79 := isSl.gn ht79 g
    replace ht80 := isSl.gn ht80 g
    replace ht87 := isSl.gn ht87 g
    replace ht88 := isSl.gn ht88 g
    replace ht91 := isSl.gn ht91 g
    replace ht94 := isSl.gn ht94 g
    replace ht95 := isSl.gn ht95 g
    replace ht101 := isSl.gn ht101 g
    replace ht103 := isSl.gn ht103 g
    clear g
    go_wp2_with fail
    skip
    refine (k_same (decide_eq_true (pl6 p q)) _ _ _ ht103 ht105).mono ?_
    rintro e w31 ⟨_, rfl, g, rfl⟩
    replace g := Gn.of g
    replace hg := hg.trans g
    replace hp := isSl.gn hp g
    replace hq := isSl.gn hq g
    replace hr := isSl.gn hr g
    replace ht42 := isSl.gn ht42 g
    replace ht45 := isSl.gn ht45 g
    replace ht51 := isSl.gn ht51 g
    replace ht54 := isSl.gn ht54 g
    replace ht60 := isSl.gn ht60 g
    replace ht62 := isSl.gn ht62 g
    replace ht66 := isSl.gn ht66 g
    replace ht67 := isSl.gn ht67 g
    replace ht73 := isSl.gn ht73 g
    replace ht75 := isSl.gn ht75 g
    replace ht79 := isSl.gn ht79 g
    replace ht80 := isSl.gn ht80 g
    replace ht87 := isSl.gn ht87 g
    replace ht88 := isSl.gn ht88 g
    replace ht91 := isSl.gn ht91 g
    replace ht94 := isSl.gn ht94 g
    replace ht95 := isSl.gn ht95 g
    replace ht101 := isSl.gn ht101 g
    replace ht103 := isSl.gn ht103 g
    replace ht105 := isSl.gn ht105 g
    clear g
    go_wp2_with fail
    skip
    go_ret
    exact ⟨rfl, hg⟩
  | succ a =>
    cases b with
    | zero =>
      have hc := p_degree Ap _ cp p w4 hp.sl (by omega)
      rw [← ha.out, show ((a + 1 : Nat) : Int) - 1 = (a : Int) from by omega] at hc
      refine hc.mono ?_
      rintro e w5 ⟨rfl, g⟩
      clear hc
      replace hg := hg.trans g
      replace hp := isSl.gn hp g
      replace hq := isSl.gn hq g
      replace hr := isSl.gn hr g
      clear g
      go_wp2_with fail
      skip
      have hc := p_degree Aq _ cq q w5 hq.sl (by omega)
      rw [← hb.out] at hc
      refine hc.mono ?_
      rintro e w6 ⟨rfl, g⟩
      clear hc
      replace hg := hg.trans g
      replace hp := isSl.gn hp g
      replace hq := isSl.gn hq g
      replace hr := isSl.gn hr g
      clear g
      go_wp2_with fail
      skip
      refine (k_padd (by first | omega | exact bpadd _ (by omega) (by omega) | exact bpsub _ (by omega) (by omega) | exact bpmul _ (by omega) | exact bpsca _ (by omega) | exact Nat.le_trans (bpmul 1000 (by omega)) (by omega)) (by first | omega | exact bpadd _ (by omega) (by omega) | exact bpsub _ (by omega) (by omega) | exact bpmul _ (by omega) | exact bpsca _ (by omega) | exact Nat.le_trans (bpmul 1000 (by omega)) (by omega)) _ _ _ hp hq).mono ?_
      rintro e w7 ⟨v42, rfl, g, ht42⟩
      replace g := Gn.of g
      replace hg := hg.trans g
      replace hp := isSl.gn hp g
      replace hq := isSl.gn hq g
      replace hr := isSl.gn hr g
      clear g
      go_wp2_with fail
      skip
      refine (k_padd (by first | omega | exact bpadd _ (by omega) (by omega) | exact bpsub _ (by omega) (by omega) | exact bpmul _ (by omega) | exact bpsca _ (by omega) | exact Nat.le_trans (bpmul 1000 (by omega)) (by omega)) (by first | omega | exact bpadd _ (by omega) (by omega) | exact bpsub _ (by omega) (by omega) | exact bpmul _ (by omega) | exact bpsca _ (by omega) | exact Nat.le_trans (bpmul 1000 (by omega)) (by omega)) _ _ _ hq hp).mono ?_
      rintro e w8 ⟨v45, rfl, g, ht45⟩
      replace g := Gn.of g
      replace hg := hg.trans g
      replace hp := isSl.gn hp g
      replace hq := isSl.gn hq g
      replace hr := isSl.gn hr g
      replace ht42 := isSl.gn ht42 g
      clear g
      go_wp2_with fail
      skip
      refine (k_same (decide_eq_true (pl1 p q)) _ _ _ ht42 ht45).mono ?_
      rintro e w9 ⟨_, rfl, g, rfl⟩
      replace g := Gn.of g
      replace hg := hg.trans g
      replace hp := isSl.gn hp g
      replace hq := isSl.gn hq g
      replace hr := isSl.gn hr g
      replace ht42 := isSl.gn ht42 g
      replace ht45 := isSl.gn ht45 g
      clear g
      go_wp2_with fail
      skip
      refine (k_pmul (by first | omega | exact bpadd _ (by omega) (by omega) | exact bpsub _ (by omega) (by omega) | exact bpmul _ (by omega) | exact bpsca _ (by omega) | exact Nat.le_trans (bpmul 1000 (by omega)) (by omega)) (by first | omega | exact bpadd _ (by omega) (by omega) | exact bpsub _ (by omega) (by omega) | exact bpmul _ (by omega) | exact bpsca _ (by omega) | exact Nat.le_trans (bpmul 1000 (by omega)) (by omega)) _ _ _ hp hq).mono ?_
      rintro e w10 ⟨v51, rfl, g, ht51⟩
      replace g := Gn.of g
      replace hg := hg.trans g
      replace hp := isSl.gn hp g
      replace hq := isSl.gn hq g
      replace hr := isSl.gn hr g
      replace ht42 := isSl.gn ht42 g
      replace ht45 := isSl.gn ht45 g
      clear g
      go_wp2_with fail
      skip
      refine (k_pmul (by first | omega | exact bpadd _ (by omega) (by omega) | exact bpsub _ (by omega) (by omega) | exact bpmul _ (by omega) | exact bpsca _ (by omega) | exact Nat.le_trans (bpmul 1000 (by omega)) (by omega)) (by first | omega | exact bpadd _ (by omega) (by omega) | exact bpsub _ (by omega) (by omega) | exact bpmul _ (by omega) | exact bpsca _ (by omega) | exact Nat.le_trans (bpmul 1000 (by omega)) (by omega)) _ _ _ hq hp).mono ?_
      rintro e w11 ⟨v54, rfl, g, ht54⟩
      replace g := Gn.of g
      replace hg := hg.trans g
      replace hp := isSl.gn hp g
      replace hq := isSl.gn hq g
      replace hr := isSl.gn hr g
      replace ht42 := isSl.gn ht42 g
      replace ht45 := isSl.gn ht45 g
      replace ht51 := isSl.gn ht51 g
      clear g
      go_wp2_with fail
      skip
      refine (k_same (decide_eq_true (pl2 p q)) _ _ _ ht51 ht54).mono ?_
      rintro e w12 ⟨_, rfl, g, rfl⟩
      replace g := Gn.of g
      replace hg := hg.trans g
      replace hp := isSl.gn hp g
      replace hq := isSl.gn hq g
      replace hr := isSl.gn hr g
      replace ht42 := isSl.gn ht42 g
      replace ht45 := isSl.gn ht45 g
      replace ht51 := isSl.gn ht51 g
      replace ht54 := isSl.gn ht54 g
      clear g
      go_wp2_with fail
      skip
      refine (k_padd (by first | omega | exact bpadd _ (by omega) (by omega) | exact bpsub _ (by omega) (by omega) | exact bpmul _ (by omega) | exact bpsca _ (by omega) | exact Nat.le_trans (bpmul 1000 (by omega)) (by omega)) (by first | omega | exact bpadd _ (by omega) (by omega) | exact bpsub _ (by omega) (by omega) | exact bpmul _ (by omega) | exact bpsca _ (by omega) | exact Nat.le_trans (bpmul 1000 (by omega)) (by omega)) _ _ _ hp hq).mono ?_
      rintro e w13 ⟨v60, rfl, g, ht60⟩
      replace g := Gn.of g
      replace hg := hg.trans g
      replace hp := isSl.gn hp g
      replace hq := isSl.gn hq g
      replace hr := isSl.gn hr g
      replace ht42 := isSl.gn ht42 g
      replace ht45 := isSl.gn ht45 g
      replace ht51 := isSl.gn ht51 g
      replace ht54 := isSl.gn ht54 g
      clear g
      go_wp2_with fail
      skip
      refine (k_padd (by first | omega | exact bpadd _ (by omega) (by omega) | exact bpsub _ (by omega) (by omega) | exact bpmul _ (by omega) | exact bpsca _ (by omega) | exact Nat.le_trans (bpmul 1000 (by omega)) (by omega)) (by first | omega | exact bpadd _ (by omega) (by omega) | exact bpsub _ (by omega) (by omega) | exact bpmul _ (by omega) | exact bpsca _ (by omega) | exact Nat.le_trans (bpmul 1000 (by omega)) (by omega)) _ _ _ ht60 hr).mono ?_
      rintro e w14 ⟨v62, rfl, g, ht62⟩
      replace g := Gn.of g
      replace hg := hg.trans g
      replace hp := isSl.gn hp g
      replace hq := isSl.gn hq g
      replace hr := isSl.gn hr g
      replace ht42 := isSl.gn ht42 g
      replace ht45 := isSl.gn ht45 g
      replace ht51 := isSl.gn ht51 g
      replace ht54 := isSl.gn ht54 g
      replace ht60 := isSl.gn ht60 g
      clear g
      go_wp2_with fail
      skip
      refine (k_padd (by first | omega | exact bpadd _ (by omega) (by omega) | exact bpsub _ (by omega) (by omega) | exact bpmul _ (by omega) | exact bpsca _ (by omega) | exact Nat.le_trans (bpmul 1000 (by omega)) (by omega)) (by first | omega | exact bpadd _ (by omega) (by omega) | exact bpsub _ (by omega) (by omega) | exact bpmul _ (by omega) | exact bpsca _ (by omega) | exact Nat.le_trans (bpmul 1000 (by omega)) (by omega)) _ _ _ hq hr).mono ?_
      rintro e w15 ⟨v66, rfl, g, ht66⟩
      replace g := Gn.of g
      replace hg := hg.trans g
      replace hp := isSl.gn hp g
      replace hq := isSl.gn hq g
      replace hr := isSl.gn hr g
      replace ht42 := isSl.gn ht42 g
      replace ht45 := isSl.gn ht45 g
      replace ht51 := isSl.gn ht51 g
      replace ht54 := isSl.gn ht54 g
      replace ht60 := isSl.gn ht60 g
      replace ht62 := isSl.gn ht62 g
      clear g
      go_wp2_with fail
      skip
      refine (k_padd (by first | omega | exact bpadd _ (by omega) (by omega) | exact bpsub _ (by omega) (by omega) | exact bpmul _ (by omega) | exact bpsca _ (by omega) | exact Nat.le_trans (bpmul 1000 (by omega)) (by omega)) (by first | omega | exact bpadd _ (by omega) (by omega) | exact bpsub _ (by omega) (by omega) | exact bpmul _ (by omega) | exact bpsca _ (by omega) | exact Nat.le_trans (bpmul 1000 (by omega)) (by omega)) _ _ _ hp ht66).mono ?_
      rintro e w16 ⟨v67, rfl, g, ht67⟩
      replace g := Gn.of g
      replace hg := hg.trans g
      replace hp := isSl.gn hp g
      replace hq := isSl.gn hq g
      replace hr := isSl.gn hr g
      replace ht42 := isSl.gn ht42 g
      replace ht45 := isSl.gn ht45 g
      replace ht51 := isSl.gn ht51 g
      replace ht54 := isSl.gn ht54 g
      replace ht60 := isSl.gn ht60 g
      replace ht62 := isSl.gn ht62 g
      replace ht66 := isSl.gn ht66 g
      clear g
      go_wp2_with fail
      skip
      refine (k_same (decide_eq_true (pl3 p q r)) _ _ _ ht62 ht67).mono ?_
      rintro e w17 ⟨_, rfl, g, rfl⟩
      replace g := Gn.of g
      replace hg := hg.trans g
      replace hp := isSl.gn hp g
      replace hq := isSl.gn hq g
      replace hr := isSl.gn hr g
      replace ht42 := isSl.gn ht42 g
      replace ht45 := isSl.gn ht45 g
      replace ht51 := isSl.gn ht51 g
      replace ht54 := isSl.gn ht54 g
      replace ht60 := isSl.gn ht60 g
      replace ht62 := isSl.gn ht62 g
      replace ht66 := isSl.gn ht66 g
      replace ht67 := isSl.gn ht67 g
      clear g
      go_wp2_with fail
      skip
      refine (k_pmul (by first | omega | exact bpadd _ (by omega) (by omega) | exact bpsub _ (by omega) (by omega) | exact bpmul _ (by omega) | exact bpsca _ (by omega) | exact Nat.le_trans (bpmul 1000 (by omega)) (by omega)) (by first | omega | exact bpadd _ (by omega) (by omega) | exact bpsub _ (by omega) (by omega) | exact bpmul _ (by omega) | exact bpsca _ (by omega) | exact Nat.le_trans (bpmul 1000 (by omega)) (by omega)) _ _ _ hp hq).mono ?_
      rintro e w18 ⟨v73, rfl, g, ht73⟩
      replace g := Gn.of g
      replace hg := hg.trans g
      replace hp := isSl.gn hp g
      replace hq := isSl.gn hq g
      replace hr := isSl.gn hr g
      replace ht42 := isSl.gn ht42 g
      replace ht45 := isSl.gn ht45 g
      replace ht51 := isSl.gn ht51 g
      replace ht54 := isSl.gn ht54 g
      replace ht60 := isSl.gn ht60 g
      replace ht62 := isSl.gn ht62 g
      replace ht66 := isSl.gn ht66 g
      replace ht67 := isSl.gn ht67 g
      clear g
      go_wp2_with fail
      skip
      refine (k_pmul (by first | omega | exact bpadd _ (by omega) (by omega) | exact bpsub _ (by omega) (by omega) | exact bpmul _ (by omega) | exact bpsca _ (by omega) | exact Nat.le_trans (bpmul 1000 (by omega)) (by omega)) (by first | omega | exact bpadd _ (by omega) (by omega) | exact bpsub _ (by omega) (by omega) | exact bpmul _ (by omega) | exact bpsca _ (by omega) | exact Nat.le_trans (bpmul 1000 (by omega)) (by omega)) _ _ _ ht73 hr).mono ?_
      rintro e w19 ⟨v75, rfl, g, ht75⟩
      replace g := Gn.of g
      replace hg := hg.trans g
      replace hp := isSl.gn hp g
      replace hq := isSl.gn hq g
      replace hr := isSl.gn hr g
      replace ht42 := isSl.gn ht42 g
      replace ht45 := isSl.gn ht45 g
      replace ht51 := isSl.gn ht51 g
      replace ht54 := isSl.gn ht54 g
      replace ht60 := isSl.gn ht60 g
      replace ht62 := isSl.gn ht62 g
      replace ht66 := isSl.gn ht66 g
      replace ht67 := isSl.gn ht67 g
      replace ht73 := isSl.gn ht73 g
      clear g
      go_wp2_with fail
      skip
      refine (k_pmul (by first | omega | exact bpadd _ (by omega) (by omega) | exact bpsub _ (by omega) (by omega) | exact bpmul _ (by omega) | exact bpsca _ (by omega) | exact Nat.le_trans (bpmul 1000 (by omega)) (by omega)) (by first | omega | exact bpadd _ (by omega) (by omega) | exact bpsub _ (by omega) (by omega) | exact bpmul _ (by omega) | exact bpsca _ (by omega) | exact Nat.le_trans (bpmul 1000 (by omega)) (by omega)) _ _ _ hq hr).mono ?_
      rintro e w20 ⟨v79, rfl, g, ht79⟩
      replace g := Gn.of g
      replace hg := hg.trans g
      replace hp := isSl.gn hp g
      replace hq := isSl.gn hq g
      replace hr := isSl.gn hr g
      replace ht42 := isSl.gn ht42 g
      replace ht45 := isSl.gn ht45 g
      replace ht51 := isSl.gn ht51 g
      replace ht54 := isSl.gn ht54 g
      replace ht60 := isSl.gn ht60 g
      replace ht62 := isSl.gn ht62 g
      replace ht66 := isSl.gn ht66 g
      replace ht67 := isSl.gn ht67 g
      replace ht73 := isSl.gn ht73 g
      replace ht75 := isSl.gn ht75 g
      clear g
      go_wp2_with fail
      skip
      refine (k_pmul (by first | omega | exact bpadd _ (by omega) (by omega) | exact bpsub _ (by omega) (by omega) | exact bpmul _ (by omega) | exact bpsca _ (by omega) | exact Nat.le_trans (bpmul 1000 (by omega)) (by omega)) (by first | omega | exact bpadd _ (by omega) (by omega) | exact bpsub _ (by omega) (by omega) | exact bpmul _ (by omega) | exact bpsca _ (by omega) | exact Nat.le_trans (bpmul 1000 (by omega)) (by omega)) _ _ _ hp ht79).mono ?_
      rintro e w21 ⟨v80, rfl, g, ht80⟩
      replace g := Gn.of g
      replace hg := hg.trans g
      replace hp := isSl.gn hp g
      replace hq := isSl.gn hq g
      replace hr := isSl.gn hr g
      replace ht42 := isSl.gn ht42 g
      replace ht45 := isSl.gn ht45 g
      replace ht51 := isSl.gn ht51 g
      replace ht54 := isSl.gn ht54 g
      replace ht60 := isSl.gn ht60 g
      replace ht62 := isSl.gn ht62 g
      replace ht66 := isSl.gn ht66 g
      replace ht67 := isSl.gn ht67 g
      replace ht73 := isSl.gn ht73 g
      replace ht75 := isSl.gn ht75 g
      replace ht79 := isSl.gn ht79 g
      clear g
      go_wp2_with fail
      skip
      refine (k_same (decide_eq_true (pl4 p q r)) _ _ _ ht75 ht80).mono ?_
      rintro e w22 ⟨_, rfl, g, rfl⟩
      replace g := Gn.of g
      replace hg := hg.trans g
      replace hp := isSl.gn hp g
      replace hq := isSl.gn hq g
      replace hr := isSl.gn hr g
      replace ht42 := isSl.gn ht42 g
      replace ht45 := isSl.gn ht45 g
      replace ht51 := isSl.gn ht51 g
      replace ht54 := isSl.gn ht54 g
      replace ht60 := isSl.gn ht60 g
      replace ht62 := isSl.gn ht62 g
      replace ht66 := isSl.gn ht66 g
      replace ht67 := isSl.gn ht67 g
      replace ht73 := isSl.gn ht73 g
      replace ht75 := isSl.gn ht75 g
      replace ht79 := isSl.gn ht79 g
      replace ht80 := isSl.gn ht80 g
      clear g
      go_wp2_with fail
      skip
      refine (k_padd (by first | omega | exact bpadd _ (by omega) (by omega) | exact bpsub _ (by omega) (by omega) | exact bpmul _ (by omega) | exact bpsca _ (by omega) | exact Nat.le_trans (bpmul 1000 (by omega)) (by omega)) (by first | omega | exact bpadd _ (by omega) (by omega) | exact bpsub _ (by omega) (by omega) | exact bpmul _ (by omega) | exact bpsca _ (by omega) | exact Nat.le_trans (bpmul 1000 (by omega)) (by omega)) _ _ _ hq hr).mono ?_
      rintro e w23 ⟨v87, rfl, g, ht87⟩
      replace g := Gn.of g
      replace hg := hg.trans g
      replace hp := isSl.gn hp g
      replace hq := isSl.gn hq g
      replace hr := isSl.gn hr g
      replace ht42 := isSl.gn ht42 g
      replace ht45 := isSl.gn ht45 g
      replace ht51 := isSl.gn ht51 g
      replace ht54 := isSl.gn ht54 g
      replace ht60 := isSl.gn ht60 g
      replace ht62 := isSl.gn ht62 g
      replace ht66 := isSl.gn ht66 g
      replace ht67 := isSl.gn ht67 g
      replace ht73 := isSl.gn ht73 g
      replace ht75 := isSl.gn ht75 g
      replace ht79 := isSl.gn ht79 g
      replace ht80 := isSl.gn ht80 g
      clear g
      go_wp2_with fail
      skip
      refine (k_pmul (by first | omega | exact bpadd _ (by omega) (by omega) | exact bpsub _ (by omega) (by omega) | exact bpmul _ (by omega) | exact bpsca _ (by omega) | exact Nat.le_trans (bpmul 1000 (by omega)) (by omega)) (by first | omega | exact bpadd _ (by omega) (by omega) | exact bpsub _ (by omega) (by omega) | exact bpmul _ (by omega) | exact bpsca _ (by omega) | exact Nat.le_trans (bpmul 1000 (by omega)) (by omega)) _ _ _ hp ht87).mono ?_
      rintro e w24 ⟨v88, rfl, g, ht88⟩
      replace g := Gn.of g
      replace hg := hg.trans g
      replace hp := isSl.gn hp g
      replace hq := isSl.gn hq g
      replace hr := isSl.gn hr g
      replace ht42 := isSl.gn ht42 g
      replace ht45 := isSl.gn ht45 g
      replace ht51 := isSl.gn ht51 g
      replace ht54 := isSl.gn ht54 g
      replace ht60 := isSl.gn ht60 g
      replace ht62 := isSl.gn ht62 g
      replace ht66 := isSl.gn ht66 g
      replace ht67 := isSl.gn ht67 g
      replace ht73 := isSl.gn ht73 g
      replace ht75 := isSl.gn ht75 g
      replace ht79 := isSl.gn ht79 g
      replace ht80 := isSl.gn ht80 g
      replace ht87 := isSl.gn ht87 g
      clear g
      go_wp2_with fail
      skip
      refine (k_pmul (by first | omega | exact bpadd _ (by omega) (by omega) | exact bpsub _ (by omega) (by omega) | exact bpmul _ (by omega) | exact bpsca _ (by omega) | exact Nat.le_trans (bpmul 1000 (by omega)) (by omega)) (by first | omega | exact bpadd _ (by omega) (by omega) | exact bpsub _ (by omega) (by omega) | exact bpmul _ (by omega) | exact bpsca _ (by omega) | exact Nat.le_trans (bpmul 1000 (by omega)) (by omega)) _ _ _ hp hq).mono ?_
      rintro e w25 ⟨v91, rfl, g, ht91⟩
      replace g := Gn.of g
      replace hg := hg.trans g
      replace hp := isSl.gn hp g
      replace hq := isSl.gn hq g
      replace hr := isSl.gn hr g
      replace ht42 := isSl.gn ht42 g
      replace ht45 := isSl.gn ht45 g
      replace ht51 := isSl.gn ht51 g
      replace ht54 := isSl.gn ht54 g
      replace ht60 := isSl.gn ht60 g
      replace ht62 := isSl.gn ht62 g
      replace ht66 := isSl.gn ht66 g
      replace ht67 := isSl.gn ht67 g
      replace ht73 := isSl.gn ht73 g
      replace ht75 := isSl.gn ht75 g
      replace ht79 := isSl.gn ht79 g
      replace ht80 := isSl.gn ht80 g
      replace ht87 := isSl.gn ht87 g
      replace ht88 := isSl.gn ht88 g
      clear g
      go_wp2_with fail
      skip
      refine (k_pmul (by first | omega | exact bpadd _ (by omega) (by omega) | exact bpsub _ (by omega) (by omega) | exact bpmul _ (by omega) | exact bpsca _ (by omega) | exact Nat.le_trans (bpmul 1000 (by omega)) (by omega)) (by first | omega | exact bpadd _ (by omega) (by omega) | exact bpsub _ (by omega) (by omega) | exact bpmul _ (by omega) | exact bpsca _ (by omega) | exact Nat.le_trans (bpmul 1000 (by omega)) (by omega)) _ _ _ hp hr).mono ?_
      rintro e w26 ⟨v94, rfl, g, ht94⟩
      replace g := Gn.of g
      replace hg := hg.trans g
      replace hp := isSl.gn hp g
      replace hq := isSl.gn hq g
      replace hr := isSl.gn hr g
      replace ht42 := isSl.gn ht42 g
      replace ht45 := isSl.gn ht45 g
      replace ht51 := isSl.gn ht51 g
      replace ht54 := isSl.gn ht54 g
      replace ht60 := isSl.gn ht60 g
      replace ht62 := isSl.gn ht62 g
      replace ht66 := isSl.gn ht66 g
      replace ht67 := isSl.gn ht67 g
      replace ht73 := isSl.gn ht73 g
      replace ht75 := isSl.gn ht75 g
      replace ht79 := isSl.gn ht79 g
      replace ht80 := isSl.gn ht80 g
      replace ht87 := isSl.gn ht87 g
      replace ht88 := isSl.gn ht88 g
      replace ht91 := isSl.gn ht91 g
      clear g
      go_wp2_with fail
      skip
      refine (k_padd (by first | omega | exact bpadd _ (by omega) (by omega) | exact bpsub _ (by omega) (by omega) | exact bpmul _ (by omega) | exact bpsca _ (by omega) | exact Nat.le_trans (bpmul 1000 (by omega)) (by omega)) (by first | omega | exact bpadd _ (by omega) (by omega) | exact bpsub _ (by omega) (by omega) | exact bpmul _ (by omega) | exact bpsca _ (by omega) | exact Nat.le_trans (bpmul 1000 (by omega)) (by omega)) _ _ _ ht91 ht94).mono ?_
      rintro e w27 ⟨v95, rfl, g, ht95⟩
      replace g := Gn.of g
      replace hg := hg.trans g
      replace hp := isSl.gn hp g
      replace hq := isSl.gn hq g
      replace hr := isSl.gn hr g
      replace ht42 := isSl.gn ht42 g
      replace ht45 := isSl.gn ht45 g
      replace ht51 := isSl.gn ht51 g
      replace ht54 := isSl.gn ht54 g
      replace ht60 := isSl.gn ht60 g
      replace ht62 := isSl.gn ht62 g
      replace ht66 := isSl.gn ht66 g
      replace ht67 := isSl.gn ht67 g
      replace ht73 := isSl.gn ht73 g
      replace ht75 := isSl.gn ht75 g
      replace ht79 := isSl.gn ht79 g
      replace ht80 := isSl.gn ht80 g
      replace ht87 := isSl.gn ht87 g
      replace ht88 := isSl.gn ht88 g
      replace ht91 := isSl.gn ht91 g
      replace ht94 := isSl.gn ht94 g
      clear g
      go_wp2_with fail
      skip
      refine (k_same (decide_eq_true (pl5 p q r)) _ _ _ ht88 ht95).mono ?_
      rintro e w28 ⟨_, rfl, g, rfl⟩
      replace g := Gn.of g
      replace hg := hg.trans g
      replace hp := isSl.gn hp g
      replace hq := isSl.gn hq g
      replace hr := isSl.gn hr g
      replace ht42 := isSl.gn ht42 g
      replace ht45 := isSl.gn ht45 g
      replace ht51 := isSl.gn ht51 g
      replace ht54 := isSl.gn ht54 g
      replace ht60 := isSl.gn ht60 g
      replace ht62 := isSl.gn ht62 g
      replace ht66 := isSl.gn ht66 g
      replace ht67 := isSl.gn ht67 g
      replace ht73 := isSl.gn ht73 g
      replace ht75 := isSl.gn ht75 g
      replace ht79 := isSl.gn ht79 g
      replace ht80 := isSl.gn ht80 g
      replace ht87 := isSl.gn ht87 g
      replace ht88 := isSl.gn ht88 g
      replace ht91 := isSl.gn ht91 g
      replace ht94 := isSl.gn ht94 g
      replace ht95 := isSl.gn ht95 g
      clear g
      go_wp2_with fail
      skip
      refine (k_psub (by first | omega | exact bpadd _ (by omega) (by omega) | exact bpsub _ (by omega) (by omega) | exact bpmul _ (by omega) | exact bpsca _ (by omega) | exact Nat.le_trans (bpmul 1000 (by omega)) (by omega)) (by first | omega | exact bpadd _ (by omega) (by omega) | exact bpsub _ (by omega) (by omega) | exact bpmul _ (by omega) | exact bpsca _ (by omega) | exact Nat.le_trans (bpmul 1000 (by omega)) (by omega)) _ _ _ hp hq).mono ?_
      rintro e w29 ⟨v101, rfl, g, ht101⟩
      replace g := Gn.of g
      replace hg := hg.trans g
      replace hp := isSl.gn hp g
      replace hq := isSl.gn hq g
      replace hr := isSl.gn hr g
      replace ht42 := isSl.gn ht42 g
      replace ht45 := isSl.gn ht45 g
      replace ht51 := isSl.gn ht51 g
      replace ht54 := isSl.gn ht54 g
      replace ht60 := isSl.gn ht60 g
      replace ht62 := isSl.gn ht62 g
      replace ht66 := isSl.gn ht66 g
      replace ht67 := isSl.gn ht67 g
      replace ht73 := isSl.gn ht73 g
      replace ht75 := isSl.gn ht75 g
      replace ht79 := isSl.gn ht79 g
      replace ht80 := isSl.gn ht80 g
      replace ht87 := isSl.gn ht87 g
      replace ht88 := isSl.gn ht88 g
      replace ht91 := isSl.gn ht91 g
      replace ht94 := isSl.gn ht94 g
      replace ht95 := isSl.gn ht95 g
      clear g
      go_wp2_with fail
      skip
      refine (k_padd (by first | omega | exact bpadd _ (by omega) (by omega) | exact bpsub _ (by omega) (by omega) | exact bpmul _ (by omega) | exact bpsca _ (by omega) | exact Nat.le_trans (bpmul 1000 (by omega)) (by omega)) (by first | omega | exact bpadd _ (by omega) (by omega) | exact bpsub _ (by omega) (by omega) | exact bpmul _ (by omega) | exact bpsca _ (by omega) | exact Nat.le_trans (bpmul 1000 (by omega)) (by omega)) _ _ _ ht101 hq).mono ?_
      rintro e w30 ⟨v103, rfl, g, ht103⟩
      replace g := Gn.of g
      replace hg := hg.trans g
      replace hp := isSl.gn hp g
      replace hq := isSl.gn hq g
      replace hr := isSl.gn hr g
      replace ht42 := isSl.gn ht42 g
      replace ht45 := isSl.gn ht45 g
      replace ht51 := isSl.gn ht51 g
      replace ht54 := isSl.gn ht54 g
      replace ht60 := isSl.gn ht60 g
      replace ht62 := isSl.gn ht62 g
      replace ht66 := isSl.gn ht66 g
      replace ht67 := isSl.gn ht67 g
      replace ht73 := isSl.gn ht73 g
      replace ht75 := isSl.gn ht75 g
      replace ht79 := isSl.gn ht79 g
      replace ht80 := isSl.gn ht80 g
      replace ht87 := isSl.gn ht87 g
      replace ht88 := isSl.gn ht88 g
      replace ht91 := isSl.gn ht91 g
      replace ht94 := isSl.gn ht94 g
      replace ht95 := isSl.gn ht95 g
      replace ht101 := isSl.gn ht101 g
      clear g
      go_wp2_with fail
      skip
      refine (k_ptrim (by first | omega | exact bpadd _ (by omega) (by omega) | exact bpsub _ (by omega) (by omega) | exact bpmul _ (by omega) | exact bpsca _ (by omega) | exact Nat.le_trans (bpmul 1000 (by omega)) (by omega)) _ _ hp).mono ?_
      rintro e w31 ⟨v105, rfl, g, ht105⟩
      replace g := Gn.of g
      replace hg := hg.trans g
      replace hp := isSl.gn hp g
      replace hq := isSl.gn hq g
      replace hr := isSl.gn hr g
      replace ht42 := isSl.gn ht42 g
      replace ht45 := isSl.gn ht45 g
      replace ht51 := isSl.gn ht51 g
      replace ht54 := isSl.gn ht54 g
      replace ht60 := isSl.gn ht60 g
      replace ht62 := isSl.gn ht62 g
      replace ht66 := isSl.gn ht66 g
      replace ht67 := isSl.gn ht67 g
      replace ht73 := isSl.gn ht73 g
      replace ht75 := isSl.gn ht75 g
      replace ht79 := isSl.gn ht79 g
      replace ht80 := isSl.gn ht80 g
      replace ht87 := isSl.gn ht87 g
      replace ht88 := isSl.gn ht88 g
      replace ht91 := isSl.gn ht91 g
      replace ht94 := isSl.gn ht94 g
      replace ht95 := isSl.gn ht95 g
      replace ht101 := isSl.gn ht101 g
      replace ht103 := isSl.gn ht103 g
      clear g
      go_wp2_with fail
      skip
      refine (k_same (decide_eq_true (pl6 p q)) _ _ _ ht103 ht105).mono ?_
      rintro e w32 ⟨_, rfl, g, rfl⟩
      replace g := Gn.of g
      replace hg := hg.trans g
      replace hp := isSl.gn hp g
      replace hq := isSl.gn hq g
      replace hr := isSl.gn hr g
      replace ht42 := isSl.gn ht42 g
      replace ht45 := isSl.gn ht45 g
      replace ht51 := isSl.gn ht51 g
      replace ht54 := isSl.gn ht54 g
      replace ht60 := isSl.gn ht60 g
      replace ht62 := isSl.gn ht62 g
      replace ht66 := isSl.gn ht66 g
      replace ht67 := isSl.gn ht67 g
      replace ht73 := isSl.gn ht73 g
      replace ht75 := isSl.gn ht75 g
      replace ht79 := isSl.gn ht79 g
      replace ht80 := isSl.gn ht80 g
      replace ht87 := isSl.gn ht87 g
      replace ht88 := isSl.gn ht88 g
      replace ht91 := isSl.gn ht91 g
      replace ht94 := isSl.gn ht94 g
      replace ht95 := isSl.gn ht95 g
      replace ht101 := isSl.gn ht101 g
      replace ht103 := isSl.gn ht103 g
      replace ht105 := isSl.gn ht105 g
      clear g
      go_wp2_with fail
      skip
      go_ret
      exact ⟨rfl, hg⟩
    | succ b =>
      have hc := p_degree Ap _ cp p w4 hp.sl (by omega)
      rw [← ha.out, show ((a + 1 : Nat) : Int) - 1 = (a : Int) from by omega] at hc
      refine hc.mono ?_
      rintro e w5 ⟨rfl, g⟩
      clear hc
      replace hg := hg.trans g
      replace hp := isSl.gn hp g
      replace hq := isSl.gn hq g
      replace hr := isSl.gn hr g
      clear g
      go_wp2_with fail
      skip
      have hc := p_degree Aq _ cq q w5 hq.sl (by omega)
      rw [← hb.out, show ((b + 1 : Nat) : Int) - 1 = (b : Int) from by omega] at hc
      refine hc.mono ?_
      rintro e w6 ⟨rfl, g⟩
      clear hc
      replace hg := hg.trans g
      replace hp := isSl.gn hp g
      replace hq := isSl.gn hq g
      replace hr := isSl.gn hr g
      clear g
      go_wp2_with fail
      skip
      refine (p_mulL Ap Aq _ cp _ cq p q _ hp.sl hq.sl (by omega) (by omega)).mono ?_
      rintro e w7 ⟨As, ns, cs, rfl, s, g⟩
      replace hg := hg.trans g
      replace hp := isSl.gn hp g
      replace hq := isSl.gn hq g
      replace hr := isSl.gn hr g
      clear g
      have hs : isSl (trim (pmul p q)) (.slice As ns cs) w7 := ⟨_, _, _, rfl, s⟩
      clear s
      have ls := bpmul (l := p) (k := q) 16 (by omega)
      obtain rfl := hs.len
      go_wp2_with fail
      skip
      have hc := p_degree As _ cs (trim (pmul p q)) w7 hs.sl (by omega)
      rw [degs ha.out hb.out] at hc
      refine hc.mono ?_
      rintro e w8 ⟨rfl, g⟩
      clear hc
      replace hg := hg.trans g
      replace hp := isSl.gn hp g
      replace hq := isSl.gn hq g
      replace hr := isSl.gn hr g
      replace hs := isSl.gn hs g
      clear g
      go_wp2_with fail
      skip
      have hc := p_degree Ap _ cp p w8 hp.sl (by omega)
      rw [← ha.out, show ((a + 1 : Nat) : Int) - 1 = (a : Int) from by omega] at hc
      refine hc.mono ?_
      rintro e w9 ⟨rfl, g⟩
      clear hc
      replace hg := hg.trans g
      replace hp := isSl.gn hp g
      replace hq := isSl.gn hq g
      replace hr := isSl.gn hr g
      replace hs := isSl.gn hs g
      clear g
      go_wp2_with fail
      skip
      have hc := p_degree Aq _ cq q w9 hq.sl (by omega)
      rw [← hb.out, show ((b + 1 : Nat) : Int) - 1 = (b : Int) from by omega] at hc
      refine hc.mono ?_
      rintro e w10 ⟨rfl, g⟩
      clear hc
      replace hg := hg.trans g
      replace hp := isSl.gn hp g
      replace hq := isSl.gn hq g
      replace hr := isSl.gn hr g
      replace hs := isSl.gn hs g
      clear g
      go_wp2_with fail
      skip
      refine (k_padd (by first | omega | exact bpadd _ (by omega) (by omega) | exact bpsub _ (by omega) (by omega) | exact bpmul _ (by omega) | exact bpsca _ (by omega) | exact Nat.le_trans (bpmul 1000 (by omega)) (by omega)) (by first | omega | exact bpadd _ (by omega) (by omega) | exact bpsub _ (by omega) (by omega) | exact bpmul _ (by omega) | exact bpsca _ (by omega) | exact Nat.le_trans (bpmul 1000 (by omega)) (by omega)) _ _ _ hp hq).mono ?_
      rintro e w11 ⟨v42, rfl, g, ht42⟩
      replace g := Gn.of g
      replace hg := hg.trans g
      replace hp := isSl.gn hp g
      replace hq := isSl.gn hq g
      replace hr := isSl.gn hr g
      replace hs := isSl.gn hs g
      clear g
      go_wp2_with fail
      skip
      refine (k_padd (by first | omega | exact bpadd _ (by omega) (by omega) | exact bpsub _ (by omega) (by omega) | exact bpmul _ (by omega) | exact bpsca _ (by omega) | exact Nat.le_trans (bpmul 1000 (by omega)) (by omega)) (by first | omega | exact bpadd _ (by omega) (by omega) | exact bpsub _ (by omega) (by omega) | exact bpmul _ (by omega) | exact bpsca _ (by omega) | exact Nat.le_trans (bpmul 1000 (by omega)) (by omega)) _ _ _ hq hp).mono ?_
      rintro e w12 ⟨v45, rfl, g, ht45⟩
      replace g := Gn.of g
      replace hg := hg.trans g
      replace hp := isSl.gn hp g
      replace hq := isSl.gn hq g
      replace hr := isSl.gn hr g
      replace hs := isSl.gn hs g
      replace ht42 := isSl.gn ht42 g
      clear g
      go_wp2_with fail
      skip
      refine (k_same (decide_eq_true (pl1 p q)) _ _ _ ht42 ht45).mono ?_
      rintro e w13 ⟨_, rfl, g, rfl⟩
      replace g := Gn.of g
      replace hg := hg.trans g
      replace hp := isSl.gn hp g
      replace hq := isSl.gn hq g
      replace hr := isSl.gn hr g
      replace hs := isSl.gn hs g
      replace ht42 := isSl.gn ht42 g
      replace ht45 := isSl.gn ht45 g
      clear g
      go_wp2_with fail
      skip
      refine (k_pmul (by first | omega | exact bpadd _ (by omega) (by omega) | exact bpsub _ (by omega) (by omega) | exact bpmul _ (by omega) | exact bpsca _ (by omega) | exact Nat.le_trans (bpmul 1000 (by omega)) (by omega)) (by first | omega | exact bpadd _ (by omega) (by omega) | exact bpsub _ (by omega) (by omega) | exact bpmul _ (by omega) | exact bpsca _ (by omega) | exact Nat.le_trans (bpmul 1000 (by omega)) (by omega)) _ _ _ hp hq).mono ?_
      rintro e w14 ⟨v51, rfl, g, ht51⟩
      replace g := Gn.of g
      replace hg := hg.trans g
      replace hp := isSl.gn hp g
      replace hq := isSl.gn hq g
      replace hr := isSl.gn hr g
      replace hs := isSl.gn hs g
      replace ht42 := isSl.gn ht42 g
      replace ht45 := isSl.gn ht45 g
      clear g
      go_wp2_with fail
      skip
      refine (k_pmul (by first | omega | exact bpadd _ (by omega) (by omega) | exact bpsub _ (by omega) (by omega) | exact bpmul _ (by omega) | exact bpsca _ (by omega) | exact Nat.le_trans (bpmul 1000 (by omega)) (by omega)) (by first | omega | exact bpadd _ (by omega) (by omega) | exact bpsub _ (by omega) (by omega) | exact bpmul _ (by omega) | exact bpsca _ (by omega) | exact Nat.le_trans (bpmul 1000 (by omega)) (by omega)) _ _ _ hq hp).mono ?_
      rintro e w15 ⟨v54, rfl, g, ht54⟩
      replace g := Gn.of g
      replace hg := hg.trans g
      replace hp := isSl.gn hp g
      replace hq := isSl.gn hq g
      replace hr := isSl.gn hr g
      replace hs := isSl.gn hs g
      replace ht42 := isSl.gn ht42 g
      replace ht45 := isSl.gn ht45 g
      replace ht51 := isSl.gn ht51 g
      clear g
      go_wp2_with fail
      skip
      refine (k_same (decide_eq_true (pl2 p q)) _ _ _ ht51 ht54).mono ?_
      rintro e w16 ⟨_, rfl, g, rfl⟩
      replace g := Gn.of g
      replace hg := hg.trans g
      replace hp := isSl.gn hp g
      replace hq := isSl.gn hq g
      replace hr := isSl.gn hr g
      replace hs := isSl.gn hs g
      replace ht42 := isSl.gn ht42 g
      replace ht45 := isSl.gn ht45 g
      replace ht51 := isSl.gn ht51 g
      replace ht54 := isSl.gn ht54 g
      clear g
      go_wp2_with fail
      skip
      refine (k_padd (by first | omega | exact bpadd _ (by omega) (by omega) | exact bpsub _ (by omega) (by omega) | exact bpmul _ (by omega) | exact bpsca _ (by omega) | exact Nat.le_trans (bpmul 1000 (by omega)) (by omega)) (by first | omega | exact bpadd _ (by omega) (by omega) | exact bpsub _ (by omega) (by omega) | exact bpmul _ (by omega) | exact bpsca _ (by omega) | exact Nat.le_trans (bpmul 1000 (by omega)) (by omega)) _ _ _ hp hq).mono ?_
      rintro e w17 ⟨v60, rfl, g, ht60⟩
      replace g := Gn.of g
      replace hg := hg.trans g
      replace hp := isSl.gn hp g
      replace hq := isSl.gn hq g
      replace hr := isSl.gn hr g
      replace hs := isSl.gn hs g
      replace ht42 := isSl.gn ht42 g
      replace ht45 := isSl.gn ht45 g
      replace ht51 := isSl.gn ht51 g
      replace ht54 := isSl.gn ht54 g
      clear g
      go_wp2_with fail
      skip
      refine (k_padd (by first | omega | exact bpadd _ (by omega) (by omega) | exact bpsub _ (by omega) (by omega) | exact bpmul _ (by omega) | exact bpsca _ (by omega) | exact Nat.le_trans (bpmul 1000 (by omega)) (by omega)) (by first | omega | exact bpadd _ (by omega) (by omega) | exact bpsub _ (by omega) (by omega) | exact bpmul _ (by omega) | exact bpsca _ (by omega) | exact Nat.le_trans (bpmul 1000 (by omega)) (by omega)) _ _ _ ht60 hr).mono ?_
      rintro e w18 ⟨v62, rfl, g, ht62⟩
      replace g := Gn.of g
      replace hg := hg.trans g
      replace hp := isSl.gn hp g
      replace hq := isSl.gn hq g
      replace hr := isSl.gn hr g
      replace hs := isSl.gn hs g
      replace ht42 := isSl.gn ht42 g
      replace ht45 := isSl.gn ht45 g
      replace ht51 := isSl.gn ht51 g
      replace ht54 := isSl.gn ht54 g
      replace ht60 := isSl.gn ht60 g
      clear g
      go_wp2_with fail
      skip
      refine (k_padd (by first | omega | exact bpadd _ (by omega) (by omega) | exact bpsub _ (by omega) (by omega) | exact bpmul _ (by omega) | exact bpsca _ (by omega) | exact Nat.le_trans (bpmul 1000 (by omega)) (by omega)) (by first | omega | exact bpadd _ (by omega) (by omega) | exact bpsub _ (by omega) (by omega) | exact bpmul _ (by omega) | exact bpsca _ (by omega) | exact Nat.le_trans (bpmul 1000 (by omega)) (by omega)) _ _ _ hq hr).mono ?_
      rintro e w19 ⟨v66, rfl, g, ht66⟩
      replace g := Gn.of g
      replace hg := hg.trans g
      replace hp := isSl.gn hp g
      replace hq := isSl.gn hq g
      replace hr := isSl.gn hr g
      replace hs := isSl.gn hs g
      replace ht42 := isSl.gn ht42 g
      replace ht45 := isSl.gn ht45 g
      replace ht51 := isSl.gn ht51 g
      replace ht54 := isSl.gn ht54 g
      replace ht60 := isSl.gn ht60 g
      replace ht62 := isSl.gn ht62 g
      clear g
      go_wp2_with fail
      skip
      refine (k_padd (by first | omega | exact bpadd _ (by omega) (by omega) | exact bpsub _ (by omega) (by omega) | exact bpmul _ (by omega) | exact bpsca _ (by omega) | exact Nat.le_trans (bpmul 1000 (by omega)) (by omega)) (by first | omega | exact bpadd _ (by omega) (by omega) | exact bpsub _ (by omega) (by omega) | exact bpmul _ (by omega) | exact bpsca _ (by omega) | exact Nat.le_trans (bpmul 1000 (by omega)) (by omega)) _ _ _ hp ht66).mono ?_
      rintro e w20 ⟨v67, rfl, g, ht67⟩
      replace g := Gn.of g
      replace hg := hg.trans g
      replace hp := isSl.gn hp g
      replace hq := isSl.gn hq g
      replace hr := isSl.gn hr g
      replace hs := isSl.gn hs g
      replace ht42 := isSl.gn ht42 g
      replace ht45 := isSl.gn ht45 g
      replace ht51 := isSl.gn ht51 g
      replace ht54 := isSl.gn ht54 g
      replace ht60 := isSl.gn ht60 g
      replace ht62 := isSl.gn ht62 g
      replace ht66 := isSl.gn ht66 g
      clear g
      go_wp2_with fail
      skip
      refine (k_same (decide_eq_true (pl3 p q r)) _ _ _ ht62 ht67).mono ?_
      rintro e w21 ⟨_, rfl, g, rfl⟩
      replace g := Gn.of g
      replace hg := hg.trans g
      replace hp := isSl.gn hp g
      replace hq := isSl.gn hq g
      replace hr := isSl.gn hr g
      replace hs := isSl.gn hs g
      replace ht42 := isSl.gn ht42 g
      replace ht45 := isSl.gn ht45 g
      replace ht51 := isSl.gn ht51 g
      replace ht54 := isSl.gn ht54 g
      replace ht60 := isSl.gn ht60 g
      replace ht62 := isSl.gn ht62 g
      replace ht66 := isSl.gn ht66 g
      replace ht67 := isSl.gn ht67 g
      clear g
      go_wp2_with fail
      skip
      refine (k_pmul (by first | omega | exact bpadd _ (by omega) (by omega) | exact bpsub _ (by omega) (by omega) | exact bpmul _ (by omega) | exact bpsca _ (by omega) | exact Nat.le_trans (bpmul 1000 (by omega)) (by omega)) (by first | omega | exact bpadd _ (by omega) (by omega) | exact bpsub _ (by omega) (by omega) | exact bpmul _ (by omega) | exact bpsca _ (by omega) | exact Nat.le_trans (bpmul 1000 (by omega)) (by omega)) _ _ _ hp hq).mono ?_
      rintro e w22 ⟨v73, rfl, g, ht73⟩
      replace g := Gn.of g
      replace hg := hg.trans g
      replace hp := isSl.gn hp g
      replace hq := isSl.gn hq g
      replace hr := isSl.gn hr g
      replace hs := isSl.gn hs g
      replace ht42 := isSl.gn ht42 g
      replace ht45 := isSl.gn ht45 g
      replace ht51 := isSl.gn ht51 g
      replace ht54 := isSl.gn ht54 g
      replace ht60 := isSl.gn ht60 g
      replace ht62 := isSl.gn ht62 g
      replace ht66 := isSl.gn ht66 g
      replace ht67 := isSl.gn ht67 g
      clear g
      go_wp2_with fail
      skip
      refine (k_pmul (by first | omega | exact bpadd _ (by omega) (by omega) | exact bpsub _ (by omega) (by omega) | exact bpmul _ (by omega) | exact bpsca _ (by omega) | exact Nat.le_trans (bpmul 1000 (by omega)) (by omega)) (by first | omega | exact bpadd _ (by omega) (by omega) | exact bpsub _ (by omega) (by omega) | exact bpmul _ (by omega) | exact bpsca _ (by omega) | exact Nat.le_trans (bpmul 1000 (by omega)) (by omega)) _ _ _ ht73 hr).mono ?_
      rintro e w23 ⟨v75, rfl, g, ht75⟩
      replace g := Gn.of g
      replace hg := hg.trans g
      replace hp := isSl.gn hp g
      replace hq := isSl.gn hq g
      replace hr := isSl.gn hr g
      replace hs := isSl.gn hs g
      replace ht42 := isSl.gn ht42 g
      replace ht45 := isSl.gn ht45 g
      replace ht51 := isSl.gn ht51 g
      replace ht54 := isSl.gn ht54 g
      replace ht60 := isSl.gn ht60 g
      replace ht62 := isSl.gn ht62 g
      replace ht66 := isSl.gn ht66 g
      replace ht67 := isSl.gn ht67 g
      replace ht73 := isSl.gn ht73 g
      clear g
      go_wp2_with fail
      skip
      refine (k_pmul (by first | omega | exact bpadd _ (by omega) (by omega) | exact bpsub _ (by omega) (by omega) | exact bpmul _ (by omega) | exact bpsca _ (by omega) | exact Nat.le_trans (bpmul 1000 (by omega)) (by omega)) (by first | omega | exact bpadd _ (by omega) (by omega) | exact bpsub _ (by omega) (by omega) | exact bpmul _ (by omega) | exact bpsca _ (by omega) | exact Nat.le_trans (bpmul 1000 (by omega)) (by omega)) _ _ _ hq hr).mono ?_
      rintro e w24 ⟨v79, rfl, g, ht79⟩
      replace g := Gn.of g
      replace hg := hg.trans g
      replace hp := isSl.gn hp g
      replace hq := isSl.gn hq g
      replace hr := isSl.gn hr g
      replace hs := isSl.gn hs g
      replace ht42 := isSl.gn ht42 g
      replace ht45 := isSl.gn ht45 g
      replace ht51 := isSl.gn ht51 g
      replace ht54 := isSl.gn ht54 g
      replace ht60 := isSl.gn ht60 g
      replace ht62 := isSl.gn ht62 g
      replace ht66 := isSl.gn ht66 g
      replace ht67 := isSl.gn ht67 g
      replace ht73 := isSl.gn ht73 g
      replace ht75 := isSl.gn ht75 g
      clear g
      go_wp2_with fail
      skip
      refine (k_pmul (by first | omega | exact bpadd _ (by omega) (by omega) | exact bpsub _ (by omega) (by omega) | exact bpmul _ (by omega) | exact bpsca _ (by omega) | exact Nat.le_trans (bpmul 1000 (by omega)) (by omega)) (by first | omega | exact bpadd _ (by omega) (by omega) | exact bpsub _ (by omega) (by omega) | exact bpmul _ (by omega) | exact bpsca _ (by omega) | exact Nat.le_trans (bpmul 1000 (by omega)) (by omega)) _ _ _ hp ht79).mono ?_
      rintro e w25 ⟨v80, rfl, g, ht80⟩
      replace g := Gn.of g
      replace hg := hg.trans g
      replace hp := isSl.gn hp g
      replace hq := isSl.gn hq g
      replace hr := isSl.gn hr g
      replace hs := isSl.gn hs g
      replace ht42 := isSl.gn ht42 g
      replace ht45 := isSl.gn ht45 g
      replace ht51 := isSl.gn ht51 g
      replace ht54 := isSl.gn ht54 g
      replace ht60 := isSl.gn ht60 g
      replace ht62 := isSl.gn ht62 g
      replace ht66 := isSl.gn ht66 g
      replace ht67 := isSl.gn ht67 g
      replace ht73 := isSl.gn ht73 g
      replace ht75 := isSl.gn ht75 g
      replace ht79 := isSl.gn ht79 g
      clear g
      go_wp2_with fail
      skip
      refine (k_same (decide_eq_true (pl4 p q r)) _ _ _ ht75 ht80).mono ?_
      rintro e w26 ⟨_, rfl, g, rfl⟩
      replace g := Gn.of g
      replace hg := hg.trans g
      replace hp := isSl.gn hp g
      replace hq := isSl.gn hq g
      replace hr := isSl.gn hr g
      replace hs := isSl.gn hs g
      replace ht42 := isSl.gn ht42 g
      replace ht45 := isSl.gn ht45 g
      replace ht51 := isSl.gn ht51 g
      replace ht54 := isSl.gn ht54 g
      replace ht60 := isSl.gn ht60 g
      replace ht62 := isSl.gn ht62 g
      replace ht66 := isSl.gn ht66 g
      replace ht67 := isSl.gn ht67 g
      replace ht73 := isSl.gn ht73 g
      replace ht75 := isSl.gn ht75 g
      replace ht79 := isSl.gn ht79 g
      replace ht80 := isSl.gn ht80 g
      clear g
      go_wp2_with fail
      skip
      refine (k_padd (by first | omega | exact bpadd _ (by omega) (by omega) | exact bpsub _ (by omega) (by omega) | exact bpmul _ (by omega) | exact bpsca _ (by omega) | exact Nat.le_trans (bpmul 1000 (by omega)) (by omega)) (by first | omega | exact bpadd _ (by omega) (by omega) | exact bpsub _ (by omega) (by omega) | exact bpmul _ (by omega) | exact bpsca _ (by omega) | exact Nat.le_trans (bpmul 1000 (by omega)) (by omega)) _ _ _ hq hr).mono ?_
      rintro e w27 ⟨v87, rfl, g, ht87⟩
      replace g := Gn.of g
      replace hg := hg.trans g
      replace hp := isSl.gn hp g
      replace hq := isSl.gn hq g
      replace hr := isSl.gn hr g
      replace hs := isSl.gn hs g
      replace ht42 := isSl.gn ht42 g
      replace ht45 := isSl.gn ht45 g
      replace ht51 := isSl.gn ht51 g
      replace ht54 := isSl.gn ht54 g
      replace ht60 := isSl.gn ht60 g
      replace ht62 := isSl.gn ht62 g
      replace ht66 := isSl.gn ht66 g
      replace ht67 := isSl.gn ht67 g
      replace ht73 := isSl.gn ht73 g
      replace ht75 := isSl.gn ht75 g
      replace ht79 := isSl.gn ht79 g
      replace ht80 := isSl.gn ht80 g
      clear g
      go_wp2_with fail
      skip
      refine (k_pmul (by first | omega | exact bpadd _ (by omega) (by omega) | exact bpsub _ (by omega) (by omega) | exact bpmul _ (by omega) | exact bpsca _ (by omega) | exact Nat.le_trans (bpmul 1000 (by omega)) (by omega)) (by first | omega | exact bpadd _ (by omega) (by omega) | exact bpsub _ (by omega) (by omega) | exact bpmul _ (by omega) | exact bpsca _ (by omega) | exact Nat.le_trans (bpmul 1000 (by omega)) (by omega)) _ _ _ hp ht87).mono ?_
      rintro e w28 ⟨v88, rfl, g, ht88⟩
      replace g := Gn.of g
      replace hg := hg.trans g
      replace hp := isSl.gn hp g
      replace hq := isSl.gn hq g
      replace hr := isSl.gn hr g
      replace hs := isSl.gn hs g
      replace ht42 := isSl.gn ht42 g
      replace ht45 := isSl.gn ht45 g
      replace ht51 := isSl.gn ht51 g
      replace ht54 := isSl.gn ht54 g
      replace ht60 := isSl.gn ht60 g
      replace ht62 := isSl.gn ht62 g
      replace ht66 := isSl.gn ht66 g
      replace ht67 := isSl.gn ht67 g
      replace ht73 := isSl.gn ht73 g
      replace ht75 := isSl.gn ht75 g
      replace ht79 := isSl.gn ht79 g
      replace ht80 := isSl.gn ht80 g
      replace ht87 := isSl.gn ht87 g
      clear g
      go_wp2_with fail
      skip
      refine (k_pmul (by first | omega | exact bpadd _ (by omega) (by omega) | exact bpsub _ (by omega) (by omega) | exact bpmul _ (by omega) | exact bpsca _ (by omega) | exact Nat.le_trans (bpmul 1000 (by omega)) (by omega)) (by first | omega | exact bpadd _ (by omega) (by omega) | exact bpsub _ (by omega) (by omega) | exact bpmul _ (by omega) | exact bpsca _ (by omega) | exact Nat.le_trans (bpmul 1000 (by omega)) (by omega)) _ _ _ hp hq).mono ?_
      rintro e w29 ⟨v91, rfl, g, ht91⟩
      replace g := Gn.of g
      replace hg := hg.trans g
      replace hp := isSl.gn hp g
      replace hq := isSl.gn hq g
      replace hr := isSl.gn hr g
      replace hs := isSl.gn hs g
      replace ht42 := isSl.gn ht42 g
      replace ht45 := isSl.gn ht45 g
      replace ht51 := isSl.gn ht51 g
      replace ht54 := isSl.gn ht54 g
      replace ht60 := isSl.gn ht60 g
      replace ht62 := isSl.gn ht62 g
      replace ht66 := isSl.gn ht66 g
      replace ht67 := isSl.gn ht67 g
      replace ht73 := isSl.gn ht73 g
      replace ht75 := isSl.gn ht75 g
      replace ht79 := isSl.gn ht79 g
      replace ht80 := isSl.gn ht80 g
      replace ht87 := isSl.gn ht87 g
      replace ht88 := isSl.gn ht88 g
      clear g
      go_wp2_with fail
      skip
      refine (k_pmul (by first | omega | exact bpadd _ (by omega) (by omega) | exact bpsub _ (by omega) (by omega) | exact bpmul _ (by omega) | exact bpsca _ (by omega) | exact Nat.le_trans (bpmul 1000 (by omega)) (by omega)) (by first | omega | exact bpadd _ (by omega) (by omega) | exact bpsub _ (by omega) (by omega) | exact bpmul _ (by omega) | exact bpsca _ (by omega) | exact Nat.le_trans (bpmul 1000 (by omega)) (by omega)) _ _ _ hp hr).mono ?_
      rintro e w30 ⟨v94, rfl, g, ht94⟩
      replace g := Gn.of g
      replace hg := hg.trans g
      replace hp := isSl.gn hp g
      replace hq := isSl.gn hq g
      replace hr := isSl.gn hr g
      replace hs := isSl.gn hs g
      replace ht42 := isSl.gn ht42 g
      replace ht45 := isSl.gn ht45 g
      replace ht51 := isSl.gn ht51 g
      replace ht54 := isSl.gn ht54 g
      replace ht60 := isSl.gn ht60 g
      replace ht62 := isSl.gn ht62 g
      replace ht66 := isSl.gn ht66 g
      replace ht67 := isSl.gn ht67 g
      replace ht73 := isSl.gn ht73 g
      replace ht75 := isSl.gn ht75 g
      replace ht79 := isSl.gn ht79 g
      replace ht80 := isSl.gn ht80 g
      replace ht87 := isSl.gn ht87 g
      replace ht88 := isSl.gn ht88 g
      replace ht91 := isSl.gn ht91 g
      clear g
      go_wp2_with fail
      skip
      refine (k_padd (by first | omega | exact bpadd _ (by omega) (by omega) | exact bpsub _ (by omega) (by omega) | exact bpmul _ (by omega) | exact bpsca _ (by omega) | exact Nat.le_trans (bpmul 1000 (by omega)) (by omega)) (by first | omega | exact bpadd _ (by omega) (by omega) | exact bpsub _ (by omega) (by omega) | exact bpmul _ (by omega) | exact bpsca _ (by omega) | exact Nat.le_trans (bpmul 1000 (by omega)) (by omega)) _ _ _ ht91 ht94).mono ?_
      rintro e w31 ⟨v95, rfl, g, ht95⟩
      replace g := Gn.of g
      replace hg := hg.trans g
      replace hp := isSl.gn hp g
      replace hq := isSl.gn hq g
      replace hr := isSl.gn hr g
      replace hs := isSl.gn hs g
      replace ht42 := isSl.gn ht42 g
      replace ht45 := isSl.gn ht45 g
      replace ht51 := isSl.gn ht51 g
      replace ht54 := isSl.gn ht54 g
      replace ht60 := isSl.gn ht60 g
      replace ht62 := isSl.gn ht62 g
      replace ht66 := isSl.gn ht66 g
      replace ht67 := isSl.gn ht67 g
      replace ht73 := isSl.gn ht73 g
      replace ht75 := isSl.gn ht75 g
      replace ht79 := isSl.gn ht79 g
      replace ht80 := isSl.gn ht80 g
      replace ht87 := isSl.gn ht87 g
      replace ht88 := isSl.gn ht88 g
      replace ht91 := isSl.gn ht91 g
      replace ht94 := isSl.gn ht94 g
      clear g
      go_wp2_with fail
      skip
      refine (k_same (decide_eq_true (pl5 p q r)) _ _ _ ht88 ht95).mono ?_
      rintro e w32 ⟨_, rfl, g, rfl⟩
      replace g := Gn.of g
      replace hg := hg.trans g
      replace hp := isSl.gn hp g
      replace hq := isSl.gn hq g
      replace hr := isSl.gn hr g
      replace hs := isSl.gn hs g
      replace ht42 := isSl.gn ht42 g
      replace ht45 := isSl.gn ht45 g
      replace ht51 := isSl.gn ht51 g
      replace ht54 := isSl.gn ht54 g
      replace ht60 := isSl.gn ht60 g
      replace ht62 := isSl.gn ht62 g
      replace ht66 := isSl.gn ht66 g
      replace ht67 := isSl.gn ht67 g
      replace ht73 := isSl.gn ht73 g
      replace ht75 := isSl.gn ht75 g
      replace ht79 := isSl.gn ht79 g
      replace ht80 := isSl.gn ht80 g
      replace ht87 := isSl.gn ht87 g
      replace ht88 := isSl.gn ht88 g
      replace ht91 := isSl.gn ht91 g
      replace ht94 := isSl.gn ht94 g
      replace ht95 := isSl.gn ht95 g
      clear g
      go_wp2_with fail
      skip
      refine (k_psub (by first | omega | exact bpadd _ (by omega) (by omega) | exact bpsub _ (by omega) (by omega) | exact bpmul _ (by omega) | exact bpsca _ (by omega) | exact Nat.le_trans (bpmul 1000 (by omega)) (by omega)) (by first | omega | exact bpadd _ (by omega) (by omega) | exact bpsub _ (by omega) (by omega) | exact bpmul _ (by omega) | exact bpsca _ (by omega) | exact Nat.le_trans (bpmul 1000 (by omega)) (by omega)) _ _ _ hp hq).mono ?_
      rintro e w33 ⟨v101, rfl, g, ht101⟩
      replace g := Gn.of g
      replace hg := hg.trans g
      replace hp := isSl.gn hp g
      replace hq := isSl.gn hq g
      replace hr := isSl.gn hr g
      replace hs := isSl.gn hs g
      replace ht42 := isSl.gn ht42 g
      replace ht45 := isSl.gn ht45 g
      replace ht51 := isSl.gn ht51 g
      replace ht54 := isSl.gn ht54 g
      replace ht60 := isSl.gn ht60 g
      replace ht62 := isSl.gn ht62 g
      replace ht66 := isSl.gn ht66 g
      replace ht67 := isSl.gn ht67 g
      replace ht73 := isSl.gn ht73 g
      replace ht75 := isSl.gn ht75 g
      replace ht79 := isSl.gn ht79 g
      replace ht80 := isSl.gn ht80 g
      replace ht87 := isSl.gn ht87 g
      replace ht88 := isSl.gn ht88 g
      replace ht91 := isSl.gn ht91 g
      replace ht94 := isSl.gn ht94 g
      replace ht95 := isSl.gn ht95 g
      clear g
      go_wp2_with fail
      skip
      refine (k_padd (by first | omega | exact bpadd _ (by omega) (by omega) | exact bpsub _ (by omega) (by omega) | exact bpmul _ (by omega) | exact bpsca _ (by omega) | exact Nat.le_trans (bpmul 1000 (by omega)) (by omega)) (by first | omega | exact bpadd _ (by omega) (by omega) | exact bpsub _ (by omega) (by omega) | exact bpmul _ (by omega) | exact bpsca _ (by omega) | exact Nat.le_trans (bpmul 1000 (by omega)) (by omega)) _ _ _ ht101 hq).mono ?_
      rintro e w34 ⟨v103, rfl, g, ht103⟩
      replace g := Gn.of g
      replace hg := hg.trans g
      replace hp := isSl.gn hp g
      replace hq := isSl.gn hq g
      replace hr := isSl.gn hr g
      replace hs := isSl.gn hs g
      replace ht42 := isSl.gn ht42 g
      replace ht45 := isSl.gn ht45 g
      replace ht51 := isSl.gn ht51 g
      replace ht54 := isSl.gn ht54 g
      replace ht60 := isSl.gn ht60 g
      replace ht62 := isSl.gn ht62 g
      replace ht66 := isSl.gn ht66 g
      replace ht67 := isSl.gn ht67 g
      replace ht73 := isSl.gn ht73 g
      replace ht75 := isSl.gn ht75 g
      replace ht79 := isSl.gn ht79 g
      replace ht80 := isSl.gn ht80 g
      replace ht87 := isSl.gn ht87 g
      replace ht88 := isSl.gn ht88 g
      replace ht91 := isSl.gn ht91 g
      replace ht94 := isSl.gn ht94 g
      replace ht95 := isSl.gn ht95 g
      replace ht101 := isSl.gn ht101 g
      clear g
      go_wp2_with fail
      skip
      refine (k_ptrim (by first | omega | exact bpadd _ (by omega) (by omega) | exact bpsub _ (by omega) (by omega) | exact bpmul _ (by omega) | exact bpsca _ (by omega) | exact Nat.le_trans (bpmul 1000 (by omega)) (by omega)) _ _ hp).mono ?_
      rintro e w35 ⟨v105, rfl, g, ht105⟩
      replace g := Gn.of g
      replace hg := hg.trans g
      replace hp := isSl.gn hp g
      replace hq := isSl.gn hq g
      replace hr := isSl.gn hr g
      replace hs := isSl.gn hs g
      replace ht42 := isSl.gn ht42 g
      replace ht45 := isSl.gn ht45 g
      replace ht51 := isSl.gn ht51 g
      replace ht54 := isSl.gn ht54 g
      replace ht60 := isSl.gn ht60 g
      replace ht62 := isSl.gn ht62 g
      replace ht66 := isSl.gn ht66 g
      replace ht67 := isSl.gn ht67 g
      replace ht73 := isSl.gn ht73 g
      replace ht75 := isSl.gn ht75 g
      replace ht79 := isSl.gn ht79 g
      replace ht80 := isSl.gn ht80 g
      replace ht87 := isSl.gn ht87 g
      replace ht88 := isSl.gn ht88 g
      replace ht91 := isSl.gn ht91 g
      replace ht94 := isSl.gn ht94 g
      replace ht95 := isSl.gn ht95 g
      replace ht101 := isSl.gn ht101 g
      replace ht103 := isSl.gn ht103 g
      clear g
      go_wp2_with fail
      skip
      refine (k_same (decide_eq_true (pl6 p q)) _ _ _ ht103 ht105).mono ?_
      rintro e w36 ⟨_, rfl, g, rfl⟩
      replace g := Gn.of g
      replace hg := hg.trans g
      replace hp := isSl.gn hp g
      replace hq := isSl.gn hq g
      replace hr := isSl.gn hr g
      replace hs := isSl.gn hs g
      replace ht42 := isSl.gn ht42 g
      replace ht45 := isSl.gn ht45 g
      replace ht51 := isSl.gn ht51 g
      replace ht54 := isSl.gn ht54 g
      replace ht60 := isSl.gn ht60 g
      replace ht62 := isSl.gn ht62 g
      replace ht66 := isSl.gn ht66 g
      replace ht67 := isSl.gn ht67 g
      replace ht73 := isSl.gn ht73 g
      replace ht75 := isSl.gn ht75 g
      replace ht79 := isSl.gn ht79 g
      replace ht80 := isSl.gn ht80 g
      replace ht87 := isSl.gn ht87 g
      replace ht88 := isSl.gn ht88 g
      replace ht91 := isSl.gn ht91 g
      replace ht94 := isSl.gn ht94 g
      replace ht95 := isSl.gn ht95 g
      replace ht101 := isSl.gn ht101 g
      replace ht103 := isSl.gn ht103 g
      replace ht105 := isSl.gn ht105 g
      clear g
      go_wp2_with fail
      skip
      go_ret
      exact ⟨rfl, hg⟩

set_option linter.unusedVariables false in
set_option maxRecDepth 100000 in
set_option maxHeartbeats 1000000 in
theorem lifted (os : Os) (started : os.Started) (H : Type) (enc : TypeId × Value → H) :
    ReturnsInHanded {} Try.checked os 10 .any (Rows.polyRingSpec.pre6 enc Try.prog Try.f10 Rows.polyRingRow.domain false) (Rows.polyRingSpec.post enc Try.prog Try.f10 false true false false) := by
  refine returnsInHanded_of_change (C := Try.checked) own started (by kernel_rfl) Try.func10
    (ChangeSpec.witness6 (enc := enc) (C := Try.checked) false ⟨#[], #[.slice none 0 0, .slice none 0 0, .slice none 0 0], []⟩ 8 (by kernel_rfl) (by kernel_rfl) (by kernel_rfl) (by kernel_rfl)) ?_
  intro W base args ds gs before hval0 hW _ _
  have hval : ∀ (j : Nat) t v, Try.f10.params[j]? = some t → args[j]? = some v → Value.okWide Try.prog W .any base t v := hval0
  have hW' : DataW.Whole enc Try.prog Try.f10.params.toList Rows.polyRingSpec.vars false W args.toList ds gs before := hW
  obtain ⟨p, q, hA0, hV, rfl, hfz, hnd⟩ := hW
  have hA : DataW.TrodAll enc Try.prog W 0 (fun _ => true) true Try.f10.params.toList args.toList ds p := hA0
  rw [Try.params10] at hA hval
  obtain ⟨v0, vs0, d0, ds0, p0, q0, hargs, rfl, rfl, h0, r0⟩ := trodAll_cons hA
  obtain ⟨v1, vs1, d1, ds1, p1, q1, rfl, rfl, rfl, h1, r1⟩ := trodAll_cons r0
  obtain ⟨v2, vs2, d2, ds2, p2, q2, rfl, rfl, rfl, h2, r2⟩ := trodAll_cons r1
  obtain ⟨rfl, rfl, rfl⟩ := trodAll_nil r2
  obtain rfl : args = #[v0, v1, v2] := by cases args; simp_all
  obtain ⟨rfl, rfl⟩ := trodVars_none hV
  obtain ⟨a0, len0, cap0, rfl⟩ := okWide_slice Try.underlying22 (hval 0 22 v0 rfl rfl)
  obtain ⟨x0, hz0⟩ := openExts h0
  obtain ⟨a1, len1, cap1, rfl⟩ := okWide_slice Try.underlying22 (hval 1 22 v1 rfl rfl)
  obtain ⟨x1, hz1⟩ := openExts h1
  obtain ⟨a2, len2, cap2, rfl⟩ := okWide_slice Try.underlying22 (hval 2 22 v2 rfl rfl)
  obtain ⟨x2, hz2⟩ := openExts h2
  refine (walk W a0 len0 cap0 x0 a1 len1 cap1 x1 a2 len2 cap2 x2 hz0 hz1 hz2).mono fun e W' ⟨he, bel⟩ => ?_
  subst he
  exact ⟨_, rfl, law_post laidOut hW' rfl (by kernel_rfl) rfl Try.underlying4 rfl bel⟩

theorem proved : Rows.PolyRingSaid :=
  OpenClaim.holds_of_wide 10 Try.f10 rfl rfl rfl rfl rfl rfl rfl ⟨rfl, rfl, rfl, rfl, rfl⟩ rfl rfl rfl rfl rfl (by kernel_rfl) Try.func10 (by kernel_rfl)
    (of_decide_eq_true (by kernel_rfl)) (by unfold Func.isWrapper; first | (rw [if_pos (by decide +kernel)]; kernel_rfl) | (rw [if_neg (by decide +kernel)]; exact ⟨rfl, rfl⟩))
    (fun os started H enc _ => lifted os started H enc)
end Go.Proofs.Ytjchccpicddpoaa.lawPolyRing
