/- What the frame of the law of package attestortop needs: what the row's six variables hold; a start that meets the condition. -/
import Derived.Test.YtgambglgkilgkaaGreatDoorGf
import Derived.Test.YtgambglgkilgkaaGreatDoorGn
import Derived.Test.YtgambglgkilgkaaGreatDoorTk1
import Derived.Maps.OwnSet
import Derived.Test.YtgambglgkilgkaaGreatDoorTie
import Derived.Test.YtgambglgkilgkaaGreatDoorCards
import Derived.LaidMore
import Derived.OpenShut
import Derived.Stop.Joined
namespace Go.Proofs.YtgambglgkilgkaaGreatDoor
open Go.ChangeShapes Go.WideShapes Go.ChangeAt Go.WideElems Go.RowKit Att Att.CRing
def laid2 : List (String × DataW Unit) := Rows.topCodewordsAgreeRarelyRow.laid
def laidName (j : Nat) : String := ((laid2.map (·.1))[j]?).getD default
theorem gWid : Tryz.prog.globalNamed (laidName 5) = some 0 := by kernel_rfl
theorem tWid : (Tryz.prog.globals[0]?).map (·.type) = some 104 := by kernel_rfl
theorem lawInt : Maps.Keyed Tryz.prog 3 := Maps.int_keyed Tryz.underlying3
theorem zeroInt (w : World) : (zeroValue 3).run Tryz.prog w = .ok (.int .i64 0) w := by kernel_rfl
theorem g64 : Tryz.prog.globalNamed (laidName 1) = some 5 := by kernel_rfl
def arrOk (P : Program) (t : Option TypeId) : Bool := match t with
  | none => false
  | some t => match P.underlying t with
    | some (.array 64 e) => intB P .u8 e && (P.cellsOf e == 1)
    | _ => false
theorem arr64 : arrOk Tryz.prog ((Tryz.prog.globals[5]?).map (·.type)) = true := by kernel_rfl
theorem tab64 : Rows.laid_math_bits_deBruijn64tab (H := Unit) = .agg (dbTab.map fun z => .lit (.int .u8 z)) := rfl
theorem door_met (os : Os) (args : Array Value) : laidMetH Tryz.prog laid2 ((World.doorLaid Tryz.prog 400 os).forCall (fun _ _ => 0) ⟨#[], args, []⟩).memory :=
  laidMetH_of_parts3 (fuel := 8) (laidMet_of_run' 8 (by kernel_rfl) (by kernel_rfl)) (by kernel_rfl) (by kernel_rfl)
theorem tab_of_laid {W : World} (h : laidMetH Tryz.prog laid2 W) : Tab W := by
  rw [MakeChecks.laidMetH_plain _ _ _ (by kernel_rfl)] at h
  obtain ⟨ps, ⟨g0, t0, cs0, f0, p0, q0, hg0, ht0, hv0, hd0, ⟨g1, t1, cs1, f1, p1, q1, hg1, ht1, hv1, hd1, _, _⟩, _⟩, _, _⟩ := h
  obtain rfl := Option.some.inj (g64.symm.trans hg1)
  have ha := arr64
  rw [ht1] at ha
  unfold arrOk at ha
  dsimp only at ha
  split at ha
  · rename_i e hu
    simp only [Bool.and_eq_true, beq_iff_eq] at ha
    obtain ⟨ha1, ha2⟩ := ha
    replace ha1 := intB_eq ha1
    obtain ⟨xs, m1, rfl, hx1, hlen, hn3, hel⟩ := DataW.trod_array hu hd1
    rw [tab64] at hx1
    simp only [Prod.mk.injEq, DataW.agg.injEq] at hx1
    have cell : ∀ (i : Nat) (z : Int), dbTab[i]? = some z → W.cell? ⟨5, i, none⟩ = some (.int .u8 z) := by
      intro i z hz
      have hi : i < 64 := (List.getElem?_eq_some_iff.1 hz).1
      have h1 := hel i hi
      have hi2 : i < xs.length := by rw [hn3]; exact hi
      rw [List.getElem?_eq_getElem hi2, ha2] at h1
      obtain ⟨k, e1, e2, _⟩ := DataW.trod_int ha1 h1
      have e3 : (xs.map (·.1))[i]? = some (DataW.lit (.int .u8 z)) := by
        rw [← hx1.1, List.getElem?_map, hz]; rfl
      rw [List.getElem?_map, List.getElem?_eq_getElem hi2, Option.map_some, e2] at e3
      have hk : k = z := by simpa using e3
      subst hk
      have hv := World.var?_cell hg1 hv1 i
      rw [hv]
      rw [Nat.mul_one] at e1
      have e4 : (cs1.toList.drop i)[0]? = some (.int .u8 k) := by
        have := congrArg (·[0]?) e1
        simpa [List.getElem?_take] using this
      rw [List.getElem?_drop, Nat.add_zero] at e4
      simpa using e4
    refine ⟨?_, cell⟩
    have h0 := cell 0 0 rfl
    unfold World.cell? at h0
    split at h0
    · rename_i hh
      exact (Array.getElem?_eq_some_iff.1 hh).1
    · cases h0
  · cases ha
theorem wt_of_laid {W : World} (h : laidMetH Tryz.prog laid2 W) : WT W := by
  rw [MakeChecks.laidMetH_plain _ _ _ (by kernel_rfl)] at h
  obtain ⟨ps, ⟨_, _, _, _, _, _, _, _, _, _, ⟨_, _, _, _, _, _, _, _, _, _, ⟨_, _, _, _, _, _, _, _, _, _, ⟨_, _, _, _, _, _, _, _, _, _, ⟨_, _, _, _, _, _, _, _, _, _, ⟨g5, t5, cs5, f5, p5, q5, hg5, ht5, hv5, hd5, _, _⟩, _⟩, _⟩, _⟩, _⟩, _⟩, _, _⟩ := h
  obtain rfl := Option.some.inj (gWid.symm.trans hg5)
  obtain rfl := Option.some.inj (tWid.symm.trans ht5)
  rcases WideElems.open_map Tryz.underlying104 hd5 with ⟨_, hx⟩ | ⟨bm, es, clock, m, rfl, hcs, hb, _, F, hx⟩
  · simp [Rows.laid_attestor_typecheck_widths] at hx
  simp only [Prod.mk.injEq] at hx
  have hcell : W.cell? ⟨0, 0, none⟩ = some (.map (some bm)) := by
    have := World.var?_cell hg5 hv5 0
    rw [Array.eq_one_of_toList hcs] at this
    simpa using this
  refine ⟨World.block_lt_of_cell? W _ hcell, bm, hcell, fun w' g z k hz => ?_⟩
  have hown := World.ownsMap_of_fit (w := w') (R := plainElem Tryz.prog 3) (Gn.block g hb) F (fun x _ z hz => elemAt_plainElem_int Tryz.underlying3 hz)
  rw [← hx.1] at hown
  have hkey : Go.keyOf Tryz.prog 3 (.int .i64 z) = some (.int .i64 z) := Maps.keyOf_int_mk Tryz.underlying3 (by
    unfold wds at hz
    simp only [List.mem_cons, Prod.mk.injEq, List.not_mem_nil, or_false] at hz
    exact WalkArith.wf_i64 (n := z) ⟨by omega, by omega⟩)
  obtain ⟨c, hrun, hat, _⟩ := hown.lookup_int lawInt Tryz.underlying104 Tryz.underlying3 (zeroInt w') hkey
  have hck : c = k := by
    unfold wds at hz
    simp only [List.mem_cons, Prod.mk.injEq, List.not_mem_nil, or_false] at hz
    rcases hz with ⟨rfl, rfl⟩ | ⟨rfl, rfl⟩ | ⟨rfl, rfl⟩ | ⟨rfl, rfl⟩
    · have e := hat.symm.trans (show (Rows.laid_attestor_typecheck_widths (H := Unit)).atKey (.int .i64 0) (.lit (.int .i64 0)) = .lit (.int .i64 4) from by kernel_rfl)
      simpa using e
    · have e := hat.symm.trans (show (Rows.laid_attestor_typecheck_widths (H := Unit)).atKey (.int .i64 1) (.lit (.int .i64 0)) = .lit (.int .i64 8) from by kernel_rfl)
      simpa using e
    · have e := hat.symm.trans (show (Rows.laid_attestor_typecheck_widths (H := Unit)).atKey (.int .i64 2) (.lit (.int .i64 0)) = .lit (.int .i64 4) from by kernel_rfl)
      simpa using e
    · have e := hat.symm.trans (show (Rows.laid_attestor_typecheck_widths (H := Unit)).atKey (.int .i64 3) (.lit (.int .i64 0)) = .lit (.int .i64 8) from by kernel_rfl)
      simpa using e
  rw [hck] at hrun
  exact hrun
end Go.Proofs.YtgambglgkilgkaaGreatDoor
