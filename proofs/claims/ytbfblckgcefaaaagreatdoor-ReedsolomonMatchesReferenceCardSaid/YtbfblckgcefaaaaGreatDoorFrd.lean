/- What the frames of the laws share whose rows list the tables of math/bits: the tables' cells, a start that meets the condition. -/
import Derived.Test.YtbfblckgcefaaaaGreatDoorGf
import Derived.Test.YtbfblckgcefaaaaGreatDoorGn
import Derived.Test.YtbfblckgcefaaaaGreatDoorTie
import Derived.Test.YtbfblckgcefaaaaGreatDoorCards
import Derived.LaidMore
import Derived.OpenShut
import Derived.Stop.Joined
namespace Go.Proofs.YtbfblckgcefaaaaGreatDoor
open Go.ChangeShapes Go.WideShapes Go.ChangeAt Go.WideElems Go.RowKit Att Att.CRing
def laid2 : List (String × DataW Unit) := Rows.reedsolomonDecodeMatchesReferenceRow.laid
def laidName (j : Nat) : String := ((laid2.map (·.1))[j]?).getD default
theorem g64 : Tryz.prog.globalNamed (laidName 1) = some 1 := by kernel_rfl
def arrOk (P : Program) (t : Option TypeId) : Bool := match t with
  | none => false
  | some t => match P.underlying t with
    | some (.array 64 e) => intB P .u8 e && (P.cellsOf e == 1)
    | _ => false
theorem arr64 : arrOk Tryz.prog ((Tryz.prog.globals[1]?).map (·.type)) = true := by kernel_rfl
theorem tab64 : Rows.laid_math_bits_deBruijn64tab (H := Unit) = .agg (dbTab.map fun z => .lit (.int .u8 z)) := rfl
theorem door_met (os : Os) (args : Array Value) : laidMetH Tryz.prog laid2 ((World.doorLaid Tryz.prog 400 os).forCall (fun _ _ => 0) ⟨#[], args, []⟩).memory :=
  laidMetH_of_parts3 (fuel := 8) (laidMet_of_run' 8 (by kernel_rfl) (by kernel_rfl)) (by kernel_rfl) (by kernel_rfl)
theorem tab_of_laid {W : World} (h : laidMetH Tryz.prog laid2 W) : Tab W := by
  rw [MakeChecks.laidMetH_plain _ _ _ (by kernel_rfl)] at h
  obtain ⟨ps, ⟨g0, t0, cs0, f0, p0, q0, hg0, ht0, hv0, hd0, ⟨g1, t1, cs1, f1, p1, q1, hg1, ht1, hv1, hd1, _, _⟩, _⟩, _, _⟩ := h
  obtain rfl := Option.some.inj (g64.symm.trans hg1)
  have ha := arr64
  rw [ht1] at ha
  unfold arrOk at ha
  dsimp only at ha
  split at ha
  · rename_i e hu
    simp only [Bool.and_eq_true, beq_iff_eq] at ha
    obtain ⟨ha1, ha2⟩ := ha
    replace ha1 := intB_eq ha1
    obtain ⟨xs, m1, rfl, hx1, hlen, hn3, hel⟩ := DataW.trod_array hu hd1
    rw [tab64] at hx1
    simp only [Prod.mk.injEq, DataW.agg.injEq] at hx1
    have cell : ∀ (i : Nat) (z : Int), dbTab[i]? = some z → W.cell? ⟨1, i, none⟩ = some (.int .u8 z) := by
      intro i z hz
      have hi : i < 64 := (List.getElem?_eq_some_iff.1 hz).1
      have h1 := hel i hi
      have hi2 : i < xs.length := by rw [hn3]; exact hi
      rw [List.getElem?_eq_getElem hi2, ha2] at h1
      obtain ⟨k, e1, e2, _⟩ := DataW.trod_int ha1 h1
      have e3 : (xs.map (·.1))[i]? = some (DataW.lit (.int .u8 z)) := by
        rw [← hx1.1, List.getElem?_map, hz]; rfl
      rw [List.getElem?_map, List.getElem?_eq_getElem hi2, Option.map_some, e2] at e3
      have hk : k = z := by simpa using e3
      subst hk
      have hv := World.var?_cell hg1 hv1 i
      rw [hv]
      rw [Nat.mul_one] at e1
      have e4 : (cs1.toList.drop i)[0]? = some (.int .u8 k) := by
        have := congrArg (·[0]?) e1
        simpa [List.getElem?_take] using this
      rw [List.getElem?_drop, Nat.add_zero] at e4
      simpa using e4
    refine ⟨?_, cell⟩
    have h0 := cell 0 0 rfl
    unfold World.cell? at h0
    split at h0
    · rename_i hh
      exact (Array.getElem?_eq_some_iff.1 hh).1
    · cases h0
  · cases ha
end Go.Proofs.YtbfblckgcefaaaaGreatDoor
