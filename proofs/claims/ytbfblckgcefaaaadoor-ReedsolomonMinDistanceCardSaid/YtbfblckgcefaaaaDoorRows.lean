/-
  NARROWER THAN 'FOR EVERY INPUT', by the rows' own cells (each row's printed sentence says how): ReedsolomonLinearity: laid · ReedsolomonMinDistance: laid · ReedsolomonDecodes: laid · ReedsolomonDecodesNearest: laid · ReedsolomonRecognizes: laid · ReedsolomonSymbols: laid.
  DERIVED. THE GIVEN ROWS OF THIS SEAT. 6 by the template 'for every input the law returns true; each argument reads behind the call as it read before'; 0 by the template 'total and deterministic' (their statements: YtbfblckgcefaaaaDoorTotals.lean).
  GIVEN WITH THE SEED: the statements are not yours to turn. If you find one false, say at which input.
  Laid BY PROGRAM, IN A SANDBOX (cutbox-rows.mjs): the forced cells as the released guide's own fill.sh prints them over the translation a796129ecc9fa723… (all of the seat's roots in one cut). By AI agents, Wed Nov 11 2026. No macro, syntax, notation, axiom, sorry.
-/
import Derived.Test.YtbfblckgcefaaaaDoorChecked
import GoSem.Claim
import GoSem.ClaimJoined
import GoSem.ClaimMapViews
import Derived.JoinedTies
import Derived.KernelRfl
namespace Go.Proofs.YtbfblckgcefaaaaDoor
/- THE CELL 'sum', in the pinned program and in every row, IS THE sha256 OF THE DUMP (.gsa) THAT YtbfblckgcefaaaaDoorProg.lean LOADS. Nothing in Lean hashes anything: it is a label: what it is worth is what the hold of that sum in a sandbox is worth. -/
noncomputable def Tryd.pinned : Pinned := { name := "ytbfblckgcefaaaadoor", sum := "a796129ecc9fa7232c56302205ada00bccd322395c12e354ba7d8317e4cbf910", checked := Tryd.checked }
namespace Rows
def none {H : Type} : Left H := { results := [], args := [] }

/- WHAT THE LISTED PACKAGE-LEVEL VARIABLES READ AS WHEN THE CALL BEGINS. Each datum BY PROGRAM (the guide's laid-datum.mjs) off the statement by which the dump's own 'gosem.cut.vars' lays the variable. In a bare row this is a premise. The card (YtbfblckgcefaaaaDoorCards.lean) ties it to the program's text. -/
def laid_math_bits_deBruijn32tab {H : Type} : DataW H := .agg [.lit (.int .u8 0), .lit (.int .u8 1), .lit (.int .u8 28), .lit (.int .u8 2), .lit (.int .u8 29), .lit (.int .u8 14), .lit (.int .u8 24), .lit (.int .u8 3), .lit (.int .u8 30), .lit (.int .u8 22), .lit (.int .u8 20), .lit (.int .u8 15), .lit (.int .u8 25), .lit (.int .u8 17), .lit (.int .u8 4), .lit (.int .u8 8), .lit (.int .u8 31), .lit (.int .u8 27), .lit (.int .u8 13), .lit (.int .u8 23), .lit (.int .u8 21), .lit (.int .u8 19), .lit (.int .u8 16), .lit (.int .u8 7), .lit (.int .u8 26), .lit (.int .u8 12), .lit (.int .u8 18), .lit (.int .u8 6), .lit (.int .u8 11), .lit (.int .u8 5), .lit (.int .u8 10), .lit (.int .u8 9)]
def laid_math_bits_deBruijn64tab {H : Type} : DataW H := .agg [.lit (.int .u8 0), .lit (.int .u8 1), .lit (.int .u8 56), .lit (.int .u8 2), .lit (.int .u8 57), .lit (.int .u8 49), .lit (.int .u8 28), .lit (.int .u8 3), .lit (.int .u8 61), .lit (.int .u8 58), .lit (.int .u8 42), .lit (.int .u8 50), .lit (.int .u8 38), .lit (.int .u8 29), .lit (.int .u8 17), .lit (.int .u8 4), .lit (.int .u8 62), .lit (.int .u8 47), .lit (.int .u8 59), .lit (.int .u8 36), .lit (.int .u8 45), .lit (.int .u8 43), .lit (.int .u8 51), .lit (.int .u8 22), .lit (.int .u8 53), .lit (.int .u8 39), .lit (.int .u8 33), .lit (.int .u8 30), .lit (.int .u8 24), .lit (.int .u8 18), .lit (.int .u8 12), .lit (.int .u8 5), .lit (.int .u8 63), .lit (.int .u8 55), .lit (.int .u8 48), .lit (.int .u8 27), .lit (.int .u8 60), .lit (.int .u8 41), .lit (.int .u8 37), .lit (.int .u8 16), .lit (.int .u8 46), .lit (.int .u8 35), .lit (.int .u8 44), .lit (.int .u8 21), .lit (.int .u8 52), .lit (.int .u8 32), .lit (.int .u8 23), .lit (.int .u8 11), .lit (.int .u8 54), .lit (.int .u8 26), .lit (.int .u8 40), .lit (.int .u8 15), .lit (.int .u8 34), .lit (.int .u8 20), .lit (.int .u8 31), .lit (.int .u8 10), .lit (.int .u8 25), .lit (.int .u8 14), .lit (.int .u8 19), .lit (.int .u8 9), .lit (.int .u8 13), .lit (.int .u8 8), .lit (.int .u8 7), .lit (.int .u8 6)]

/-- 'attestorlaw09.ReedsolomonLinearity': WHATEVER THE INPUT: true; the input reads as it did. -/
def reedsolomonLinearitySpec : ChangeSpec := { name := "reedsolomonLinearity", fn := fun _ => fun
  | [d1, d2, d3, d4] => { results := [.lit (.bool true)], args := [d1, d2, d3, d4] }
  | _ => none }
def reedsolomonLinearityRow : OpenClaim := { program := "ytbfblckgcefaaaadoor", sum := "a796129ecc9fa7232c56302205ada00bccd322395c12e354ba7d8317e4cbf910", func := "attestor/attestorlaw09.ReedsolomonLinearity", spec := "reedsolomonLinearity", inPlace := ["math/bits.Sub64", "math/bits.Add64"], unfollowed := true, recurses := true, named := ["math/bits.deBruijn32tab", "math/bits.deBruijn64tab"], apart := false, laid := [("math/bits.deBruijn32tab", laid_math_bits_deBruijn32tab), ("math/bits.deBruijn64tab", laid_math_bits_deBruijn64tab)] }
def ReedsolomonLinearitySaid : Prop := reedsolomonLinearityRow.holds Tryd.pinned (OpenSpec.ofChange reedsolomonLinearitySpec)

/-- ITS FALSE NEIGHBOUR: 'it returns false'. Refute it at one input. -/
def reedsolomonLinearityWrong : ChangeSpec := { name := "reedsolomonLinearity", fn := fun _ => fun
  | [d1, d2, d3, d4] => { results := [.lit (.bool false)], args := [d1, d2, d3, d4] }
  | _ => none }
def ReedsolomonLinearityWrongFalsely : Prop := reedsolomonLinearityRow.holds Tryd.pinned (OpenSpec.ofChange reedsolomonLinearityWrong)

/-- 'attestorlaw09.ReedsolomonMinDistance': WHATEVER THE INPUT: true; the input reads as it did. -/
def reedsolomonMinDistanceSpec : ChangeSpec := { name := "reedsolomonMinDistance", fn := fun _ => fun
  | [d1, d2, d3, d4] => { results := [.lit (.bool true)], args := [d1, d2, d3, d4] }
  | _ => none }
def reedsolomonMinDistanceRow : OpenClaim := { program := "ytbfblckgcefaaaadoor", sum := "a796129ecc9fa7232c56302205ada00bccd322395c12e354ba7d8317e4cbf910", func := "attestor/attestorlaw09.ReedsolomonMinDistance", spec := "reedsolomonMinDistance", inPlace := ["math/bits.Sub64", "math/bits.Add64"], unfollowed := true, recurses := true, named := ["math/bits.deBruijn32tab", "math/bits.deBruijn64tab"], apart := false, laid := [("math/bits.deBruijn32tab", laid_math_bits_deBruijn32tab), ("math/bits.deBruijn64tab", laid_math_bits_deBruijn64tab)] }
def ReedsolomonMinDistanceSaid : Prop := reedsolomonMinDistanceRow.holds Tryd.pinned (OpenSpec.ofChange reedsolomonMinDistanceSpec)

/-- ITS FALSE NEIGHBOUR: 'it returns false'. Refute it at one input. -/
def reedsolomonMinDistanceWrong : ChangeSpec := { name := "reedsolomonMinDistance", fn := fun _ => fun
  | [d1, d2, d3, d4] => { results := [.lit (.bool false)], args := [d1, d2, d3, d4] }
  | _ => none }
def ReedsolomonMinDistanceWrongFalsely : Prop := reedsolomonMinDistanceRow.holds Tryd.pinned (OpenSpec.ofChange reedsolomonMinDistanceWrong)

/-- 'attestorlaw09.ReedsolomonDecodes': WHATEVER THE INPUT: true; the input reads as it did. -/
def reedsolomonDecodesSpec : ChangeSpec := { name := "reedsolomonDecodes", fn := fun _ => fun
  | [d1, d2, d3] => { results := [.lit (.bool true)], args := [d1, d2, d3] }
  | _ => none }
def reedsolomonDecodesRow : OpenClaim := { program := "ytbfblckgcefaaaadoor", sum := "a796129ecc9fa7232c56302205ada00bccd322395c12e354ba7d8317e4cbf910", func := "attestor/attestorlaw09.ReedsolomonDecodes", spec := "reedsolomonDecodes", inPlace := ["math/bits.Sub64", "math/bits.Add64"], unfollowed := true, recurses := true, named := ["math/bits.deBruijn32tab", "math/bits.deBruijn64tab"], apart := false, laid := [("math/bits.deBruijn32tab", laid_math_bits_deBruijn32tab), ("math/bits.deBruijn64tab", laid_math_bits_deBruijn64tab)] }
def ReedsolomonDecodesSaid : Prop := reedsolomonDecodesRow.holds Tryd.pinned (OpenSpec.ofChange reedsolomonDecodesSpec)

/-- ITS FALSE NEIGHBOUR: 'it returns false'. Refute it at one input. -/
def reedsolomonDecodesWrong : ChangeSpec := { name := "reedsolomonDecodes", fn := fun _ => fun
  | [d1, d2, d3] => { results := [.lit (.bool false)], args := [d1, d2, d3] }
  | _ => none }
def ReedsolomonDecodesWrongFalsely : Prop := reedsolomonDecodesRow.holds Tryd.pinned (OpenSpec.ofChange reedsolomonDecodesWrong)

/-- 'attestorlaw09.ReedsolomonDecodesNearest': WHATEVER THE INPUT: true; the input reads as it did. -/
def reedsolomonDecodesNearestSpec : ChangeSpec := { name := "reedsolomonDecodesNearest", fn := fun _ => fun
  | [d1, d2, d3, d4] => { results := [.lit (.bool true)], args := [d1, d2, d3, d4] }
  | _ => none }
def reedsolomonDecodesNearestRow : OpenClaim := { program := "ytbfblckgcefaaaadoor", sum := "a796129ecc9fa7232c56302205ada00bccd322395c12e354ba7d8317e4cbf910", func := "attestor/attestorlaw09.ReedsolomonDecodesNearest", spec := "reedsolomonDecodesNearest", inPlace := ["math/bits.Sub64", "math/bits.Add64"], unfollowed := true, recurses := true, named := ["math/bits.deBruijn32tab", "math/bits.deBruijn64tab"], apart := false, laid := [("math/bits.deBruijn32tab", laid_math_bits_deBruijn32tab), ("math/bits.deBruijn64tab", laid_math_bits_deBruijn64tab)] }
def ReedsolomonDecodesNearestSaid : Prop := reedsolomonDecodesNearestRow.holds Tryd.pinned (OpenSpec.ofChange reedsolomonDecodesNearestSpec)

/-- ITS FALSE NEIGHBOUR: 'it returns false'. Refute it at one input. -/
def reedsolomonDecodesNearestWrong : ChangeSpec := { name := "reedsolomonDecodesNearest", fn := fun _ => fun
  | [d1, d2, d3, d4] => { results := [.lit (.bool false)], args := [d1, d2, d3, d4] }
  | _ => none }
def ReedsolomonDecodesNearestWrongFalsely : Prop := reedsolomonDecodesNearestRow.holds Tryd.pinned (OpenSpec.ofChange reedsolomonDecodesNearestWrong)

/-- 'attestorlaw09.ReedsolomonRecognizes': WHATEVER THE INPUT: true; the input reads as it did. -/
def reedsolomonRecognizesSpec : ChangeSpec := { name := "reedsolomonRecognizes", fn := fun _ => fun
  | [d1, d2, d3] => { results := [.lit (.bool true)], args := [d1, d2, d3] }
  | _ => none }
def reedsolomonRecognizesRow : OpenClaim := { program := "ytbfblckgcefaaaadoor", sum := "a796129ecc9fa7232c56302205ada00bccd322395c12e354ba7d8317e4cbf910", func := "attestor/attestorlaw09.ReedsolomonRecognizes", spec := "reedsolomonRecognizes", inPlace := ["math/bits.Sub64", "math/bits.Add64"], unfollowed := true, recurses := true, named := ["math/bits.deBruijn32tab", "math/bits.deBruijn64tab"], apart := false, laid := [("math/bits.deBruijn32tab", laid_math_bits_deBruijn32tab), ("math/bits.deBruijn64tab", laid_math_bits_deBruijn64tab)] }
def ReedsolomonRecognizesSaid : Prop := reedsolomonRecognizesRow.holds Tryd.pinned (OpenSpec.ofChange reedsolomonRecognizesSpec)

/-- ITS FALSE NEIGHBOUR: 'it returns false'. Refute it at one input. -/
def reedsolomonRecognizesWrong : ChangeSpec := { name := "reedsolomonRecognizes", fn := fun _ => fun
  | [d1, d2, d3] => { results := [.lit (.bool false)], args := [d1, d2, d3] }
  | _ => none }
def ReedsolomonRecognizesWrongFalsely : Prop := reedsolomonRecognizesRow.holds Tryd.pinned (OpenSpec.ofChange reedsolomonRecognizesWrong)

/-- 'attestorlaw09.ReedsolomonSymbols': WHATEVER THE INPUT: true; the input reads as it did. -/
def reedsolomonSymbolsSpec : ChangeSpec := { name := "reedsolomonSymbols", fn := fun _ => fun
  | [d1, d2, d3] => { results := [.lit (.bool true)], args := [d1, d2, d3] }
  | _ => none }
def reedsolomonSymbolsRow : OpenClaim := { program := "ytbfblckgcefaaaadoor", sum := "a796129ecc9fa7232c56302205ada00bccd322395c12e354ba7d8317e4cbf910", func := "attestor/attestorlaw09.ReedsolomonSymbols", spec := "reedsolomonSymbols", inPlace := ["math/bits.Sub64", "math/bits.Add64"], unfollowed := true, recurses := true, named := ["math/bits.deBruijn32tab", "math/bits.deBruijn64tab"], apart := false, laid := [("math/bits.deBruijn32tab", laid_math_bits_deBruijn32tab), ("math/bits.deBruijn64tab", laid_math_bits_deBruijn64tab)] }
def ReedsolomonSymbolsSaid : Prop := reedsolomonSymbolsRow.holds Tryd.pinned (OpenSpec.ofChange reedsolomonSymbolsSpec)

/-- ITS FALSE NEIGHBOUR: 'it returns false'. Refute it at one input. -/
def reedsolomonSymbolsWrong : ChangeSpec := { name := "reedsolomonSymbols", fn := fun _ => fun
  | [d1, d2, d3] => { results := [.lit (.bool false)], args := [d1, d2, d3] }
  | _ => none }
def ReedsolomonSymbolsWrongFalsely : Prop := reedsolomonSymbolsRow.holds Tryd.pinned (OpenSpec.ofChange reedsolomonSymbolsWrong)

/- THE SECOND FORM. 'bulk': how many values and letters a reading holds, each counted each time it is reached (what is shared counts as often as it is met; a slice's spare places count too). A statement '..UptoSaid' is the law's where the arguments, and the package variables that the reading takes, are together of bulk at most 1048576: NARROWER than '..Said'. Prove '..Said' where nothing that the law and all that it calls make is longer than what came in: it says more and counts as full. Else prove '..UptoSaid'. A law counts once. -/
mutual
def uptoBulk {H : Type} : DataW H → Nat
  | .lit (.string bytes) => bytes.length + 1
  | .lit _ => 1
  | .nil => 1
  | .ptr d => uptoBulk d + 1
  | .slice elems spare => uptoBulkAll elems + uptoBulkAll spare + 1
  | .agg parts => uptoBulkAll parts + 1
  | .iface _ d => uptoBulk d + 1
  | .map entries => uptoBulkEntries entries + 1
  | .held _ => 1
def uptoBulkAll {H : Type} : List (DataW H) → Nat
  | [] => 0
  | d :: r => uptoBulk d + uptoBulkAll r
def uptoBulkEntries {H : Type} : List (Lit × DataW H) → Nat
  | [] => 0
  | x :: r => uptoBulkEntry x + uptoBulkEntries r
def uptoBulkEntry {H : Type} : Lit × DataW H → Nat
  | (.string bytes, d) => bytes.length + uptoBulk d + 1
  | (_, d) => uptoBulk d + 1
 end
def uptoSmall : (H : Type) → List (DataW H) → Bool := fun _ ds => decide (uptoBulkAll ds ≤ 1048576)
def OpenSpec.upto (s : _root_.Go.ChangeSpec) : _root_.Go.OpenSpec := { _root_.Go.OpenSpec.ofChange s with cond := some uptoSmall }

/-- 'attestorlaw09.ReedsolomonLinearity', WHERE WHAT IT READS IS OF BULK AT MOST 1048576: true; the input reads as it did. -/
def reedsolomonLinearityUptoRow : OpenClaim := { program := "ytbfblckgcefaaaadoor", sum := "a796129ecc9fa7232c56302205ada00bccd322395c12e354ba7d8317e4cbf910", func := "attestor/attestorlaw09.ReedsolomonLinearity", spec := "reedsolomonLinearity", inPlace := ["math/bits.Sub64", "math/bits.Add64"], unfollowed := true, recurses := true, named := ["math/bits.deBruijn32tab", "math/bits.deBruijn64tab"], apart := false, laid := [("math/bits.deBruijn32tab", laid_math_bits_deBruijn32tab), ("math/bits.deBruijn64tab", laid_math_bits_deBruijn64tab)], narrowed := true }
def ReedsolomonLinearityUptoSaid : Prop := reedsolomonLinearityUptoRow.holds Tryd.pinned (OpenSpec.upto reedsolomonLinearitySpec)

/-- 'attestorlaw09.ReedsolomonMinDistance', WHERE WHAT IT READS IS OF BULK AT MOST 1048576: true; the input reads as it did. -/
def reedsolomonMinDistanceUptoRow : OpenClaim := { program := "ytbfblckgcefaaaadoor", sum := "a796129ecc9fa7232c56302205ada00bccd322395c12e354ba7d8317e4cbf910", func := "attestor/attestorlaw09.ReedsolomonMinDistance", spec := "reedsolomonMinDistance", inPlace := ["math/bits.Sub64", "math/bits.Add64"], unfollowed := true, recurses := true, named := ["math/bits.deBruijn32tab", "math/bits.deBruijn64tab"], apart := false, laid := [("math/bits.deBruijn32tab", laid_math_bits_deBruijn32tab), ("math/bits.deBruijn64tab", laid_math_bits_deBruijn64tab)], narrowed := true }
def ReedsolomonMinDistanceUptoSaid : Prop := reedsolomonMinDistanceUptoRow.holds Tryd.pinned (OpenSpec.upto reedsolomonMinDistanceSpec)

/-- 'attestorlaw09.ReedsolomonDecodes', WHERE WHAT IT READS IS OF BULK AT MOST 1048576: true; the input reads as it did. -/
def reedsolomonDecodesUptoRow : OpenClaim := { program := "ytbfblckgcefaaaadoor", sum := "a796129ecc9fa7232c56302205ada00bccd322395c12e354ba7d8317e4cbf910", func := "attestor/attestorlaw09.ReedsolomonDecodes", spec := "reedsolomonDecodes", inPlace := ["math/bits.Sub64", "math/bits.Add64"], unfollowed := true, recurses := true, named := ["math/bits.deBruijn32tab", "math/bits.deBruijn64tab"], apart := false, laid := [("math/bits.deBruijn32tab", laid_math_bits_deBruijn32tab), ("math/bits.deBruijn64tab", laid_math_bits_deBruijn64tab)], narrowed := true }
def ReedsolomonDecodesUptoSaid : Prop := reedsolomonDecodesUptoRow.holds Tryd.pinned (OpenSpec.upto reedsolomonDecodesSpec)

/-- 'attestorlaw09.ReedsolomonDecodesNearest', WHERE WHAT IT READS IS OF BULK AT MOST 1048576: true; the input reads as it did. -/
def reedsolomonDecodesNearestUptoRow : OpenClaim := { program := "ytbfblckgcefaaaadoor", sum := "a796129ecc9fa7232c56302205ada00bccd322395c12e354ba7d8317e4cbf910", func := "attestor/attestorlaw09.ReedsolomonDecodesNearest", spec := "reedsolomonDecodesNearest", inPlace := ["math/bits.Sub64", "math/bits.Add64"], unfollowed := true, recurses := true, named := ["math/bits.deBruijn32tab", "math/bits.deBruijn64tab"], apart := false, laid := [("math/bits.deBruijn32tab", laid_math_bits_deBruijn32tab), ("math/bits.deBruijn64tab", laid_math_bits_deBruijn64tab)], narrowed := true }
def ReedsolomonDecodesNearestUptoSaid : Prop := reedsolomonDecodesNearestUptoRow.holds Tryd.pinned (OpenSpec.upto reedsolomonDecodesNearestSpec)

/-- 'attestorlaw09.ReedsolomonRecognizes', WHERE WHAT IT READS IS OF BULK AT MOST 1048576: true; the input reads as it did. -/
def reedsolomonRecognizesUptoRow : OpenClaim := { program := "ytbfblckgcefaaaadoor", sum := "a796129ecc9fa7232c56302205ada00bccd322395c12e354ba7d8317e4cbf910", func := "attestor/attestorlaw09.ReedsolomonRecognizes", spec := "reedsolomonRecognizes", inPlace := ["math/bits.Sub64", "math/bits.Add64"], unfollowed := true, recurses := true, named := ["math/bits.deBruijn32tab", "math/bits.deBruijn64tab"], apart := false, laid := [("math/bits.deBruijn32tab", laid_math_bits_deBruijn32tab), ("math/bits.deBruijn64tab", laid_math_bits_deBruijn64tab)], narrowed := true }
def ReedsolomonRecognizesUptoSaid : Prop := reedsolomonRecognizesUptoRow.holds Tryd.pinned (OpenSpec.upto reedsolomonRecognizesSpec)

/-- 'attestorlaw09.ReedsolomonSymbols', WHERE WHAT IT READS IS OF BULK AT MOST 1048576: true; the input reads as it did. -/
def reedsolomonSymbolsUptoRow : OpenClaim := { program := "ytbfblckgcefaaaadoor", sum := "a796129ecc9fa7232c56302205ada00bccd322395c12e354ba7d8317e4cbf910", func := "attestor/attestorlaw09.ReedsolomonSymbols", spec := "reedsolomonSymbols", inPlace := ["math/bits.Sub64", "math/bits.Add64"], unfollowed := true, recurses := true, named := ["math/bits.deBruijn32tab", "math/bits.deBruijn64tab"], apart := false, laid := [("math/bits.deBruijn32tab", laid_math_bits_deBruijn32tab), ("math/bits.deBruijn64tab", laid_math_bits_deBruijn64tab)], narrowed := true }
def ReedsolomonSymbolsUptoSaid : Prop := reedsolomonSymbolsUptoRow.holds Tryd.pinned (OpenSpec.upto reedsolomonSymbolsSpec)

end Rows
end Go.Proofs.YtbfblckgcefaaaaDoor
