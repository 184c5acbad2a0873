/-
  NARROWER THAN 'FOR EVERY INPUT', by the rows' own cells (each row's printed sentence says how): NttMatchesReference: laid · NttInversion: laid · NttLinearity: laid · NttRotation: laid · NttValues: laid · NttExtension: laid · NttProducts: laid · NttMulAlgebra: laid · NttErrors: laid.
  DERIVED. THE GIVEN ROWS OF THIS SEAT. 9 by the template 'for every input the law returns true; each argument reads behind the call as it read before'; 0 by the template 'total and deterministic' (their statements: YtjgdbfhpjjmjkaaDoorTotals.lean).
  GIVEN WITH THE SEED: the statements are not yours to turn. If you find one false, say at which input.
  Laid BY PROGRAM, IN A SANDBOX (cutbox-rows.mjs): the forced cells as the released guide's own fill.sh prints them over the translation ddac576b7524abe9… (all of the seat's roots in one cut). By AI agents, Wed Nov 11 2026. No macro, syntax, notation, axiom, sorry.
-/
import Derived.Test.YtjgdbfhpjjmjkaaDoorChecked
import GoSem.Claim
import GoSem.ClaimJoined
import GoSem.ClaimMapViews
import Derived.JoinedTies
import Derived.KernelRfl
namespace Go.Proofs.YtjgdbfhpjjmjkaaDoor
/- THE CELL 'sum', in the pinned program and in every row, IS THE sha256 OF THE DUMP (.gsa) THAT YtjgdbfhpjjmjkaaDoorProg.lean LOADS. Nothing in Lean hashes anything: it is a label: what it is worth is what the hold of that sum in a sandbox is worth. -/
noncomputable def Tryd.pinned : Pinned := { name := "ytjgdbfhpjjmjkaadoor", sum := "ddac576b7524abe901e8219d84367c74f8a6687f65aee3f7b62e345ff5285940", checked := Tryd.checked }
namespace Rows
def none {H : Type} : Left H := { results := [], args := [] }

/- WHAT THE LISTED PACKAGE-LEVEL VARIABLES READ AS WHEN THE CALL BEGINS. Each datum BY PROGRAM (the guide's laid-datum.mjs) off the statement by which the dump's own 'gosem.cut.vars' lays the variable. In a bare row this is a premise. The card (YtjgdbfhpjjmjkaaDoorCards.lean) ties it to the program's text. -/
def laid_math_bits_deBruijn32tab {H : Type} : DataW H := .agg [.lit (.int .u8 0), .lit (.int .u8 1), .lit (.int .u8 28), .lit (.int .u8 2), .lit (.int .u8 29), .lit (.int .u8 14), .lit (.int .u8 24), .lit (.int .u8 3), .lit (.int .u8 30), .lit (.int .u8 22), .lit (.int .u8 20), .lit (.int .u8 15), .lit (.int .u8 25), .lit (.int .u8 17), .lit (.int .u8 4), .lit (.int .u8 8), .lit (.int .u8 31), .lit (.int .u8 27), .lit (.int .u8 13), .lit (.int .u8 23), .lit (.int .u8 21), .lit (.int .u8 19), .lit (.int .u8 16), .lit (.int .u8 7), .lit (.int .u8 26), .lit (.int .u8 12), .lit (.int .u8 18), .lit (.int .u8 6), .lit (.int .u8 11), .lit (.int .u8 5), .lit (.int .u8 10), .lit (.int .u8 9)]
def laid_math_bits_deBruijn64tab {H : Type} : DataW H := .agg [.lit (.int .u8 0), .lit (.int .u8 1), .lit (.int .u8 56), .lit (.int .u8 2), .lit (.int .u8 57), .lit (.int .u8 49), .lit (.int .u8 28), .lit (.int .u8 3), .lit (.int .u8 61), .lit (.int .u8 58), .lit (.int .u8 42), .lit (.int .u8 50), .lit (.int .u8 38), .lit (.int .u8 29), .lit (.int .u8 17), .lit (.int .u8 4), .lit (.int .u8 62), .lit (.int .u8 47), .lit (.int .u8 59), .lit (.int .u8 36), .lit (.int .u8 45), .lit (.int .u8 43), .lit (.int .u8 51), .lit (.int .u8 22), .lit (.int .u8 53), .lit (.int .u8 39), .lit (.int .u8 33), .lit (.int .u8 30), .lit (.int .u8 24), .lit (.int .u8 18), .lit (.int .u8 12), .lit (.int .u8 5), .lit (.int .u8 63), .lit (.int .u8 55), .lit (.int .u8 48), .lit (.int .u8 27), .lit (.int .u8 60), .lit (.int .u8 41), .lit (.int .u8 37), .lit (.int .u8 16), .lit (.int .u8 46), .lit (.int .u8 35), .lit (.int .u8 44), .lit (.int .u8 21), .lit (.int .u8 52), .lit (.int .u8 32), .lit (.int .u8 23), .lit (.int .u8 11), .lit (.int .u8 54), .lit (.int .u8 26), .lit (.int .u8 40), .lit (.int .u8 15), .lit (.int .u8 34), .lit (.int .u8 20), .lit (.int .u8 31), .lit (.int .u8 10), .lit (.int .u8 25), .lit (.int .u8 14), .lit (.int .u8 19), .lit (.int .u8 9), .lit (.int .u8 13), .lit (.int .u8 8), .lit (.int .u8 7), .lit (.int .u8 6)]

/-- 'attestorlaw04.NttMatchesReference': WHATEVER THE INPUT: true; the input reads as it did. -/
def nttMatchesReferenceSpec : ChangeSpec := { name := "nttMatchesReference", fn := fun _ => fun
  | [d1, d2, d3] => { results := [.lit (.bool true)], args := [d1, d2, d3] }
  | _ => none }
def nttMatchesReferenceRow : OpenClaim := { program := "ytjgdbfhpjjmjkaadoor", sum := "ddac576b7524abe901e8219d84367c74f8a6687f65aee3f7b62e345ff5285940", func := "attestor/attestorlaw04.NttMatchesReference", spec := "nttMatchesReference", inPlace := ["math/bits.Sub64", "math/bits.Add64"], unfollowed := true, recurses := true, named := ["math/bits.deBruijn32tab", "math/bits.deBruijn64tab"], apart := false, laid := [("math/bits.deBruijn32tab", laid_math_bits_deBruijn32tab), ("math/bits.deBruijn64tab", laid_math_bits_deBruijn64tab)] }
def NttMatchesReferenceSaid : Prop := nttMatchesReferenceRow.holds Tryd.pinned (OpenSpec.ofChange nttMatchesReferenceSpec)

/-- ITS FALSE NEIGHBOUR: 'it returns false'. Refute it at one input. -/
def nttMatchesReferenceWrong : ChangeSpec := { name := "nttMatchesReference", fn := fun _ => fun
  | [d1, d2, d3] => { results := [.lit (.bool false)], args := [d1, d2, d3] }
  | _ => none }
def NttMatchesReferenceWrongFalsely : Prop := nttMatchesReferenceRow.holds Tryd.pinned (OpenSpec.ofChange nttMatchesReferenceWrong)

/-- 'attestorlaw04.NttInversion': WHATEVER THE INPUT: true; the input reads as it did. -/
def nttInversionSpec : ChangeSpec := { name := "nttInversion", fn := fun _ => fun
  | [d1, d2] => { results := [.lit (.bool true)], args := [d1, d2] }
  | _ => none }
def nttInversionRow : OpenClaim := { program := "ytjgdbfhpjjmjkaadoor", sum := "ddac576b7524abe901e8219d84367c74f8a6687f65aee3f7b62e345ff5285940", func := "attestor/attestorlaw04.NttInversion", spec := "nttInversion", inPlace := ["math/bits.Sub64", "math/bits.Add64"], unfollowed := true, recurses := true, named := ["math/bits.deBruijn32tab", "math/bits.deBruijn64tab"], apart := false, laid := [("math/bits.deBruijn32tab", laid_math_bits_deBruijn32tab), ("math/bits.deBruijn64tab", laid_math_bits_deBruijn64tab)] }
def NttInversionSaid : Prop := nttInversionRow.holds Tryd.pinned (OpenSpec.ofChange nttInversionSpec)

/-- ITS FALSE NEIGHBOUR: 'it returns false'. Refute it at one input. -/
def nttInversionWrong : ChangeSpec := { name := "nttInversion", fn := fun _ => fun
  | [d1, d2] => { results := [.lit (.bool false)], args := [d1, d2] }
  | _ => none }
def NttInversionWrongFalsely : Prop := nttInversionRow.holds Tryd.pinned (OpenSpec.ofChange nttInversionWrong)

/-- 'attestorlaw04.NttLinearity': WHATEVER THE INPUT: true; the input reads as it did. -/
def nttLinearitySpec : ChangeSpec := { name := "nttLinearity", fn := fun _ => fun
  | [d1, d2, d3] => { results := [.lit (.bool true)], args := [d1, d2, d3] }
  | _ => none }
def nttLinearityRow : OpenClaim := { program := "ytjgdbfhpjjmjkaadoor", sum := "ddac576b7524abe901e8219d84367c74f8a6687f65aee3f7b62e345ff5285940", func := "attestor/attestorlaw04.NttLinearity", spec := "nttLinearity", inPlace := ["math/bits.Sub64", "math/bits.Add64"], unfollowed := true, recurses := true, named := ["math/bits.deBruijn32tab", "math/bits.deBruijn64tab"], apart := false, laid := [("math/bits.deBruijn32tab", laid_math_bits_deBruijn32tab), ("math/bits.deBruijn64tab", laid_math_bits_deBruijn64tab)] }
def NttLinearitySaid : Prop := nttLinearityRow.holds Tryd.pinned (OpenSpec.ofChange nttLinearitySpec)

/-- ITS FALSE NEIGHBOUR: 'it returns false'. Refute it at one input. -/
def nttLinearityWrong : ChangeSpec := { name := "nttLinearity", fn := fun _ => fun
  | [d1, d2, d3] => { results := [.lit (.bool false)], args := [d1, d2, d3] }
  | _ => none }
def NttLinearityWrongFalsely : Prop := nttLinearityRow.holds Tryd.pinned (OpenSpec.ofChange nttLinearityWrong)

/-- 'attestorlaw04.NttRotation': WHATEVER THE INPUT: true; the input reads as it did. -/
def nttRotationSpec : ChangeSpec := { name := "nttRotation", fn := fun _ => fun
  | [d1, d2] => { results := [.lit (.bool true)], args := [d1, d2] }
  | _ => none }
def nttRotationRow : OpenClaim := { program := "ytjgdbfhpjjmjkaadoor", sum := "ddac576b7524abe901e8219d84367c74f8a6687f65aee3f7b62e345ff5285940", func := "attestor/attestorlaw04.NttRotation", spec := "nttRotation", inPlace := ["math/bits.Sub64", "math/bits.Add64"], unfollowed := true, recurses := true, named := ["math/bits.deBruijn32tab", "math/bits.deBruijn64tab"], apart := false, laid := [("math/bits.deBruijn32tab", laid_math_bits_deBruijn32tab), ("math/bits.deBruijn64tab", laid_math_bits_deBruijn64tab)] }
def NttRotationSaid : Prop := nttRotationRow.holds Tryd.pinned (OpenSpec.ofChange nttRotationSpec)

/-- ITS FALSE NEIGHBOUR: 'it returns false'. Refute it at one input. -/
def nttRotationWrong : ChangeSpec := { name := "nttRotation", fn := fun _ => fun
  | [d1, d2] => { results := [.lit (.bool false)], args := [d1, d2] }
  | _ => none }
def NttRotationWrongFalsely : Prop := nttRotationRow.holds Tryd.pinned (OpenSpec.ofChange nttRotationWrong)

/-- 'attestorlaw04.NttValues': WHATEVER THE INPUT: true; the input reads as it did. -/
def nttValuesSpec : ChangeSpec := { name := "nttValues", fn := fun _ => fun
  | [d1, d2, d3] => { results := [.lit (.bool true)], args := [d1, d2, d3] }
  | _ => none }
def nttValuesRow : OpenClaim := { program := "ytjgdbfhpjjmjkaadoor", sum := "ddac576b7524abe901e8219d84367c74f8a6687f65aee3f7b62e345ff5285940", func := "attestor/attestorlaw04.NttValues", spec := "nttValues", inPlace := ["math/bits.Sub64", "math/bits.Add64"], unfollowed := true, recurses := true, named := ["math/bits.deBruijn32tab", "math/bits.deBruijn64tab"], apart := false, laid := [("math/bits.deBruijn32tab", laid_math_bits_deBruijn32tab), ("math/bits.deBruijn64tab", laid_math_bits_deBruijn64tab)] }
def NttValuesSaid : Prop := nttValuesRow.holds Tryd.pinned (OpenSpec.ofChange nttValuesSpec)

/-- ITS FALSE NEIGHBOUR: 'it returns false'. Refute it at one input. -/
def nttValuesWrong : ChangeSpec := { name := "nttValues", fn := fun _ => fun
  | [d1, d2, d3] => { results := [.lit (.bool false)], args := [d1, d2, d3] }
  | _ => none }
def NttValuesWrongFalsely : Prop := nttValuesRow.holds Tryd.pinned (OpenSpec.ofChange nttValuesWrong)

/-- 'attestorlaw04.NttExtension': WHATEVER THE INPUT: true; the input reads as it did. -/
def nttExtensionSpec : ChangeSpec := { name := "nttExtension", fn := fun _ => fun
  | [d1, d2] => { results := [.lit (.bool true)], args := [d1, d2] }
  | _ => none }
def nttExtensionRow : OpenClaim := { program := "ytjgdbfhpjjmjkaadoor", sum := "ddac576b7524abe901e8219d84367c74f8a6687f65aee3f7b62e345ff5285940", func := "attestor/attestorlaw04.NttExtension", spec := "nttExtension", inPlace := ["math/bits.Sub64", "math/bits.Add64"], unfollowed := true, recurses := true, named := ["math/bits.deBruijn32tab", "math/bits.deBruijn64tab"], apart := false, laid := [("math/bits.deBruijn32tab", laid_math_bits_deBruijn32tab), ("math/bits.deBruijn64tab", laid_math_bits_deBruijn64tab)] }
def NttExtensionSaid : Prop := nttExtensionRow.holds Tryd.pinned (OpenSpec.ofChange nttExtensionSpec)

/-- ITS FALSE NEIGHBOUR: 'it returns false'. Refute it at one input. -/
def nttExtensionWrong : ChangeSpec := { name := "nttExtension", fn := fun _ => fun
  | [d1, d2] => { results := [.lit (.bool false)], args := [d1, d2] }
  | _ => none }
def NttExtensionWrongFalsely : Prop := nttExtensionRow.holds Tryd.pinned (OpenSpec.ofChange nttExtensionWrong)

/-- 'attestorlaw04.NttProducts': WHATEVER THE INPUT: true; the input reads as it did. -/
def nttProductsSpec : ChangeSpec := { name := "nttProducts", fn := fun _ => fun
  | [d1, d2, d3] => { results := [.lit (.bool true)], args := [d1, d2, d3] }
  | _ => none }
def nttProductsRow : OpenClaim := { program := "ytjgdbfhpjjmjkaadoor", sum := "ddac576b7524abe901e8219d84367c74f8a6687f65aee3f7b62e345ff5285940", func := "attestor/attestorlaw04.NttProducts", spec := "nttProducts", inPlace := ["math/bits.Sub64", "math/bits.Add64"], unfollowed := true, recurses := true, named := ["math/bits.deBruijn32tab", "math/bits.deBruijn64tab"], apart := false, laid := [("math/bits.deBruijn32tab", laid_math_bits_deBruijn32tab), ("math/bits.deBruijn64tab", laid_math_bits_deBruijn64tab)] }
def NttProductsSaid : Prop := nttProductsRow.holds Tryd.pinned (OpenSpec.ofChange nttProductsSpec)

/-- ITS FALSE NEIGHBOUR: 'it returns false'. Refute it at one input. -/
def nttProductsWrong : ChangeSpec := { name := "nttProducts", fn := fun _ => fun
  | [d1, d2, d3] => { results := [.lit (.bool false)], args := [d1, d2, d3] }
  | _ => none }
def NttProductsWrongFalsely : Prop := nttProductsRow.holds Tryd.pinned (OpenSpec.ofChange nttProductsWrong)

/-- 'attestorlaw04.NttMulAlgebra': WHATEVER THE INPUT: true; the input reads as it did. -/
def nttMulAlgebraSpec : ChangeSpec := { name := "nttMulAlgebra", fn := fun _ => fun
  | [d1, d2, d3] => { results := [.lit (.bool true)], args := [d1, d2, d3] }
  | _ => none }
def nttMulAlgebraRow : OpenClaim := { program := "ytjgdbfhpjjmjkaadoor", sum := "ddac576b7524abe901e8219d84367c74f8a6687f65aee3f7b62e345ff5285940", func := "attestor/attestorlaw04.NttMulAlgebra", spec := "nttMulAlgebra", inPlace := ["math/bits.Sub64", "math/bits.Add64"], unfollowed := true, recurses := true, named := ["math/bits.deBruijn32tab", "math/bits.deBruijn64tab"], apart := false, laid := [("math/bits.deBruijn32tab", laid_math_bits_deBruijn32tab), ("math/bits.deBruijn64tab", laid_math_bits_deBruijn64tab)] }
def NttMulAlgebraSaid : Prop := nttMulAlgebraRow.holds Tryd.pinned (OpenSpec.ofChange nttMulAlgebraSpec)

/-- ITS FALSE NEIGHBOUR: 'it returns false'. Refute it at one input. -/
def nttMulAlgebraWrong : ChangeSpec := { name := "nttMulAlgebra", fn := fun _ => fun
  | [d1, d2, d3] => { results := [.lit (.bool false)], args := [d1, d2, d3] }
  | _ => none }
def NttMulAlgebraWrongFalsely : Prop := nttMulAlgebraRow.holds Tryd.pinned (OpenSpec.ofChange nttMulAlgebraWrong)

/-- 'attestorlaw04.NttErrors': WHATEVER THE INPUT: true; the input reads as it did. -/
def nttErrorsSpec : ChangeSpec := { name := "nttErrors", fn := fun _ => fun
  | [d1, d2] => { results := [.lit (.bool true)], args := [d1, d2] }
  | _ => none }
def nttErrorsRow : OpenClaim := { program := "ytjgdbfhpjjmjkaadoor", sum := "ddac576b7524abe901e8219d84367c74f8a6687f65aee3f7b62e345ff5285940", func := "attestor/attestorlaw04.NttErrors", spec := "nttErrors", inPlace := ["math/bits.Sub64", "math/bits.Add64"], unfollowed := true, recurses := true, named := ["math/bits.deBruijn32tab", "math/bits.deBruijn64tab"], apart := false, laid := [("math/bits.deBruijn32tab", laid_math_bits_deBruijn32tab), ("math/bits.deBruijn64tab", laid_math_bits_deBruijn64tab)] }
def NttErrorsSaid : Prop := nttErrorsRow.holds Tryd.pinned (OpenSpec.ofChange nttErrorsSpec)

/-- ITS FALSE NEIGHBOUR: 'it returns false'. Refute it at one input. -/
def nttErrorsWrong : ChangeSpec := { name := "nttErrors", fn := fun _ => fun
  | [d1, d2] => { results := [.lit (.bool false)], args := [d1, d2] }
  | _ => none }
def NttErrorsWrongFalsely : Prop := nttErrorsRow.holds Tryd.pinned (OpenSpec.ofChange nttErrorsWrong)

/- THE SECOND FORM. 'bulk': how many values and letters a reading holds, each counted each time it is reached (what is shared counts as often as it is met; a slice's spare places count too). A statement '..UptoSaid' is the law's where the arguments, and the package variables that the reading takes, are together of bulk at most 1048576: NARROWER than '..Said'. Prove '..Said' where nothing that the law and all that it calls make is longer than what came in: it says more and counts as full. Else prove '..UptoSaid'. A law counts once. -/
mutual
def uptoBulk {H : Type} : DataW H → Nat
  | .lit (.string bytes) => bytes.length + 1
  | .lit _ => 1
  | .nil => 1
  | .ptr d => uptoBulk d + 1
  | .slice elems spare => uptoBulkAll elems + uptoBulkAll spare + 1
  | .agg parts => uptoBulkAll parts + 1
  | .iface _ d => uptoBulk d + 1
  | .map entries => uptoBulkEntries entries + 1
  | .held _ => 1
def uptoBulkAll {H : Type} : List (DataW H) → Nat
  | [] => 0
  | d :: r => uptoBulk d + uptoBulkAll r
def uptoBulkEntries {H : Type} : List (Lit × DataW H) → Nat
  | [] => 0
  | x :: r => uptoBulkEntry x + uptoBulkEntries r
def uptoBulkEntry {H : Type} : Lit × DataW H → Nat
  | (.string bytes, d) => bytes.length + uptoBulk d + 1
  | (_, d) => uptoBulk d + 1
 end
def uptoSmall : (H : Type) → List (DataW H) → Bool := fun _ ds => decide (uptoBulkAll ds ≤ 1048576)
def OpenSpec.upto (s : _root_.Go.ChangeSpec) : _root_.Go.OpenSpec := { _root_.Go.OpenSpec.ofChange s with cond := some uptoSmall }

/-- 'attestorlaw04.NttMatchesReference', WHERE WHAT IT READS IS OF BULK AT MOST 1048576: true; the input reads as it did. -/
def nttMatchesReferenceUptoRow : OpenClaim := { program := "ytjgdbfhpjjmjkaadoor", sum := "ddac576b7524abe901e8219d84367c74f8a6687f65aee3f7b62e345ff5285940", func := "attestor/attestorlaw04.NttMatchesReference", spec := "nttMatchesReference", inPlace := ["math/bits.Sub64", "math/bits.Add64"], unfollowed := true, recurses := true, named := ["math/bits.deBruijn32tab", "math/bits.deBruijn64tab"], apart := false, laid := [("math/bits.deBruijn32tab", laid_math_bits_deBruijn32tab), ("math/bits.deBruijn64tab", laid_math_bits_deBruijn64tab)], narrowed := true }
def NttMatchesReferenceUptoSaid : Prop := nttMatchesReferenceUptoRow.holds Tryd.pinned (OpenSpec.upto nttMatchesReferenceSpec)

/-- 'attestorlaw04.NttInversion', WHERE WHAT IT READS IS OF BULK AT MOST 1048576: true; the input reads as it did. -/
def nttInversionUptoRow : OpenClaim := { program := "ytjgdbfhpjjmjkaadoor", sum := "ddac576b7524abe901e8219d84367c74f8a6687f65aee3f7b62e345ff5285940", func := "attestor/attestorlaw04.NttInversion", spec := "nttInversion", inPlace := ["math/bits.Sub64", "math/bits.Add64"], unfollowed := true, recurses := true, named := ["math/bits.deBruijn32tab", "math/bits.deBruijn64tab"], apart := false, laid := [("math/bits.deBruijn32tab", laid_math_bits_deBruijn32tab), ("math/bits.deBruijn64tab", laid_math_bits_deBruijn64tab)], narrowed := true }
def NttInversionUptoSaid : Prop := nttInversionUptoRow.holds Tryd.pinned (OpenSpec.upto nttInversionSpec)

/-- 'attestorlaw04.NttLinearity', WHERE WHAT IT READS IS OF BULK AT MOST 1048576: true; the input reads as it did. -/
def nttLinearityUptoRow : OpenClaim := { program := "ytjgdbfhpjjmjkaadoor", sum := "ddac576b7524abe901e8219d84367c74f8a6687f65aee3f7b62e345ff5285940", func := "attestor/attestorlaw04.NttLinearity", spec := "nttLinearity", inPlace := ["math/bits.Sub64", "math/bits.Add64"], unfollowed := true, recurses := true, named := ["math/bits.deBruijn32tab", "math/bits.deBruijn64tab"], apart := false, laid := [("math/bits.deBruijn32tab", laid_math_bits_deBruijn32tab), ("math/bits.deBruijn64tab", laid_math_bits_deBruijn64tab)], narrowed := true }
def NttLinearityUptoSaid : Prop := nttLinearityUptoRow.holds Tryd.pinned (OpenSpec.upto nttLinearitySpec)

/-- 'attestorlaw04.NttRotation', WHERE WHAT IT READS IS OF BULK AT MOST 1048576: true; the input reads as it did. -/
def nttRotationUptoRow : OpenClaim := { program := "ytjgdbfhpjjmjkaadoor", sum := "ddac576b7524abe901e8219d84367c74f8a6687f65aee3f7b62e345ff5285940", func := "attestor/attestorlaw04.NttRotation", spec := "nttRotation", inPlace := ["math/bits.Sub64", "math/bits.Add64"], unfollowed := true, recurses := true, named := ["math/bits.deBruijn32tab", "math/bits.deBruijn64tab"], apart := false, laid := [("math/bits.deBruijn32tab", laid_math_bits_deBruijn32tab), ("math/bits.deBruijn64tab", laid_math_bits_deBruijn64tab)], narrowed := true }
def NttRotationUptoSaid : Prop := nttRotationUptoRow.holds Tryd.pinned (OpenSpec.upto nttRotationSpec)

/-- 'attestorlaw04.NttValues', WHERE WHAT IT READS IS OF BULK AT MOST 1048576: true; the input reads as it did. -/
def nttValuesUptoRow : OpenClaim := { program := "ytjgdbfhpjjmjkaadoor", sum := "ddac576b7524abe901e8219d84367c74f8a6687f65aee3f7b62e345ff5285940", func := "attestor/attestorlaw04.NttValues", spec := "nttValues", inPlace := ["math/bits.Sub64", "math/bits.Add64"], unfollowed := true, recurses := true, named := ["math/bits.deBruijn32tab", "math/bits.deBruijn64tab"], apart := false, laid := [("math/bits.deBruijn32tab", laid_math_bits_deBruijn32tab), ("math/bits.deBruijn64tab", laid_math_bits_deBruijn64tab)], narrowed := true }
def NttValuesUptoSaid : Prop := nttValuesUptoRow.holds Tryd.pinned (OpenSpec.upto nttValuesSpec)

/-- 'attestorlaw04.NttExtension', WHERE WHAT IT READS IS OF BULK AT MOST 1048576: true; the input reads as it did. -/
def nttExtensionUptoRow : OpenClaim := { program := "ytjgdbfhpjjmjkaadoor", sum := "ddac576b7524abe901e8219d84367c74f8a6687f65aee3f7b62e345ff5285940", func := "attestor/attestorlaw04.NttExtension", spec := "nttExtension", inPlace := ["math/bits.Sub64", "math/bits.Add64"], unfollowed := true, recurses := true, named := ["math/bits.deBruijn32tab", "math/bits.deBruijn64tab"], apart := false, laid := [("math/bits.deBruijn32tab", laid_math_bits_deBruijn32tab), ("math/bits.deBruijn64tab", laid_math_bits_deBruijn64tab)], narrowed := true }
def NttExtensionUptoSaid : Prop := nttExtensionUptoRow.holds Tryd.pinned (OpenSpec.upto nttExtensionSpec)

/-- 'attestorlaw04.NttProducts', WHERE WHAT IT READS IS OF BULK AT MOST 1048576: true; the input reads as it did. -/
def nttProductsUptoRow : OpenClaim := { program := "ytjgdbfhpjjmjkaadoor", sum := "ddac576b7524abe901e8219d84367c74f8a6687f65aee3f7b62e345ff5285940", func := "attestor/attestorlaw04.NttProducts", spec := "nttProducts", inPlace := ["math/bits.Sub64", "math/bits.Add64"], unfollowed := true, recurses := true, named := ["math/bits.deBruijn32tab", "math/bits.deBruijn64tab"], apart := false, laid := [("math/bits.deBruijn32tab", laid_math_bits_deBruijn32tab), ("math/bits.deBruijn64tab", laid_math_bits_deBruijn64tab)], narrowed := true }
def NttProductsUptoSaid : Prop := nttProductsUptoRow.holds Tryd.pinned (OpenSpec.upto nttProductsSpec)

/-- 'attestorlaw04.NttMulAlgebra', WHERE WHAT IT READS IS OF BULK AT MOST 1048576: true; the input reads as it did. -/
def nttMulAlgebraUptoRow : OpenClaim := { program := "ytjgdbfhpjjmjkaadoor", sum := "ddac576b7524abe901e8219d84367c74f8a6687f65aee3f7b62e345ff5285940", func := "attestor/attestorlaw04.NttMulAlgebra", spec := "nttMulAlgebra", inPlace := ["math/bits.Sub64", "math/bits.Add64"], unfollowed := true, recurses := true, named := ["math/bits.deBruijn32tab", "math/bits.deBruijn64tab"], apart := false, laid := [("math/bits.deBruijn32tab", laid_math_bits_deBruijn32tab), ("math/bits.deBruijn64tab", laid_math_bits_deBruijn64tab)], narrowed := true }
def NttMulAlgebraUptoSaid : Prop := nttMulAlgebraUptoRow.holds Tryd.pinned (OpenSpec.upto nttMulAlgebraSpec)

/-- 'attestorlaw04.NttErrors', WHERE WHAT IT READS IS OF BULK AT MOST 1048576: true; the input reads as it did. -/
def nttErrorsUptoRow : OpenClaim := { program := "ytjgdbfhpjjmjkaadoor", sum := "ddac576b7524abe901e8219d84367c74f8a6687f65aee3f7b62e345ff5285940", func := "attestor/attestorlaw04.NttErrors", spec := "nttErrors", inPlace := ["math/bits.Sub64", "math/bits.Add64"], unfollowed := true, recurses := true, named := ["math/bits.deBruijn32tab", "math/bits.deBruijn64tab"], apart := false, laid := [("math/bits.deBruijn32tab", laid_math_bits_deBruijn32tab), ("math/bits.deBruijn64tab", laid_math_bits_deBruijn64tab)], narrowed := true }
def NttErrorsUptoSaid : Prop := nttErrorsUptoRow.holds Tryd.pinned (OpenSpec.upto nttErrorsSpec)

end Rows
end Go.Proofs.YtjgdbfhpjjmjkaaDoor
