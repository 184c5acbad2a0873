/-
  No cell of these rows narrows 'for every input' (looked for: loops, veiled, ifaces, maps, wideKeys, modest, calm, conditions, laid).
  DERIVED. THE GIVEN ROWS OF THIS SEAT. 8 by the template 'for every input the law returns true; each argument reads behind the call as it read before'; 0 by the template 'total and deterministic' (their statements: YtjchccpicddpoaaTotals.lean).
  GIVEN WITH THE SEED: the statements are not yours to turn. If you find one false, say at which input.
  Laid BY PROGRAM, IN A SANDBOX (cutbox-rows.mjs): the forced cells as the released guide's own fill.sh prints them over the translation 8d59d846c4b4142e… (all of the seat's roots in one cut). By AI agents, Wed Nov 11 2026. No macro, syntax, notation, axiom, sorry.
-/
import Derived.Test.YtjchccpicddpoaaChecked
import GoSem.Claim
import GoSem.ClaimJoined
import GoSem.ClaimMapViews
import Derived.JoinedTies
import Derived.KernelRfl
namespace Go.Proofs.Ytjchccpicddpoaa
/- THE CELL 'sum', in the pinned program and in every row, IS THE sha256 OF THE DUMP (.gsa) THAT YtjchccpicddpoaaProg.lean LOADS. Nothing in Lean hashes anything: it is a label: what it is worth is what the hold of that sum in a sandbox is worth. -/
noncomputable def Try.pinned : Pinned := { name := "ytjchccpicddpoaa", sum := "8d59d846c4b4142e988b12ae8b892d2ef142865f1f1dd462bb7c11a739395e34", checked := Try.checked }
namespace Rows
def none {H : Type} : Left H := { results := [], args := [] }

/-- 'attestorlaw03.PolyMatchesReference': WHATEVER THE INPUT: true; the input reads as it did. -/
def polyMatchesReferenceSpec : ChangeSpec := { name := "polyMatchesReference", fn := fun _ => fun
  | [d1, d2, d3] => { results := [.lit (.bool true)], args := [d1, d2, d3] }
  | _ => none }
def polyMatchesReferenceRow : OpenClaim := { program := "ytjchccpicddpoaa", sum := "8d59d846c4b4142e988b12ae8b892d2ef142865f1f1dd462bb7c11a739395e34", func := "attestor/attestorlaw03.PolyMatchesReference", spec := "polyMatchesReference", inPlace := ["math/bits.Sub64", "math/bits.Add64"], unfollowed := true, recurses := true, apart := false }
def PolyMatchesReferenceSaid : Prop := polyMatchesReferenceRow.holds Try.pinned (OpenSpec.ofChange polyMatchesReferenceSpec)

/-- ITS FALSE NEIGHBOUR: 'it returns false'. Refute it at one input. -/
def polyMatchesReferenceWrong : ChangeSpec := { name := "polyMatchesReference", fn := fun _ => fun
  | [d1, d2, d3] => { results := [.lit (.bool false)], args := [d1, d2, d3] }
  | _ => none }
def PolyMatchesReferenceWrongFalsely : Prop := polyMatchesReferenceRow.holds Try.pinned (OpenSpec.ofChange polyMatchesReferenceWrong)

/-- 'attestorlaw03.PolyInterpolationMatchesReference': WHATEVER THE INPUT: true; the input reads as it did. -/
def polyInterpolationMatchesReferenceSpec : ChangeSpec := { name := "polyInterpolationMatchesReference", fn := fun _ => fun
  | [d1, d2, d3] => { results := [.lit (.bool true)], args := [d1, d2, d3] }
  | _ => none }
def polyInterpolationMatchesReferenceRow : OpenClaim := { program := "ytjchccpicddpoaa", sum := "8d59d846c4b4142e988b12ae8b892d2ef142865f1f1dd462bb7c11a739395e34", func := "attestor/attestorlaw03.PolyInterpolationMatchesReference", spec := "polyInterpolationMatchesReference", inPlace := ["math/bits.Sub64", "math/bits.Add64"], unfollowed := true, recurses := true, apart := false }
def PolyInterpolationMatchesReferenceSaid : Prop := polyInterpolationMatchesReferenceRow.holds Try.pinned (OpenSpec.ofChange polyInterpolationMatchesReferenceSpec)

/-- ITS FALSE NEIGHBOUR: 'it returns false'. Refute it at one input. -/
def polyInterpolationMatchesReferenceWrong : ChangeSpec := { name := "polyInterpolationMatchesReference", fn := fun _ => fun
  | [d1, d2, d3] => { results := [.lit (.bool false)], args := [d1, d2, d3] }
  | _ => none }
def PolyInterpolationMatchesReferenceWrongFalsely : Prop := polyInterpolationMatchesReferenceRow.holds Try.pinned (OpenSpec.ofChange polyInterpolationMatchesReferenceWrong)

/-- 'attestorlaw03.PolyEvaluationIsHomomorphism': WHATEVER THE INPUT: true; the input reads as it did. -/
def polyEvaluationIsHomomorphismSpec : ChangeSpec := { name := "polyEvaluationIsHomomorphism", fn := fun _ => fun
  | [d1, d2, d3] => { results := [.lit (.bool true)], args := [d1, d2, d3] }
  | _ => none }
def polyEvaluationIsHomomorphismRow : OpenClaim := { program := "ytjchccpicddpoaa", sum := "8d59d846c4b4142e988b12ae8b892d2ef142865f1f1dd462bb7c11a739395e34", func := "attestor/attestorlaw03.PolyEvaluationIsHomomorphism", spec := "polyEvaluationIsHomomorphism", inPlace := ["math/bits.Sub64", "math/bits.Add64"], unfollowed := true, recurses := true, apart := false }
def PolyEvaluationIsHomomorphismSaid : Prop := polyEvaluationIsHomomorphismRow.holds Try.pinned (OpenSpec.ofChange polyEvaluationIsHomomorphismSpec)

/-- ITS FALSE NEIGHBOUR: 'it returns false'. Refute it at one input. -/
def polyEvaluationIsHomomorphismWrong : ChangeSpec := { name := "polyEvaluationIsHomomorphism", fn := fun _ => fun
  | [d1, d2, d3] => { results := [.lit (.bool false)], args := [d1, d2, d3] }
  | _ => none }
def PolyEvaluationIsHomomorphismWrongFalsely : Prop := polyEvaluationIsHomomorphismRow.holds Try.pinned (OpenSpec.ofChange polyEvaluationIsHomomorphismWrong)

/-- 'attestorlaw03.PolyInterpolationInvertsEvaluation': WHATEVER THE INPUT: true; the input reads as it did. -/
def polyInterpolationInvertsEvaluationSpec : ChangeSpec := { name := "polyInterpolationInvertsEvaluation", fn := fun _ => fun
  | [d1, d2, d3] => { results := [.lit (.bool true)], args := [d1, d2, d3] }
  | _ => none }
def polyInterpolationInvertsEvaluationRow : OpenClaim := { program := "ytjchccpicddpoaa", sum := "8d59d846c4b4142e988b12ae8b892d2ef142865f1f1dd462bb7c11a739395e34", func := "attestor/attestorlaw03.PolyInterpolationInvertsEvaluation", spec := "polyInterpolationInvertsEvaluation", inPlace := ["math/bits.Sub64", "math/bits.Add64"], unfollowed := true, recurses := true, apart := false }
def PolyInterpolationInvertsEvaluationSaid : Prop := polyInterpolationInvertsEvaluationRow.holds Try.pinned (OpenSpec.ofChange polyInterpolationInvertsEvaluationSpec)

/-- ITS FALSE NEIGHBOUR: 'it returns false'. Refute it at one input. -/
def polyInterpolationInvertsEvaluationWrong : ChangeSpec := { name := "polyInterpolationInvertsEvaluation", fn := fun _ => fun
  | [d1, d2, d3] => { results := [.lit (.bool false)], args := [d1, d2, d3] }
  | _ => none }
def PolyInterpolationInvertsEvaluationWrongFalsely : Prop := polyInterpolationInvertsEvaluationRow.holds Try.pinned (OpenSpec.ofChange polyInterpolationInvertsEvaluationWrong)

/-- 'attestorlaw03.PolyAtIsInterpolation': WHATEVER THE INPUT: true; the input reads as it did. -/
def polyAtIsInterpolationSpec : ChangeSpec := { name := "polyAtIsInterpolation", fn := fun _ => fun
  | [d1, d2, d3] => { results := [.lit (.bool true)], args := [d1, d2, d3] }
  | _ => none }
def polyAtIsInterpolationRow : OpenClaim := { program := "ytjchccpicddpoaa", sum := "8d59d846c4b4142e988b12ae8b892d2ef142865f1f1dd462bb7c11a739395e34", func := "attestor/attestorlaw03.PolyAtIsInterpolation", spec := "polyAtIsInterpolation", inPlace := ["math/bits.Sub64", "math/bits.Add64"], unfollowed := true, recurses := true, apart := false }
def PolyAtIsInterpolationSaid : Prop := polyAtIsInterpolationRow.holds Try.pinned (OpenSpec.ofChange polyAtIsInterpolationSpec)

/-- ITS FALSE NEIGHBOUR: 'it returns false'. Refute it at one input. -/
def polyAtIsInterpolationWrong : ChangeSpec := { name := "polyAtIsInterpolation", fn := fun _ => fun
  | [d1, d2, d3] => { results := [.lit (.bool false)], args := [d1, d2, d3] }
  | _ => none }
def PolyAtIsInterpolationWrongFalsely : Prop := polyAtIsInterpolationRow.holds Try.pinned (OpenSpec.ofChange polyAtIsInterpolationWrong)

/-- 'attestorlaw03.PolyDivision': WHATEVER THE INPUT: true; the input reads as it did. -/
def polyDivisionSpec : ChangeSpec := { name := "polyDivision", fn := fun _ => fun
  | [d1, d2] => { results := [.lit (.bool true)], args := [d1, d2] }
  | _ => none }
def polyDivisionRow : OpenClaim := { program := "ytjchccpicddpoaa", sum := "8d59d846c4b4142e988b12ae8b892d2ef142865f1f1dd462bb7c11a739395e34", func := "attestor/attestorlaw03.PolyDivision", spec := "polyDivision", inPlace := ["math/bits.Sub64", "math/bits.Add64"], unfollowed := true, recurses := true, apart := false }
def PolyDivisionSaid : Prop := polyDivisionRow.holds Try.pinned (OpenSpec.ofChange polyDivisionSpec)

/-- ITS FALSE NEIGHBOUR: 'it returns false'. Refute it at one input. -/
def polyDivisionWrong : ChangeSpec := { name := "polyDivision", fn := fun _ => fun
  | [d1, d2] => { results := [.lit (.bool false)], args := [d1, d2] }
  | _ => none }
def PolyDivisionWrongFalsely : Prop := polyDivisionRow.holds Try.pinned (OpenSpec.ofChange polyDivisionWrong)

/-- 'attestorlaw03.PolyRootBound': WHATEVER THE INPUT: true; the input reads as it did. -/
def polyRootBoundSpec : ChangeSpec := { name := "polyRootBound", fn := fun _ => fun
  | [d1, d2, d3] => { results := [.lit (.bool true)], args := [d1, d2, d3] }
  | _ => none }
def polyRootBoundRow : OpenClaim := { program := "ytjchccpicddpoaa", sum := "8d59d846c4b4142e988b12ae8b892d2ef142865f1f1dd462bb7c11a739395e34", func := "attestor/attestorlaw03.PolyRootBound", spec := "polyRootBound", inPlace := ["math/bits.Sub64", "math/bits.Add64"], unfollowed := true, recurses := true, apart := false }
def PolyRootBoundSaid : Prop := polyRootBoundRow.holds Try.pinned (OpenSpec.ofChange polyRootBoundSpec)

/-- ITS FALSE NEIGHBOUR: 'it returns false'. Refute it at one input. -/
def polyRootBoundWrong : ChangeSpec := { name := "polyRootBound", fn := fun _ => fun
  | [d1, d2, d3] => { results := [.lit (.bool false)], args := [d1, d2, d3] }
  | _ => none }
def PolyRootBoundWrongFalsely : Prop := polyRootBoundRow.holds Try.pinned (OpenSpec.ofChange polyRootBoundWrong)

/-- 'attestorlaw03.PolyRing': WHATEVER THE INPUT: true; the input reads as it did. -/
def polyRingSpec : ChangeSpec := { name := "polyRing", fn := fun _ => fun
  | [d1, d2, d3] => { results := [.lit (.bool true)], args := [d1, d2, d3] }
  | _ => none }
def polyRingRow : OpenClaim := { program := "ytjchccpicddpoaa", sum := "8d59d846c4b4142e988b12ae8b892d2ef142865f1f1dd462bb7c11a739395e34", func := "attestor/attestorlaw03.PolyRing", spec := "polyRing", inPlace := ["math/bits.Sub64", "math/bits.Add64"], unfollowed := true, recurses := true, apart := false }
def PolyRingSaid : Prop := polyRingRow.holds Try.pinned (OpenSpec.ofChange polyRingSpec)

/-- ITS FALSE NEIGHBOUR: 'it returns false'. Refute it at one input. -/
def polyRingWrong : ChangeSpec := { name := "polyRing", fn := fun _ => fun
  | [d1, d2, d3] => { results := [.lit (.bool false)], args := [d1, d2, d3] }
  | _ => none }
def PolyRingWrongFalsely : Prop := polyRingRow.holds Try.pinned (OpenSpec.ofChange polyRingWrong)

/- THE SECOND FORM. 'bulk': how many values and letters a reading holds, each counted each time it is reached (what is shared counts as often as it is met; a slice's spare places count too). A statement '..UptoSaid' is the law's where the arguments, and the package variables that the reading takes, are together of bulk at most 1048576: NARROWER than '..Said'. Prove '..Said' where nothing that the law and all that it calls make is longer than what came in: it says more and counts as full. Else prove '..UptoSaid'. A law counts once. -/
mutual
def uptoBulk {H : Type} : DataW H → Nat
  | .lit (.string bytes) => bytes.length + 1
  | .lit _ => 1
  | .nil => 1
  | .ptr d => uptoBulk d + 1
  | .slice elems spare => uptoBulkAll elems + uptoBulkAll spare + 1
  | .agg parts => uptoBulkAll parts + 1
  | .iface _ d => uptoBulk d + 1
  | .map entries => uptoBulkEntries entries + 1
  | .held _ => 1
def uptoBulkAll {H : Type} : List (DataW H) → Nat
  | [] => 0
  | d :: r => uptoBulk d + uptoBulkAll r
def uptoBulkEntries {H : Type} : List (Lit × DataW H) → Nat
  | [] => 0
  | x :: r => uptoBulkEntry x + uptoBulkEntries r
def uptoBulkEntry {H : Type} : Lit × DataW H → Nat
  | (.string bytes, d) => bytes.length + uptoBulk d + 1
  | (_, d) => uptoBulk d + 1
 end
def uptoSmall : (H : Type) → List (DataW H) → Bool := fun _ ds => decide (uptoBulkAll ds ≤ 1048576)
def OpenSpec.upto (s : _root_.Go.ChangeSpec) : _root_.Go.OpenSpec := { _root_.Go.OpenSpec.ofChange s with cond := some uptoSmall }

/-- 'attestorlaw03.PolyMatchesReference', WHERE WHAT IT READS IS OF BULK AT MOST 1048576: true; the input reads as it did. -/
def polyMatchesReferenceUptoRow : OpenClaim := { program := "ytjchccpicddpoaa", sum := "8d59d846c4b4142e988b12ae8b892d2ef142865f1f1dd462bb7c11a739395e34", func := "attestor/attestorlaw03.PolyMatchesReference", spec := "polyMatchesReference", inPlace := ["math/bits.Sub64", "math/bits.Add64"], unfollowed := true, recurses := true, apart := false, narrowed := true }
def PolyMatchesReferenceUptoSaid : Prop := polyMatchesReferenceUptoRow.holds Try.pinned (OpenSpec.upto polyMatchesReferenceSpec)

/-- 'attestorlaw03.PolyInterpolationMatchesReference', WHERE WHAT IT READS IS OF BULK AT MOST 1048576: true; the input reads as it did. -/
def polyInterpolationMatchesReferenceUptoRow : OpenClaim := { program := "ytjchccpicddpoaa", sum := "8d59d846c4b4142e988b12ae8b892d2ef142865f1f1dd462bb7c11a739395e34", func := "attestor/attestorlaw03.PolyInterpolationMatchesReference", spec := "polyInterpolationMatchesReference", inPlace := ["math/bits.Sub64", "math/bits.Add64"], unfollowed := true, recurses := true, apart := false, narrowed := true }
def PolyInterpolationMatchesReferenceUptoSaid : Prop := polyInterpolationMatchesReferenceUptoRow.holds Try.pinned (OpenSpec.upto polyInterpolationMatchesReferenceSpec)

/-- 'attestorlaw03.PolyEvaluationIsHomomorphism', WHERE WHAT IT READS IS OF BULK AT MOST 1048576: true; the input reads as it did. -/
def polyEvaluationIsHomomorphismUptoRow : OpenClaim := { program := "ytjchccpicddpoaa", sum := "8d59d846c4b4142e988b12ae8b892d2ef142865f1f1dd462bb7c11a739395e34", func := "attestor/attestorlaw03.PolyEvaluationIsHomomorphism", spec := "polyEvaluationIsHomomorphism", inPlace := ["math/bits.Sub64", "math/bits.Add64"], unfollowed := true, recurses := true, apart := false, narrowed := true }
def PolyEvaluationIsHomomorphismUptoSaid : Prop := polyEvaluationIsHomomorphismUptoRow.holds Try.pinned (OpenSpec.upto polyEvaluationIsHomomorphismSpec)

/-- 'attestorlaw03.PolyInterpolationInvertsEvaluation', WHERE WHAT IT READS IS OF BULK AT MOST 1048576: true; the input reads as it did. -/
def polyInterpolationInvertsEvaluationUptoRow : OpenClaim := { program := "ytjchccpicddpoaa", sum := "8d59d846c4b4142e988b12ae8b892d2ef142865f1f1dd462bb7c11a739395e34", func := "attestor/attestorlaw03.PolyInterpolationInvertsEvaluation", spec := "polyInterpolationInvertsEvaluation", inPlace := ["math/bits.Sub64", "math/bits.Add64"], unfollowed := true, recurses := true, apart := false, narrowed := true }
def PolyInterpolationInvertsEvaluationUptoSaid : Prop := polyInterpolationInvertsEvaluationUptoRow.holds Try.pinned (OpenSpec.upto polyInterpolationInvertsEvaluationSpec)

/-- 'attestorlaw03.PolyAtIsInterpolation', WHERE WHAT IT READS IS OF BULK AT MOST 1048576: true; the input reads as it did. -/
def polyAtIsInterpolationUptoRow : OpenClaim := { program := "ytjchccpicddpoaa", sum := "8d59d846c4b4142e988b12ae8b892d2ef142865f1f1dd462bb7c11a739395e34", func := "attestor/attestorlaw03.PolyAtIsInterpolation", spec := "polyAtIsInterpolation", inPlace := ["math/bits.Sub64", "math/bits.Add64"], unfollowed := true, recurses := true, apart := false, narrowed := true }
def PolyAtIsInterpolationUptoSaid : Prop := polyAtIsInterpolationUptoRow.holds Try.pinned (OpenSpec.upto polyAtIsInterpolationSpec)

/-- 'attestorlaw03.PolyDivision', WHERE WHAT IT READS IS OF BULK AT MOST 1048576: true; the input reads as it did. -/
def polyDivisionUptoRow : OpenClaim := { program := "ytjchccpicddpoaa", sum := "8d59d846c4b4142e988b12ae8b892d2ef142865f1f1dd462bb7c11a739395e34", func := "attestor/attestorlaw03.PolyDivision", spec := "polyDivision", inPlace := ["math/bits.Sub64", "math/bits.Add64"], unfollowed := true, recurses := true, apart := false, narrowed := true }
def PolyDivisionUptoSaid : Prop := polyDivisionUptoRow.holds Try.pinned (OpenSpec.upto polyDivisionSpec)

/-- 'attestorlaw03.PolyRootBound', WHERE WHAT IT READS IS OF BULK AT MOST 1048576: true; the input reads as it did. -/
def polyRootBoundUptoRow : OpenClaim := { program := "ytjchccpicddpoaa", sum := "8d59d846c4b4142e988b12ae8b892d2ef142865f1f1dd462bb7c11a739395e34", func := "attestor/attestorlaw03.PolyRootBound", spec := "polyRootBound", inPlace := ["math/bits.Sub64", "math/bits.Add64"], unfollowed := true, recurses := true, apart := false, narrowed := true }
def PolyRootBoundUptoSaid : Prop := polyRootBoundUptoRow.holds Try.pinned (OpenSpec.upto polyRootBoundSpec)

/-- 'attestorlaw03.PolyRing', WHERE WHAT IT READS IS OF BULK AT MOST 1048576: true; the input reads as it did. -/
def polyRingUptoRow : OpenClaim := { program := "ytjchccpicddpoaa", sum := "8d59d846c4b4142e988b12ae8b892d2ef142865f1f1dd462bb7c11a739395e34", func := "attestor/attestorlaw03.PolyRing", spec := "polyRing", inPlace := ["math/bits.Sub64", "math/bits.Add64"], unfollowed := true, recurses := true, apart := false, narrowed := true }
def PolyRingUptoSaid : Prop := polyRingUptoRow.holds Try.pinned (OpenSpec.upto polyRingSpec)

end Rows
end Go.Proofs.Ytjchccpicddpoaa
