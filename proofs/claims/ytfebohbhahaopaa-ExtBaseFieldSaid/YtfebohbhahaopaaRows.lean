/-
  No cell of these rows narrows 'for every input' (looked for: loops, veiled, ifaces, maps, wideKeys, modest, calm, conditions, laid).
  DERIVED. THE GIVEN ROWS OF THIS SEAT. 16 by the template 'for every input the law returns true; each argument reads behind the call as it read before'; 0 by the template 'total and deterministic' (their statements: YtfebohbhahaopaaTotals.lean).
  GIVEN WITH THE SEED: the statements are not yours to turn. If you find one false, say at which input.
  Laid BY PROGRAM, IN A SANDBOX (cutbox-rows.mjs): the forced cells as the released guide's own fill.sh prints them over the translation d24947f6de0ecb4c… (all of the seat's roots in one cut). By AI agents, Wed Nov 11 2026. No macro, syntax, notation, axiom, sorry.
-/
import Derived.Test.YtfebohbhahaopaaChecked
import GoSem.Claim
import GoSem.ClaimJoined
import GoSem.ClaimMapViews
import Derived.JoinedTies
import Derived.KernelRfl
namespace Go.Proofs.Ytfebohbhahaopaa
/- THE CELL 'sum', in the pinned program and in every row, IS THE sha256 OF THE DUMP (.gsa) THAT YtfebohbhahaopaaProg.lean LOADS. Nothing in Lean hashes anything: it is a label: what it is worth is what the hold of that sum in a sandbox is worth. -/
noncomputable def Try.pinned : Pinned := { name := "ytfebohbhahaopaa", sum := "d24947f6de0ecb4c5b13d64d12dcdccda5b587ec8c219ad2723b62a007065c12", checked := Try.checked }
namespace Rows
def none {H : Type} : Left H := { results := [], args := [] }

/-- 'attestorlaw01.FieldMatchesReference': WHATEVER THE INPUT: true; the input reads as it did. -/
def fieldMatchesReferenceSpec : ChangeSpec := { name := "fieldMatchesReference", fn := fun _ => fun
  | [d1, d2, d3] => { results := [.lit (.bool true)], args := [d1, d2, d3] }
  | _ => none }
def fieldMatchesReferenceRow : OpenClaim := { program := "ytfebohbhahaopaa", sum := "d24947f6de0ecb4c5b13d64d12dcdccda5b587ec8c219ad2723b62a007065c12", func := "attestor/attestorlaw01.FieldMatchesReference", spec := "fieldMatchesReference", inPlace := ["math/bits.Sub64", "math/bits.Add64"], unfollowed := true, recurses := true, apart := false }
def FieldMatchesReferenceSaid : Prop := fieldMatchesReferenceRow.holds Try.pinned (OpenSpec.ofChange fieldMatchesReferenceSpec)

/-- ITS FALSE NEIGHBOUR: 'it returns false'. Refute it at one input. -/
def fieldMatchesReferenceWrong : ChangeSpec := { name := "fieldMatchesReference", fn := fun _ => fun
  | [d1, d2, d3] => { results := [.lit (.bool false)], args := [d1, d2, d3] }
  | _ => none }
def FieldMatchesReferenceWrongFalsely : Prop := fieldMatchesReferenceRow.holds Try.pinned (OpenSpec.ofChange fieldMatchesReferenceWrong)

/-- 'attestorlaw01.FieldRing': WHATEVER THE INPUT: true; the input reads as it did. -/
def fieldRingSpec : ChangeSpec := { name := "fieldRing", fn := fun _ => fun
  | [d] => { results := [.lit (.bool true)], args := [d] }
  | _ => none }
def fieldRingRow : OpenClaim := { program := "ytfebohbhahaopaa", sum := "d24947f6de0ecb4c5b13d64d12dcdccda5b587ec8c219ad2723b62a007065c12", func := "attestor/attestorlaw01.FieldRing", spec := "fieldRing", inPlace := ["math/bits.Sub64", "math/bits.Add64"], unfollowed := true, recurses := true, apart := false }
def FieldRingSaid : Prop := fieldRingRow.holds Try.pinned (OpenSpec.ofChange fieldRingSpec)

/-- ITS FALSE NEIGHBOUR: 'it returns false'. Refute it at one input. -/
def fieldRingWrong : ChangeSpec := { name := "fieldRing", fn := fun _ => fun
  | [d] => { results := [.lit (.bool false)], args := [d] }
  | _ => none }
def FieldRingWrongFalsely : Prop := fieldRingRow.holds Try.pinned (OpenSpec.ofChange fieldRingWrong)

/-- 'attestorlaw01.FieldNegatives': WHATEVER THE INPUT: true; the input reads as it did. -/
def fieldNegativesSpec : ChangeSpec := { name := "fieldNegatives", fn := fun _ => fun
  | [d] => { results := [.lit (.bool true)], args := [d] }
  | _ => none }
def fieldNegativesRow : OpenClaim := { program := "ytfebohbhahaopaa", sum := "d24947f6de0ecb4c5b13d64d12dcdccda5b587ec8c219ad2723b62a007065c12", func := "attestor/attestorlaw01.FieldNegatives", spec := "fieldNegatives", inPlace := ["math/bits.Sub64", "math/bits.Add64"], unfollowed := true, recurses := true, apart := false }
def FieldNegativesSaid : Prop := fieldNegativesRow.holds Try.pinned (OpenSpec.ofChange fieldNegativesSpec)

/-- ITS FALSE NEIGHBOUR: 'it returns false'. Refute it at one input. -/
def fieldNegativesWrong : ChangeSpec := { name := "fieldNegatives", fn := fun _ => fun
  | [d] => { results := [.lit (.bool false)], args := [d] }
  | _ => none }
def FieldNegativesWrongFalsely : Prop := fieldNegativesRow.holds Try.pinned (OpenSpec.ofChange fieldNegativesWrong)

/-- 'attestorlaw01.FieldInverses': WHATEVER THE INPUT: true; the input reads as it did. -/
def fieldInversesSpec : ChangeSpec := { name := "fieldInverses", fn := fun _ => fun
  | [d] => { results := [.lit (.bool true)], args := [d] }
  | _ => none }
def fieldInversesRow : OpenClaim := { program := "ytfebohbhahaopaa", sum := "d24947f6de0ecb4c5b13d64d12dcdccda5b587ec8c219ad2723b62a007065c12", func := "attestor/attestorlaw01.FieldInverses", spec := "fieldInverses", inPlace := ["math/bits.Sub64", "math/bits.Add64"], unfollowed := true, recurses := true, apart := false }
def FieldInversesSaid : Prop := fieldInversesRow.holds Try.pinned (OpenSpec.ofChange fieldInversesSpec)

/-- ITS FALSE NEIGHBOUR: 'it returns false'. Refute it at one input. -/
def fieldInversesWrong : ChangeSpec := { name := "fieldInverses", fn := fun _ => fun
  | [d] => { results := [.lit (.bool false)], args := [d] }
  | _ => none }
def FieldInversesWrongFalsely : Prop := fieldInversesRow.holds Try.pinned (OpenSpec.ofChange fieldInversesWrong)

/-- 'attestorlaw01.FieldPowers': WHATEVER THE INPUT: true; the input reads as it did. -/
def fieldPowersSpec : ChangeSpec := { name := "fieldPowers", fn := fun _ => fun
  | [d1, d2, d3] => { results := [.lit (.bool true)], args := [d1, d2, d3] }
  | _ => none }
def fieldPowersRow : OpenClaim := { program := "ytfebohbhahaopaa", sum := "d24947f6de0ecb4c5b13d64d12dcdccda5b587ec8c219ad2723b62a007065c12", func := "attestor/attestorlaw01.FieldPowers", spec := "fieldPowers", inPlace := ["math/bits.Sub64", "math/bits.Add64"], unfollowed := true, recurses := true, apart := false }
def FieldPowersSaid : Prop := fieldPowersRow.holds Try.pinned (OpenSpec.ofChange fieldPowersSpec)

/-- ITS FALSE NEIGHBOUR: 'it returns false'. Refute it at one input. -/
def fieldPowersWrong : ChangeSpec := { name := "fieldPowers", fn := fun _ => fun
  | [d1, d2, d3] => { results := [.lit (.bool false)], args := [d1, d2, d3] }
  | _ => none }
def FieldPowersWrongFalsely : Prop := fieldPowersRow.holds Try.pinned (OpenSpec.ofChange fieldPowersWrong)

/-- 'attestorlaw01.FieldFermat': WHATEVER THE INPUT: true; the input reads as it did. -/
def fieldFermatSpec : ChangeSpec := { name := "fieldFermat", fn := fun _ => fun
  | [d] => { results := [.lit (.bool true)], args := [d] }
  | _ => none }
def fieldFermatRow : OpenClaim := { program := "ytfebohbhahaopaa", sum := "d24947f6de0ecb4c5b13d64d12dcdccda5b587ec8c219ad2723b62a007065c12", func := "attestor/attestorlaw01.FieldFermat", spec := "fieldFermat", inPlace := ["math/bits.Sub64", "math/bits.Add64"], unfollowed := true, recurses := true, apart := false }
def FieldFermatSaid : Prop := fieldFermatRow.holds Try.pinned (OpenSpec.ofChange fieldFermatSpec)

/-- ITS FALSE NEIGHBOUR: 'it returns false'. Refute it at one input. -/
def fieldFermatWrong : ChangeSpec := { name := "fieldFermat", fn := fun _ => fun
  | [d] => { results := [.lit (.bool false)], args := [d] }
  | _ => none }
def FieldFermatWrongFalsely : Prop := fieldFermatRow.holds Try.pinned (OpenSpec.ofChange fieldFermatWrong)

/-- 'attestorlaw01.FieldRoots': WHATEVER THE INPUT: true; the input reads as it did. -/
def fieldRootsSpec : ChangeSpec := { name := "fieldRoots", fn := fun _ => fun
  | [d1, d2] => { results := [.lit (.bool true)], args := [d1, d2] }
  | _ => none }
def fieldRootsRow : OpenClaim := { program := "ytfebohbhahaopaa", sum := "d24947f6de0ecb4c5b13d64d12dcdccda5b587ec8c219ad2723b62a007065c12", func := "attestor/attestorlaw01.FieldRoots", spec := "fieldRoots", inPlace := ["math/bits.Sub64", "math/bits.Add64"], unfollowed := true, recurses := true, apart := false }
def FieldRootsSaid : Prop := fieldRootsRow.holds Try.pinned (OpenSpec.ofChange fieldRootsSpec)

/-- ITS FALSE NEIGHBOUR: 'it returns false'. Refute it at one input. -/
def fieldRootsWrong : ChangeSpec := { name := "fieldRoots", fn := fun _ => fun
  | [d1, d2] => { results := [.lit (.bool false)], args := [d1, d2] }
  | _ => none }
def FieldRootsWrongFalsely : Prop := fieldRootsRow.holds Try.pinned (OpenSpec.ofChange fieldRootsWrong)

/-- 'attestorlaw01.FieldIntegers': WHATEVER THE INPUT: true; the input reads as it did. -/
def fieldIntegersSpec : ChangeSpec := { name := "fieldIntegers", fn := fun _ => fun
  | [d1, d2] => { results := [.lit (.bool true)], args := [d1, d2] }
  | _ => none }
def fieldIntegersRow : OpenClaim := { program := "ytfebohbhahaopaa", sum := "d24947f6de0ecb4c5b13d64d12dcdccda5b587ec8c219ad2723b62a007065c12", func := "attestor/attestorlaw01.FieldIntegers", spec := "fieldIntegers", inPlace := ["math/bits.Sub64", "math/bits.Add64"], unfollowed := true, recurses := true, apart := false }
def FieldIntegersSaid : Prop := fieldIntegersRow.holds Try.pinned (OpenSpec.ofChange fieldIntegersSpec)

/-- ITS FALSE NEIGHBOUR: 'it returns false'. Refute it at one input. -/
def fieldIntegersWrong : ChangeSpec := { name := "fieldIntegers", fn := fun _ => fun
  | [d1, d2] => { results := [.lit (.bool false)], args := [d1, d2] }
  | _ => none }
def FieldIntegersWrongFalsely : Prop := fieldIntegersRow.holds Try.pinned (OpenSpec.ofChange fieldIntegersWrong)

/-- 'attestorlaw02.ExtMatchesReference': WHATEVER THE INPUT: true; the input reads as it did. -/
def extMatchesReferenceSpec : ChangeSpec := { name := "extMatchesReference", fn := fun _ => fun
  | [d1, d2, d3] => { results := [.lit (.bool true)], args := [d1, d2, d3] }
  | _ => none }
def extMatchesReferenceRow : OpenClaim := { program := "ytfebohbhahaopaa", sum := "d24947f6de0ecb4c5b13d64d12dcdccda5b587ec8c219ad2723b62a007065c12", func := "attestor/attestorlaw02.ExtMatchesReference", spec := "extMatchesReference", inPlace := ["math/bits.Sub64", "math/bits.Add64"], unfollowed := true, recurses := true, apart := false }
def ExtMatchesReferenceSaid : Prop := extMatchesReferenceRow.holds Try.pinned (OpenSpec.ofChange extMatchesReferenceSpec)

/-- ITS FALSE NEIGHBOUR: 'it returns false'. Refute it at one input. -/
def extMatchesReferenceWrong : ChangeSpec := { name := "extMatchesReference", fn := fun _ => fun
  | [d1, d2, d3] => { results := [.lit (.bool false)], args := [d1, d2, d3] }
  | _ => none }
def ExtMatchesReferenceWrongFalsely : Prop := extMatchesReferenceRow.holds Try.pinned (OpenSpec.ofChange extMatchesReferenceWrong)

/-- 'attestorlaw02.ExtAxioms': WHATEVER THE INPUT: true; the input reads as it did. -/
def extAxiomsSpec : ChangeSpec := { name := "extAxioms", fn := fun _ => fun
  | [d] => { results := [.lit (.bool true)], args := [d] }
  | _ => none }
def extAxiomsRow : OpenClaim := { program := "ytfebohbhahaopaa", sum := "d24947f6de0ecb4c5b13d64d12dcdccda5b587ec8c219ad2723b62a007065c12", func := "attestor/attestorlaw02.ExtAxioms", spec := "extAxioms", inPlace := ["math/bits.Sub64", "math/bits.Add64"], unfollowed := true, recurses := true, apart := false }
def ExtAxiomsSaid : Prop := extAxiomsRow.holds Try.pinned (OpenSpec.ofChange extAxiomsSpec)

/-- ITS FALSE NEIGHBOUR: 'it returns false'. Refute it at one input. -/
def extAxiomsWrong : ChangeSpec := { name := "extAxioms", fn := fun _ => fun
  | [d] => { results := [.lit (.bool false)], args := [d] }
  | _ => none }
def ExtAxiomsWrongFalsely : Prop := extAxiomsRow.holds Try.pinned (OpenSpec.ofChange extAxiomsWrong)

/-- 'attestorlaw02.ExtInverses': WHATEVER THE INPUT: true; the input reads as it did. -/
def extInversesSpec : ChangeSpec := { name := "extInverses", fn := fun _ => fun
  | [d] => { results := [.lit (.bool true)], args := [d] }
  | _ => none }
def extInversesRow : OpenClaim := { program := "ytfebohbhahaopaa", sum := "d24947f6de0ecb4c5b13d64d12dcdccda5b587ec8c219ad2723b62a007065c12", func := "attestor/attestorlaw02.ExtInverses", spec := "extInverses", inPlace := ["math/bits.Sub64", "math/bits.Add64"], unfollowed := true, recurses := true, apart := false }
def ExtInversesSaid : Prop := extInversesRow.holds Try.pinned (OpenSpec.ofChange extInversesSpec)

/-- ITS FALSE NEIGHBOUR: 'it returns false'. Refute it at one input. -/
def extInversesWrong : ChangeSpec := { name := "extInverses", fn := fun _ => fun
  | [d] => { results := [.lit (.bool false)], args := [d] }
  | _ => none }
def ExtInversesWrongFalsely : Prop := extInversesRow.holds Try.pinned (OpenSpec.ofChange extInversesWrong)

/-- 'attestorlaw02.ExtConjugation': WHATEVER THE INPUT: true; the input reads as it did. -/
def extConjugationSpec : ChangeSpec := { name := "extConjugation", fn := fun _ => fun
  | [d] => { results := [.lit (.bool true)], args := [d] }
  | _ => none }
def extConjugationRow : OpenClaim := { program := "ytfebohbhahaopaa", sum := "d24947f6de0ecb4c5b13d64d12dcdccda5b587ec8c219ad2723b62a007065c12", func := "attestor/attestorlaw02.ExtConjugation", spec := "extConjugation", inPlace := ["math/bits.Sub64", "math/bits.Add64"], unfollowed := true, recurses := true, apart := false }
def ExtConjugationSaid : Prop := extConjugationRow.holds Try.pinned (OpenSpec.ofChange extConjugationSpec)

/-- ITS FALSE NEIGHBOUR: 'it returns false'. Refute it at one input. -/
def extConjugationWrong : ChangeSpec := { name := "extConjugation", fn := fun _ => fun
  | [d] => { results := [.lit (.bool false)], args := [d] }
  | _ => none }
def ExtConjugationWrongFalsely : Prop := extConjugationRow.holds Try.pinned (OpenSpec.ofChange extConjugationWrong)

/-- 'attestorlaw02.ExtPowers': WHATEVER THE INPUT: true; the input reads as it did. -/
def extPowersSpec : ChangeSpec := { name := "extPowers", fn := fun _ => fun
  | [d1, d2, d3] => { results := [.lit (.bool true)], args := [d1, d2, d3] }
  | _ => none }
def extPowersRow : OpenClaim := { program := "ytfebohbhahaopaa", sum := "d24947f6de0ecb4c5b13d64d12dcdccda5b587ec8c219ad2723b62a007065c12", func := "attestor/attestorlaw02.ExtPowers", spec := "extPowers", inPlace := ["math/bits.Sub64", "math/bits.Add64"], unfollowed := true, recurses := true, apart := false }
def ExtPowersSaid : Prop := extPowersRow.holds Try.pinned (OpenSpec.ofChange extPowersSpec)

/-- ITS FALSE NEIGHBOUR: 'it returns false'. Refute it at one input. -/
def extPowersWrong : ChangeSpec := { name := "extPowers", fn := fun _ => fun
  | [d1, d2, d3] => { results := [.lit (.bool false)], args := [d1, d2, d3] }
  | _ => none }
def ExtPowersWrongFalsely : Prop := extPowersRow.holds Try.pinned (OpenSpec.ofChange extPowersWrong)

/-- 'attestorlaw02.ExtBaseField': WHATEVER THE INPUT: true; the input reads as it did. -/
def extBaseFieldSpec : ChangeSpec := { name := "extBaseField", fn := fun _ => fun
  | [d1, d2, d3] => { results := [.lit (.bool true)], args := [d1, d2, d3] }
  | _ => none }
def extBaseFieldRow : OpenClaim := { program := "ytfebohbhahaopaa", sum := "d24947f6de0ecb4c5b13d64d12dcdccda5b587ec8c219ad2723b62a007065c12", func := "attestor/attestorlaw02.ExtBaseField", spec := "extBaseField", inPlace := ["math/bits.Sub64", "math/bits.Add64"], unfollowed := true, recurses := true, apart := false }
def ExtBaseFieldSaid : Prop := extBaseFieldRow.holds Try.pinned (OpenSpec.ofChange extBaseFieldSpec)

/-- ITS FALSE NEIGHBOUR: 'it returns false'. Refute it at one input. -/
def extBaseFieldWrong : ChangeSpec := { name := "extBaseField", fn := fun _ => fun
  | [d1, d2, d3] => { results := [.lit (.bool false)], args := [d1, d2, d3] }
  | _ => none }
def ExtBaseFieldWrongFalsely : Prop := extBaseFieldRow.holds Try.pinned (OpenSpec.ofChange extBaseFieldWrong)

/-- 'attestorlaw02.ExtSquareRoots': WHATEVER THE INPUT: true; the input reads as it did. -/
def extSquareRootsSpec : ChangeSpec := { name := "extSquareRoots", fn := fun _ => fun
  | [d1, d2] => { results := [.lit (.bool true)], args := [d1, d2] }
  | _ => none }
def extSquareRootsRow : OpenClaim := { program := "ytfebohbhahaopaa", sum := "d24947f6de0ecb4c5b13d64d12dcdccda5b587ec8c219ad2723b62a007065c12", func := "attestor/attestorlaw02.ExtSquareRoots", spec := "extSquareRoots", inPlace := ["math/bits.Sub64", "math/bits.Add64"], unfollowed := true, recurses := true, apart := false }
def ExtSquareRootsSaid : Prop := extSquareRootsRow.holds Try.pinned (OpenSpec.ofChange extSquareRootsSpec)

/-- ITS FALSE NEIGHBOUR: 'it returns false'. Refute it at one input. -/
def extSquareRootsWrong : ChangeSpec := { name := "extSquareRoots", fn := fun _ => fun
  | [d1, d2] => { results := [.lit (.bool false)], args := [d1, d2] }
  | _ => none }
def ExtSquareRootsWrongFalsely : Prop := extSquareRootsRow.holds Try.pinned (OpenSpec.ofChange extSquareRootsWrong)

/-- 'attestorlaw02.ExtComponents': WHATEVER THE INPUT: true; the input reads as it did. -/
def extComponentsSpec : ChangeSpec := { name := "extComponents", fn := fun _ => fun
  | [d] => { results := [.lit (.bool true)], args := [d] }
  | _ => none }
def extComponentsRow : OpenClaim := { program := "ytfebohbhahaopaa", sum := "d24947f6de0ecb4c5b13d64d12dcdccda5b587ec8c219ad2723b62a007065c12", func := "attestor/attestorlaw02.ExtComponents", spec := "extComponents", inPlace := ["math/bits.Sub64", "math/bits.Add64"], unfollowed := true, recurses := true, apart := false }
def ExtComponentsSaid : Prop := extComponentsRow.holds Try.pinned (OpenSpec.ofChange extComponentsSpec)

/-- ITS FALSE NEIGHBOUR: 'it returns false'. Refute it at one input. -/
def extComponentsWrong : ChangeSpec := { name := "extComponents", fn := fun _ => fun
  | [d] => { results := [.lit (.bool false)], args := [d] }
  | _ => none }
def ExtComponentsWrongFalsely : Prop := extComponentsRow.holds Try.pinned (OpenSpec.ofChange extComponentsWrong)

/- THE SECOND FORM. 'bulk': how many values and letters a reading holds, each counted each time it is reached (what is shared counts as often as it is met; a slice's spare places count too). A statement '..UptoSaid' is the law's where the arguments, and the package variables that the reading takes, are together of bulk at most 1048576: NARROWER than '..Said'. Prove '..Said' where nothing that the law and all that it calls make is longer than what came in: it says more and counts as full. Else prove '..UptoSaid'. A law counts once. -/
mutual
def uptoBulk {H : Type} : DataW H → Nat
  | .lit (.string bytes) => bytes.length + 1
  | .lit _ => 1
  | .nil => 1
  | .ptr d => uptoBulk d + 1
  | .slice elems spare => uptoBulkAll elems + uptoBulkAll spare + 1
  | .agg parts => uptoBulkAll parts + 1
  | .iface _ d => uptoBulk d + 1
  | .map entries => uptoBulkEntries entries + 1
  | .held _ => 1
def uptoBulkAll {H : Type} : List (DataW H) → Nat
  | [] => 0
  | d :: r => uptoBulk d + uptoBulkAll r
def uptoBulkEntries {H : Type} : List (Lit × DataW H) → Nat
  | [] => 0
  | x :: r => uptoBulkEntry x + uptoBulkEntries r
def uptoBulkEntry {H : Type} : Lit × DataW H → Nat
  | (.string bytes, d) => bytes.length + uptoBulk d + 1
  | (_, d) => uptoBulk d + 1
 end
def uptoSmall : (H : Type) → List (DataW H) → Bool := fun _ ds => decide (uptoBulkAll ds ≤ 1048576)
def OpenSpec.upto (s : _root_.Go.ChangeSpec) : _root_.Go.OpenSpec := { _root_.Go.OpenSpec.ofChange s with cond := some uptoSmall }

/-- 'attestorlaw01.FieldMatchesReference', WHERE WHAT IT READS IS OF BULK AT MOST 1048576: true; the input reads as it did. -/
def fieldMatchesReferenceUptoRow : OpenClaim := { program := "ytfebohbhahaopaa", sum := "d24947f6de0ecb4c5b13d64d12dcdccda5b587ec8c219ad2723b62a007065c12", func := "attestor/attestorlaw01.FieldMatchesReference", spec := "fieldMatchesReference", inPlace := ["math/bits.Sub64", "math/bits.Add64"], unfollowed := true, recurses := true, apart := false, narrowed := true }
def FieldMatchesReferenceUptoSaid : Prop := fieldMatchesReferenceUptoRow.holds Try.pinned (OpenSpec.upto fieldMatchesReferenceSpec)

/-- 'attestorlaw01.FieldRing', WHERE WHAT IT READS IS OF BULK AT MOST 1048576: true; the input reads as it did. -/
def fieldRingUptoRow : OpenClaim := { program := "ytfebohbhahaopaa", sum := "d24947f6de0ecb4c5b13d64d12dcdccda5b587ec8c219ad2723b62a007065c12", func := "attestor/attestorlaw01.FieldRing", spec := "fieldRing", inPlace := ["math/bits.Sub64", "math/bits.Add64"], unfollowed := true, recurses := true, apart := false, narrowed := true }
def FieldRingUptoSaid : Prop := fieldRingUptoRow.holds Try.pinned (OpenSpec.upto fieldRingSpec)

/-- 'attestorlaw01.FieldNegatives', WHERE WHAT IT READS IS OF BULK AT MOST 1048576: true; the input reads as it did. -/
def fieldNegativesUptoRow : OpenClaim := { program := "ytfebohbhahaopaa", sum := "d24947f6de0ecb4c5b13d64d12dcdccda5b587ec8c219ad2723b62a007065c12", func := "attestor/attestorlaw01.FieldNegatives", spec := "fieldNegatives", inPlace := ["math/bits.Sub64", "math/bits.Add64"], unfollowed := true, recurses := true, apart := false, narrowed := true }
def FieldNegativesUptoSaid : Prop := fieldNegativesUptoRow.holds Try.pinned (OpenSpec.upto fieldNegativesSpec)

/-- 'attestorlaw01.FieldInverses', WHERE WHAT IT READS IS OF BULK AT MOST 1048576: true; the input reads as it did. -/
def fieldInversesUptoRow : OpenClaim := { program := "ytfebohbhahaopaa", sum := "d24947f6de0ecb4c5b13d64d12dcdccda5b587ec8c219ad2723b62a007065c12", func := "attestor/attestorlaw01.FieldInverses", spec := "fieldInverses", inPlace := ["math/bits.Sub64", "math/bits.Add64"], unfollowed := true, recurses := true, apart := false, narrowed := true }
def FieldInversesUptoSaid : Prop := fieldInversesUptoRow.holds Try.pinned (OpenSpec.upto fieldInversesSpec)

/-- 'attestorlaw01.FieldPowers', WHERE WHAT IT READS IS OF BULK AT MOST 1048576: true; the input reads as it did. -/
def fieldPowersUptoRow : OpenClaim := { program := "ytfebohbhahaopaa", sum := "d24947f6de0ecb4c5b13d64d12dcdccda5b587ec8c219ad2723b62a007065c12", func := "attestor/attestorlaw01.FieldPowers", spec := "fieldPowers", inPlace := ["math/bits.Sub64", "math/bits.Add64"], unfollowed := true, recurses := true, apart := false, narrowed := true }
def FieldPowersUptoSaid : Prop := fieldPowersUptoRow.holds Try.pinned (OpenSpec.upto fieldPowersSpec)

/-- 'attestorlaw01.FieldFermat', WHERE WHAT IT READS IS OF BULK AT MOST 1048576: true; the input reads as it did. -/
def fieldFermatUptoRow : OpenClaim := { program := "ytfebohbhahaopaa", sum := "d24947f6de0ecb4c5b13d64d12dcdccda5b587ec8c219ad2723b62a007065c12", func := "attestor/attestorlaw01.FieldFermat", spec := "fieldFermat", inPlace := ["math/bits.Sub64", "math/bits.Add64"], unfollowed := true, recurses := true, apart := false, narrowed := true }
def FieldFermatUptoSaid : Prop := fieldFermatUptoRow.holds Try.pinned (OpenSpec.upto fieldFermatSpec)

/-- 'attestorlaw01.FieldRoots', WHERE WHAT IT READS IS OF BULK AT MOST 1048576: true; the input reads as it did. -/
def fieldRootsUptoRow : OpenClaim := { program := "ytfebohbhahaopaa", sum := "d24947f6de0ecb4c5b13d64d12dcdccda5b587ec8c219ad2723b62a007065c12", func := "attestor/attestorlaw01.FieldRoots", spec := "fieldRoots", inPlace := ["math/bits.Sub64", "math/bits.Add64"], unfollowed := true, recurses := true, apart := false, narrowed := true }
def FieldRootsUptoSaid : Prop := fieldRootsUptoRow.holds Try.pinned (OpenSpec.upto fieldRootsSpec)

/-- 'attestorlaw01.FieldIntegers', WHERE WHAT IT READS IS OF BULK AT MOST 1048576: true; the input reads as it did. -/
def fieldIntegersUptoRow : OpenClaim := { program := "ytfebohbhahaopaa", sum := "d24947f6de0ecb4c5b13d64d12dcdccda5b587ec8c219ad2723b62a007065c12", func := "attestor/attestorlaw01.FieldIntegers", spec := "fieldIntegers", inPlace := ["math/bits.Sub64", "math/bits.Add64"], unfollowed := true, recurses := true, apart := false, narrowed := true }
def FieldIntegersUptoSaid : Prop := fieldIntegersUptoRow.holds Try.pinned (OpenSpec.upto fieldIntegersSpec)

/-- 'attestorlaw02.ExtMatchesReference', WHERE WHAT IT READS IS OF BULK AT MOST 1048576: true; the input reads as it did. -/
def extMatchesReferenceUptoRow : OpenClaim := { program := "ytfebohbhahaopaa", sum := "d24947f6de0ecb4c5b13d64d12dcdccda5b587ec8c219ad2723b62a007065c12", func := "attestor/attestorlaw02.ExtMatchesReference", spec := "extMatchesReference", inPlace := ["math/bits.Sub64", "math/bits.Add64"], unfollowed := true, recurses := true, apart := false, narrowed := true }
def ExtMatchesReferenceUptoSaid : Prop := extMatchesReferenceUptoRow.holds Try.pinned (OpenSpec.upto extMatchesReferenceSpec)

/-- 'attestorlaw02.ExtAxioms', WHERE WHAT IT READS IS OF BULK AT MOST 1048576: true; the input reads as it did. -/
def extAxiomsUptoRow : OpenClaim := { program := "ytfebohbhahaopaa", sum := "d24947f6de0ecb4c5b13d64d12dcdccda5b587ec8c219ad2723b62a007065c12", func := "attestor/attestorlaw02.ExtAxioms", spec := "extAxioms", inPlace := ["math/bits.Sub64", "math/bits.Add64"], unfollowed := true, recurses := true, apart := false, narrowed := true }
def ExtAxiomsUptoSaid : Prop := extAxiomsUptoRow.holds Try.pinned (OpenSpec.upto extAxiomsSpec)

/-- 'attestorlaw02.ExtInverses', WHERE WHAT IT READS IS OF BULK AT MOST 1048576: true; the input reads as it did. -/
def extInversesUptoRow : OpenClaim := { program := "ytfebohbhahaopaa", sum := "d24947f6de0ecb4c5b13d64d12dcdccda5b587ec8c219ad2723b62a007065c12", func := "attestor/attestorlaw02.ExtInverses", spec := "extInverses", inPlace := ["math/bits.Sub64", "math/bits.Add64"], unfollowed := true, recurses := true, apart := false, narrowed := true }
def ExtInversesUptoSaid : Prop := extInversesUptoRow.holds Try.pinned (OpenSpec.upto extInversesSpec)

/-- 'attestorlaw02.ExtConjugation', WHERE WHAT IT READS IS OF BULK AT MOST 1048576: true; the input reads as it did. -/
def extConjugationUptoRow : OpenClaim := { program := "ytfebohbhahaopaa", sum := "d24947f6de0ecb4c5b13d64d12dcdccda5b587ec8c219ad2723b62a007065c12", func := "attestor/attestorlaw02.ExtConjugation", spec := "extConjugation", inPlace := ["math/bits.Sub64", "math/bits.Add64"], unfollowed := true, recurses := true, apart := false, narrowed := true }
def ExtConjugationUptoSaid : Prop := extConjugationUptoRow.holds Try.pinned (OpenSpec.upto extConjugationSpec)

/-- 'attestorlaw02.ExtPowers', WHERE WHAT IT READS IS OF BULK AT MOST 1048576: true; the input reads as it did. -/
def extPowersUptoRow : OpenClaim := { program := "ytfebohbhahaopaa", sum := "d24947f6de0ecb4c5b13d64d12dcdccda5b587ec8c219ad2723b62a007065c12", func := "attestor/attestorlaw02.ExtPowers", spec := "extPowers", inPlace := ["math/bits.Sub64", "math/bits.Add64"], unfollowed := true, recurses := true, apart := false, narrowed := true }
def ExtPowersUptoSaid : Prop := extPowersUptoRow.holds Try.pinned (OpenSpec.upto extPowersSpec)

/-- 'attestorlaw02.ExtBaseField', WHERE WHAT IT READS IS OF BULK AT MOST 1048576: true; the input reads as it did. -/
def extBaseFieldUptoRow : OpenClaim := { program := "ytfebohbhahaopaa", sum := "d24947f6de0ecb4c5b13d64d12dcdccda5b587ec8c219ad2723b62a007065c12", func := "attestor/attestorlaw02.ExtBaseField", spec := "extBaseField", inPlace := ["math/bits.Sub64", "math/bits.Add64"], unfollowed := true, recurses := true, apart := false, narrowed := true }
def ExtBaseFieldUptoSaid : Prop := extBaseFieldUptoRow.holds Try.pinned (OpenSpec.upto extBaseFieldSpec)

/-- 'attestorlaw02.ExtSquareRoots', WHERE WHAT IT READS IS OF BULK AT MOST 1048576: true; the input reads as it did. -/
def extSquareRootsUptoRow : OpenClaim := { program := "ytfebohbhahaopaa", sum := "d24947f6de0ecb4c5b13d64d12dcdccda5b587ec8c219ad2723b62a007065c12", func := "attestor/attestorlaw02.ExtSquareRoots", spec := "extSquareRoots", inPlace := ["math/bits.Sub64", "math/bits.Add64"], unfollowed := true, recurses := true, apart := false, narrowed := true }
def ExtSquareRootsUptoSaid : Prop := extSquareRootsUptoRow.holds Try.pinned (OpenSpec.upto extSquareRootsSpec)

/-- 'attestorlaw02.ExtComponents', WHERE WHAT IT READS IS OF BULK AT MOST 1048576: true; the input reads as it did. -/
def extComponentsUptoRow : OpenClaim := { program := "ytfebohbhahaopaa", sum := "d24947f6de0ecb4c5b13d64d12dcdccda5b587ec8c219ad2723b62a007065c12", func := "attestor/attestorlaw02.ExtComponents", spec := "extComponents", inPlace := ["math/bits.Sub64", "math/bits.Add64"], unfollowed := true, recurses := true, apart := false, narrowed := true }
def ExtComponentsUptoSaid : Prop := extComponentsUptoRow.holds Try.pinned (OpenSpec.upto extComponentsSpec)

end Rows
end Go.Proofs.Ytfebohbhahaopaa
