/-
  DERIVED. GIVEN WITH THE SEED: THE CARDS: each row of YtbfblckgcefaaaaGreatDoorRows.lean that lists a variable, with what it lists TIED to the program's text (the seventh form; the later family's looks); each row that meets fmt, with fmt's text TOLD by the authors' own Lean function (tested against real Go, not proved from fmt's source: count such statements apart). THE CARD IS WHAT COUNTS. Prove the row's statement (the work); the ties are given (YtbfblckgcefaaaaGreatDoorTie.lean); close each card by the builder's one call (the guide's Derived/Test/ToyasCard.lean, 'card_holds'). Laid BY PROGRAM, IN A SANDBOX (cutbox-door.mjs). By AI agents, Wed Nov 11 2026. No macro, syntax, notation, axiom, sorry.
-/
import Derived.Test.YtbfblckgcefaaaaGreatDoorRows
import GoSem.ClaimSeven
namespace Go.Proofs.YtbfblckgcefaaaaGreatDoor
namespace Rows

/-- THE TIED CARD OF 'attestorlaw09.ReedsolomonDecodeMatchesReference'. -/
def reedsolomonDecodeMatchesReferenceCard : Claim7 := { stood := { row := reedsolomonDecodeMatchesReferenceRow, standIns := [], harness := (true, "d3f17aacae12b9724631ca9ceb726d9361fd111a1f7786f9706ceac6b8e9ef7b"), looks := false }, kinds := [], alts := [], laidByText := true, laidKinds := [.data, .data], laidTests := true, laidLooks := .later }
def ReedsolomonDecodeMatchesReferenceCardSaid : Prop := Claim7.holds Tryz.pinned (.plain (OpenSpec.ofChange reedsolomonDecodeMatchesReferenceSpec)) reedsolomonDecodeMatchesReferenceCard

/-- THE TIED CARD OF 'attestorlaw09.ReedsolomonMatchesReference'. -/
def reedsolomonMatchesReferenceCard : Claim7 := { stood := { row := reedsolomonMatchesReferenceRow, standIns := [], harness := (true, "d3f17aacae12b9724631ca9ceb726d9361fd111a1f7786f9706ceac6b8e9ef7b"), looks := false }, kinds := [], alts := [], laidByText := true, laidKinds := [.data, .data], laidTests := true, laidLooks := .later }
def ReedsolomonMatchesReferenceCardSaid : Prop := Claim7.holds Tryz.pinned (.plain (OpenSpec.ofChange reedsolomonMatchesReferenceSpec)) reedsolomonMatchesReferenceCard

/-- THE SECOND FORM's CARD OF 'attestorlaw09.ReedsolomonDecodeMatchesReference'. -/
def reedsolomonDecodeMatchesReferenceUptoCard : Claim7 := { stood := { row := reedsolomonDecodeMatchesReferenceUptoRow, standIns := [], harness := (true, "d3f17aacae12b9724631ca9ceb726d9361fd111a1f7786f9706ceac6b8e9ef7b"), looks := false }, kinds := [], alts := [], laidByText := true, laidKinds := [.data, .data], laidTests := true, laidLooks := .later }
def ReedsolomonDecodeMatchesReferenceUptoCardSaid : Prop := Claim7.holds Tryz.pinned (.plain (OpenSpec.upto reedsolomonDecodeMatchesReferenceSpec)) reedsolomonDecodeMatchesReferenceUptoCard

/-- THE SECOND FORM's CARD OF 'attestorlaw09.ReedsolomonMatchesReference'. -/
def reedsolomonMatchesReferenceUptoCard : Claim7 := { stood := { row := reedsolomonMatchesReferenceUptoRow, standIns := [], harness := (true, "d3f17aacae12b9724631ca9ceb726d9361fd111a1f7786f9706ceac6b8e9ef7b"), looks := false }, kinds := [], alts := [], laidByText := true, laidKinds := [.data, .data], laidTests := true, laidLooks := .later }
def ReedsolomonMatchesReferenceUptoCardSaid : Prop := Claim7.holds Tryz.pinned (.plain (OpenSpec.upto reedsolomonMatchesReferenceSpec)) reedsolomonMatchesReferenceUptoCard
end Rows
end Go.Proofs.YtbfblckgcefaaaaGreatDoor
