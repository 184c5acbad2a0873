/-
  DERIVED. GIVEN WITH THE SEED: THE CARDS: each row of YtgambglgkilgkaaGreatDoorRows.lean that lists a variable, with what it lists TIED to the program's text (the seventh form; the later family's looks); each row that meets fmt, with fmt's text TOLD by the authors' own Lean function (tested against real Go, not proved from fmt's source: count such statements apart). THE CARD IS WHAT COUNTS. Prove the row's statement (the work); the ties are given (YtgambglgkilgkaaGreatDoorTie.lean); close each card by the builder's one call (the guide's Derived/Test/ToyasCard.lean, 'card_holds'). Laid BY PROGRAM, IN A SANDBOX (cutbox-door.mjs). By AI agents, Wed Nov 11 2026. No macro, syntax, notation, axiom, sorry.
-/
import Derived.Test.YtgambglgkilgkaaGreatDoorRows
import GoSem.ClaimSeven
namespace Go.Proofs.YtgambglgkilgkaaGreatDoor
namespace Rows

/-- THE TIED CARD OF 'attestortop.TopCodewordsAgreeRarely'. -/
def topCodewordsAgreeRarelyCard : Claim7 := { stood := { row := topCodewordsAgreeRarelyRow, standIns := [], harness := (true, "be41e43464bcc4ace283a5281668bb9e7df2adfc35b7dfd4e3f0b42bd2bb876f"), looks := true }, kinds := [], alts := [], laidByText := true, laidKinds := [.data, .data, .data, .sentinel, .sentinel, .mapped], laidTests := true, laidLooks := .later }
def TopCodewordsAgreeRarelyCardSaid : Prop := Claim7.holds Tryz.pinned (.plain (OpenSpec.ofChange topCodewordsAgreeRarelySpec)) topCodewordsAgreeRarelyCard

/-- THE SECOND FORM's CARD OF 'attestortop.TopCodewordsAgreeRarely'. -/
def topCodewordsAgreeRarelyUptoCard : Claim7 := { stood := { row := topCodewordsAgreeRarelyUptoRow, standIns := [], harness := (true, "be41e43464bcc4ace283a5281668bb9e7df2adfc35b7dfd4e3f0b42bd2bb876f"), looks := true }, kinds := [], alts := [], laidByText := true, laidKinds := [.data, .data, .data, .sentinel, .sentinel, .mapped], laidTests := true, laidLooks := .later }
def TopCodewordsAgreeRarelyUptoCardSaid : Prop := Claim7.holds Tryz.pinned (.plain (OpenSpec.upto topCodewordsAgreeRarelySpec)) topCodewordsAgreeRarelyUptoCard
end Rows
end Go.Proofs.YtgambglgkilgkaaGreatDoor
