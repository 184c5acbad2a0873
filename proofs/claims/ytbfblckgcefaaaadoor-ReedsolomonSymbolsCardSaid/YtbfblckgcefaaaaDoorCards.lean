/-
  DERIVED. GIVEN WITH THE SEED: THE CARDS: each row of YtbfblckgcefaaaaDoorRows.lean that lists a variable, with what it lists TIED to the program's text (the seventh form; the later family's looks); each row that meets fmt, with fmt's text TOLD by the authors' own Lean function (tested against real Go, not proved from fmt's source: count such statements apart). THE CARD IS WHAT COUNTS. Prove the row's statement (the work); the ties are given (YtbfblckgcefaaaaDoorTie.lean); close each card by the builder's one call (the guide's Derived/Test/ToyasCard.lean, 'card_holds'). Laid BY PROGRAM, IN A SANDBOX (cutbox-door.mjs). By AI agents, Wed Nov 11 2026. No macro, syntax, notation, axiom, sorry.
-/
import Derived.Test.YtbfblckgcefaaaaDoorRows
import GoSem.ClaimSeven
namespace Go.Proofs.YtbfblckgcefaaaaDoor
namespace Rows

/-- THE TIED CARD OF 'attestorlaw09.ReedsolomonLinearity'. -/
def reedsolomonLinearityCard : Claim7 := { stood := { row := reedsolomonLinearityRow, standIns := [], harness := (true, "34c9c07d4308b6546da83a53f0994171fc78612fe93c12c8da99f775973f59b0"), looks := false }, kinds := [], alts := [], laidByText := true, laidKinds := [.data, .data], laidTests := true, laidLooks := .later }
def ReedsolomonLinearityCardSaid : Prop := Claim7.holds Tryd.pinned (.plain (OpenSpec.ofChange reedsolomonLinearitySpec)) reedsolomonLinearityCard

/-- THE TIED CARD OF 'attestorlaw09.ReedsolomonMinDistance'. -/
def reedsolomonMinDistanceCard : Claim7 := { stood := { row := reedsolomonMinDistanceRow, standIns := [], harness := (true, "34c9c07d4308b6546da83a53f0994171fc78612fe93c12c8da99f775973f59b0"), looks := false }, kinds := [], alts := [], laidByText := true, laidKinds := [.data, .data], laidTests := true, laidLooks := .later }
def ReedsolomonMinDistanceCardSaid : Prop := Claim7.holds Tryd.pinned (.plain (OpenSpec.ofChange reedsolomonMinDistanceSpec)) reedsolomonMinDistanceCard

/-- THE TIED CARD OF 'attestorlaw09.ReedsolomonDecodes'. -/
def reedsolomonDecodesCard : Claim7 := { stood := { row := reedsolomonDecodesRow, standIns := [], harness := (true, "34c9c07d4308b6546da83a53f0994171fc78612fe93c12c8da99f775973f59b0"), looks := false }, kinds := [], alts := [], laidByText := true, laidKinds := [.data, .data], laidTests := true, laidLooks := .later }
def ReedsolomonDecodesCardSaid : Prop := Claim7.holds Tryd.pinned (.plain (OpenSpec.ofChange reedsolomonDecodesSpec)) reedsolomonDecodesCard

/-- THE TIED CARD OF 'attestorlaw09.ReedsolomonDecodesNearest'. -/
def reedsolomonDecodesNearestCard : Claim7 := { stood := { row := reedsolomonDecodesNearestRow, standIns := [], harness := (true, "34c9c07d4308b6546da83a53f0994171fc78612fe93c12c8da99f775973f59b0"), looks := false }, kinds := [], alts := [], laidByText := true, laidKinds := [.data, .data], laidTests := true, laidLooks := .later }
def ReedsolomonDecodesNearestCardSaid : Prop := Claim7.holds Tryd.pinned (.plain (OpenSpec.ofChange reedsolomonDecodesNearestSpec)) reedsolomonDecodesNearestCard

/-- THE TIED CARD OF 'attestorlaw09.ReedsolomonRecognizes'. -/
def reedsolomonRecognizesCard : Claim7 := { stood := { row := reedsolomonRecognizesRow, standIns := [], harness := (true, "34c9c07d4308b6546da83a53f0994171fc78612fe93c12c8da99f775973f59b0"), looks := false }, kinds := [], alts := [], laidByText := true, laidKinds := [.data, .data], laidTests := true, laidLooks := .later }
def ReedsolomonRecognizesCardSaid : Prop := Claim7.holds Tryd.pinned (.plain (OpenSpec.ofChange reedsolomonRecognizesSpec)) reedsolomonRecognizesCard

/-- THE TIED CARD OF 'attestorlaw09.ReedsolomonSymbols'. -/
def reedsolomonSymbolsCard : Claim7 := { stood := { row := reedsolomonSymbolsRow, standIns := [], harness := (true, "34c9c07d4308b6546da83a53f0994171fc78612fe93c12c8da99f775973f59b0"), looks := false }, kinds := [], alts := [], laidByText := true, laidKinds := [.data, .data], laidTests := true, laidLooks := .later }
def ReedsolomonSymbolsCardSaid : Prop := Claim7.holds Tryd.pinned (.plain (OpenSpec.ofChange reedsolomonSymbolsSpec)) reedsolomonSymbolsCard

/-- THE SECOND FORM's CARD OF 'attestorlaw09.ReedsolomonLinearity'. -/
def reedsolomonLinearityUptoCard : Claim7 := { stood := { row := reedsolomonLinearityUptoRow, standIns := [], harness := (true, "34c9c07d4308b6546da83a53f0994171fc78612fe93c12c8da99f775973f59b0"), looks := false }, kinds := [], alts := [], laidByText := true, laidKinds := [.data, .data], laidTests := true, laidLooks := .later }
def ReedsolomonLinearityUptoCardSaid : Prop := Claim7.holds Tryd.pinned (.plain (OpenSpec.upto reedsolomonLinearitySpec)) reedsolomonLinearityUptoCard

/-- THE SECOND FORM's CARD OF 'attestorlaw09.ReedsolomonMinDistance'. -/
def reedsolomonMinDistanceUptoCard : Claim7 := { stood := { row := reedsolomonMinDistanceUptoRow, standIns := [], harness := (true, "34c9c07d4308b6546da83a53f0994171fc78612fe93c12c8da99f775973f59b0"), looks := false }, kinds := [], alts := [], laidByText := true, laidKinds := [.data, .data], laidTests := true, laidLooks := .later }
def ReedsolomonMinDistanceUptoCardSaid : Prop := Claim7.holds Tryd.pinned (.plain (OpenSpec.upto reedsolomonMinDistanceSpec)) reedsolomonMinDistanceUptoCard

/-- THE SECOND FORM's CARD OF 'attestorlaw09.ReedsolomonDecodes'. -/
def reedsolomonDecodesUptoCard : Claim7 := { stood := { row := reedsolomonDecodesUptoRow, standIns := [], harness := (true, "34c9c07d4308b6546da83a53f0994171fc78612fe93c12c8da99f775973f59b0"), looks := false }, kinds := [], alts := [], laidByText := true, laidKinds := [.data, .data], laidTests := true, laidLooks := .later }
def ReedsolomonDecodesUptoCardSaid : Prop := Claim7.holds Tryd.pinned (.plain (OpenSpec.upto reedsolomonDecodesSpec)) reedsolomonDecodesUptoCard

/-- THE SECOND FORM's CARD OF 'attestorlaw09.ReedsolomonDecodesNearest'. -/
def reedsolomonDecodesNearestUptoCard : Claim7 := { stood := { row := reedsolomonDecodesNearestUptoRow, standIns := [], harness := (true, "34c9c07d4308b6546da83a53f0994171fc78612fe93c12c8da99f775973f59b0"), looks := false }, kinds := [], alts := [], laidByText := true, laidKinds := [.data, .data], laidTests := true, laidLooks := .later }
def ReedsolomonDecodesNearestUptoCardSaid : Prop := Claim7.holds Tryd.pinned (.plain (OpenSpec.upto reedsolomonDecodesNearestSpec)) reedsolomonDecodesNearestUptoCard

/-- THE SECOND FORM's CARD OF 'attestorlaw09.ReedsolomonRecognizes'. -/
def reedsolomonRecognizesUptoCard : Claim7 := { stood := { row := reedsolomonRecognizesUptoRow, standIns := [], harness := (true, "34c9c07d4308b6546da83a53f0994171fc78612fe93c12c8da99f775973f59b0"), looks := false }, kinds := [], alts := [], laidByText := true, laidKinds := [.data, .data], laidTests := true, laidLooks := .later }
def ReedsolomonRecognizesUptoCardSaid : Prop := Claim7.holds Tryd.pinned (.plain (OpenSpec.upto reedsolomonRecognizesSpec)) reedsolomonRecognizesUptoCard

/-- THE SECOND FORM's CARD OF 'attestorlaw09.ReedsolomonSymbols'. -/
def reedsolomonSymbolsUptoCard : Claim7 := { stood := { row := reedsolomonSymbolsUptoRow, standIns := [], harness := (true, "34c9c07d4308b6546da83a53f0994171fc78612fe93c12c8da99f775973f59b0"), looks := false }, kinds := [], alts := [], laidByText := true, laidKinds := [.data, .data], laidTests := true, laidLooks := .later }
def ReedsolomonSymbolsUptoCardSaid : Prop := Claim7.holds Tryd.pinned (.plain (OpenSpec.upto reedsolomonSymbolsSpec)) reedsolomonSymbolsUptoCard
end Rows
end Go.Proofs.YtbfblckgcefaaaaDoor
