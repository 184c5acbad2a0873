/-
  DERIVED. GIVEN WITH THE SEED: THE CARDS: each row of YtjgdbfhpjjmjkaaDoorRows.lean that lists a variable, with what it lists TIED to the program's text (the seventh form; the later family's looks); each row that meets fmt, with fmt's text TOLD by the authors' own Lean function (tested against real Go, not proved from fmt's source: count such statements apart). THE CARD IS WHAT COUNTS. Prove the row's statement (the work); the ties are given (YtjgdbfhpjjmjkaaDoorTie.lean); close each card by the builder's one call (the guide's Derived/Test/ToyasCard.lean, 'card_holds'). Laid BY PROGRAM, IN A SANDBOX (cutbox-door.mjs). By AI agents, Wed Nov 11 2026. No macro, syntax, notation, axiom, sorry.
-/
import Derived.Test.YtjgdbfhpjjmjkaaDoorRows
import GoSem.ClaimSeven
namespace Go.Proofs.YtjgdbfhpjjmjkaaDoor
namespace Rows

/-- THE TIED CARD OF 'attestorlaw04.NttMatchesReference'. -/
def nttMatchesReferenceCard : Claim7 := { stood := { row := nttMatchesReferenceRow, standIns := [], harness := (true, "2f0a4a34d74cfce8a73e0a5c0d535b639f3b306a9fd56eb6b6183e541e5fa852"), looks := false }, kinds := [], alts := [], laidByText := true, laidKinds := [.data, .data], laidTests := true, laidLooks := .later }
def NttMatchesReferenceCardSaid : Prop := Claim7.holds Tryd.pinned (.plain (OpenSpec.ofChange nttMatchesReferenceSpec)) nttMatchesReferenceCard

/-- THE TIED CARD OF 'attestorlaw04.NttInversion'. -/
def nttInversionCard : Claim7 := { stood := { row := nttInversionRow, standIns := [], harness := (true, "2f0a4a34d74cfce8a73e0a5c0d535b639f3b306a9fd56eb6b6183e541e5fa852"), looks := false }, kinds := [], alts := [], laidByText := true, laidKinds := [.data, .data], laidTests := true, laidLooks := .later }
def NttInversionCardSaid : Prop := Claim7.holds Tryd.pinned (.plain (OpenSpec.ofChange nttInversionSpec)) nttInversionCard

/-- THE TIED CARD OF 'attestorlaw04.NttLinearity'. -/
def nttLinearityCard : Claim7 := { stood := { row := nttLinearityRow, standIns := [], harness := (true, "2f0a4a34d74cfce8a73e0a5c0d535b639f3b306a9fd56eb6b6183e541e5fa852"), looks := false }, kinds := [], alts := [], laidByText := true, laidKinds := [.data, .data], laidTests := true, laidLooks := .later }
def NttLinearityCardSaid : Prop := Claim7.holds Tryd.pinned (.plain (OpenSpec.ofChange nttLinearitySpec)) nttLinearityCard

/-- THE TIED CARD OF 'attestorlaw04.NttRotation'. -/
def nttRotationCard : Claim7 := { stood := { row := nttRotationRow, standIns := [], harness := (true, "2f0a4a34d74cfce8a73e0a5c0d535b639f3b306a9fd56eb6b6183e541e5fa852"), looks := false }, kinds := [], alts := [], laidByText := true, laidKinds := [.data, .data], laidTests := true, laidLooks := .later }
def NttRotationCardSaid : Prop := Claim7.holds Tryd.pinned (.plain (OpenSpec.ofChange nttRotationSpec)) nttRotationCard

/-- THE TIED CARD OF 'attestorlaw04.NttValues'. -/
def nttValuesCard : Claim7 := { stood := { row := nttValuesRow, standIns := [], harness := (true, "2f0a4a34d74cfce8a73e0a5c0d535b639f3b306a9fd56eb6b6183e541e5fa852"), looks := false }, kinds := [], alts := [], laidByText := true, laidKinds := [.data, .data], laidTests := true, laidLooks := .later }
def NttValuesCardSaid : Prop := Claim7.holds Tryd.pinned (.plain (OpenSpec.ofChange nttValuesSpec)) nttValuesCard

/-- THE TIED CARD OF 'attestorlaw04.NttExtension'. -/
def nttExtensionCard : Claim7 := { stood := { row := nttExtensionRow, standIns := [], harness := (true, "2f0a4a34d74cfce8a73e0a5c0d535b639f3b306a9fd56eb6b6183e541e5fa852"), looks := false }, kinds := [], alts := [], laidByText := true, laidKinds := [.data, .data], laidTests := true, laidLooks := .later }
def NttExtensionCardSaid : Prop := Claim7.holds Tryd.pinned (.plain (OpenSpec.ofChange nttExtensionSpec)) nttExtensionCard

/-- THE TIED CARD OF 'attestorlaw04.NttProducts'. -/
def nttProductsCard : Claim7 := { stood := { row := nttProductsRow, standIns := [], harness := (true, "2f0a4a34d74cfce8a73e0a5c0d535b639f3b306a9fd56eb6b6183e541e5fa852"), looks := false }, kinds := [], alts := [], laidByText := true, laidKinds := [.data, .data], laidTests := true, laidLooks := .later }
def NttProductsCardSaid : Prop := Claim7.holds Tryd.pinned (.plain (OpenSpec.ofChange nttProductsSpec)) nttProductsCard

/-- THE TIED CARD OF 'attestorlaw04.NttMulAlgebra'. -/
def nttMulAlgebraCard : Claim7 := { stood := { row := nttMulAlgebraRow, standIns := [], harness := (true, "2f0a4a34d74cfce8a73e0a5c0d535b639f3b306a9fd56eb6b6183e541e5fa852"), looks := false }, kinds := [], alts := [], laidByText := true, laidKinds := [.data, .data], laidTests := true, laidLooks := .later }
def NttMulAlgebraCardSaid : Prop := Claim7.holds Tryd.pinned (.plain (OpenSpec.ofChange nttMulAlgebraSpec)) nttMulAlgebraCard

/-- THE TIED CARD OF 'attestorlaw04.NttErrors'. -/
def nttErrorsCard : Claim7 := { stood := { row := nttErrorsRow, standIns := [], harness := (true, "2f0a4a34d74cfce8a73e0a5c0d535b639f3b306a9fd56eb6b6183e541e5fa852"), looks := false }, kinds := [], alts := [], laidByText := true, laidKinds := [.data, .data], laidTests := true, laidLooks := .later }
def NttErrorsCardSaid : Prop := Claim7.holds Tryd.pinned (.plain (OpenSpec.ofChange nttErrorsSpec)) nttErrorsCard

/-- THE SECOND FORM's CARD OF 'attestorlaw04.NttMatchesReference'. -/
def nttMatchesReferenceUptoCard : Claim7 := { stood := { row := nttMatchesReferenceUptoRow, standIns := [], harness := (true, "2f0a4a34d74cfce8a73e0a5c0d535b639f3b306a9fd56eb6b6183e541e5fa852"), looks := false }, kinds := [], alts := [], laidByText := true, laidKinds := [.data, .data], laidTests := true, laidLooks := .later }
def NttMatchesReferenceUptoCardSaid : Prop := Claim7.holds Tryd.pinned (.plain (OpenSpec.upto nttMatchesReferenceSpec)) nttMatchesReferenceUptoCard

/-- THE SECOND FORM's CARD OF 'attestorlaw04.NttInversion'. -/
def nttInversionUptoCard : Claim7 := { stood := { row := nttInversionUptoRow, standIns := [], harness := (true, "2f0a4a34d74cfce8a73e0a5c0d535b639f3b306a9fd56eb6b6183e541e5fa852"), looks := false }, kinds := [], alts := [], laidByText := true, laidKinds := [.data, .data], laidTests := true, laidLooks := .later }
def NttInversionUptoCardSaid : Prop := Claim7.holds Tryd.pinned (.plain (OpenSpec.upto nttInversionSpec)) nttInversionUptoCard

/-- THE SECOND FORM's CARD OF 'attestorlaw04.NttLinearity'. -/
def nttLinearityUptoCard : Claim7 := { stood := { row := nttLinearityUptoRow, standIns := [], harness := (true, "2f0a4a34d74cfce8a73e0a5c0d535b639f3b306a9fd56eb6b6183e541e5fa852"), looks := false }, kinds := [], alts := [], laidByText := true, laidKinds := [.data, .data], laidTests := true, laidLooks := .later }
def NttLinearityUptoCardSaid : Prop := Claim7.holds Tryd.pinned (.plain (OpenSpec.upto nttLinearitySpec)) nttLinearityUptoCard

/-- THE SECOND FORM's CARD OF 'attestorlaw04.NttRotation'. -/
def nttRotationUptoCard : Claim7 := { stood := { row := nttRotationUptoRow, standIns := [], harness := (true, "2f0a4a34d74cfce8a73e0a5c0d535b639f3b306a9fd56eb6b6183e541e5fa852"), looks := false }, kinds := [], alts := [], laidByText := true, laidKinds := [.data, .data], laidTests := true, laidLooks := .later }
def NttRotationUptoCardSaid : Prop := Claim7.holds Tryd.pinned (.plain (OpenSpec.upto nttRotationSpec)) nttRotationUptoCard

/-- THE SECOND FORM's CARD OF 'attestorlaw04.NttValues'. -/
def nttValuesUptoCard : Claim7 := { stood := { row := nttValuesUptoRow, standIns := [], harness := (true, "2f0a4a34d74cfce8a73e0a5c0d535b639f3b306a9fd56eb6b6183e541e5fa852"), looks := false }, kinds := [], alts := [], laidByText := true, laidKinds := [.data, .data], laidTests := true, laidLooks := .later }
def NttValuesUptoCardSaid : Prop := Claim7.holds Tryd.pinned (.plain (OpenSpec.upto nttValuesSpec)) nttValuesUptoCard

/-- THE SECOND FORM's CARD OF 'attestorlaw04.NttExtension'. -/
def nttExtensionUptoCard : Claim7 := { stood := { row := nttExtensionUptoRow, standIns := [], harness := (true, "2f0a4a34d74cfce8a73e0a5c0d535b639f3b306a9fd56eb6b6183e541e5fa852"), looks := false }, kinds := [], alts := [], laidByText := true, laidKinds := [.data, .data], laidTests := true, laidLooks := .later }
def NttExtensionUptoCardSaid : Prop := Claim7.holds Tryd.pinned (.plain (OpenSpec.upto nttExtensionSpec)) nttExtensionUptoCard

/-- THE SECOND FORM's CARD OF 'attestorlaw04.NttProducts'. -/
def nttProductsUptoCard : Claim7 := { stood := { row := nttProductsUptoRow, standIns := [], harness := (true, "2f0a4a34d74cfce8a73e0a5c0d535b639f3b306a9fd56eb6b6183e541e5fa852"), looks := false }, kinds := [], alts := [], laidByText := true, laidKinds := [.data, .data], laidTests := true, laidLooks := .later }
def NttProductsUptoCardSaid : Prop := Claim7.holds Tryd.pinned (.plain (OpenSpec.upto nttProductsSpec)) nttProductsUptoCard

/-- THE SECOND FORM's CARD OF 'attestorlaw04.NttMulAlgebra'. -/
def nttMulAlgebraUptoCard : Claim7 := { stood := { row := nttMulAlgebraUptoRow, standIns := [], harness := (true, "2f0a4a34d74cfce8a73e0a5c0d535b639f3b306a9fd56eb6b6183e541e5fa852"), looks := false }, kinds := [], alts := [], laidByText := true, laidKinds := [.data, .data], laidTests := true, laidLooks := .later }
def NttMulAlgebraUptoCardSaid : Prop := Claim7.holds Tryd.pinned (.plain (OpenSpec.upto nttMulAlgebraSpec)) nttMulAlgebraUptoCard

/-- THE SECOND FORM's CARD OF 'attestorlaw04.NttErrors'. -/
def nttErrorsUptoCard : Claim7 := { stood := { row := nttErrorsUptoRow, standIns := [], harness := (true, "2f0a4a34d74cfce8a73e0a5c0d535b639f3b306a9fd56eb6b6183e541e5fa852"), looks := false }, kinds := [], alts := [], laidByText := true, laidKinds := [.data, .data], laidTests := true, laidLooks := .later }
def NttErrorsUptoCardSaid : Prop := Claim7.holds Tryd.pinned (.plain (OpenSpec.upto nttErrorsSpec)) nttErrorsUptoCard
end Rows
end Go.Proofs.YtjgdbfhpjjmjkaaDoor
