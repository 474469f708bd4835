/-
  DERIVED. GIVEN WITH THE SEED: THE CARDS: each row of YtgamobngbenehaaGreatDoorRows.lean that lists a variable, with what it lists TIED to the program's text (the seventh form; the later family's looks); each row that meets fmt, with fmt's text TOLD by the authors' own Lean function (tested against real Go, not proved from fmt's source: count such statements apart). THE CARD IS WHAT COUNTS. Prove the row's statement (the work); the ties are given (YtgamobngbenehaaGreatDoorTie.lean); close each card by the builder's one call (the guide's Derived/Test/ToyasCard.lean, 'card_holds'). Laid BY PROGRAM, IN A SANDBOX (cutbox-door.mjs). By AI agents, Wed Nov 11 2026. No macro, syntax, notation, axiom, sorry.
-/
import Derived.Test.YtgamobngbenehaaGreatDoorRows
import GoSem.ClaimSeven
namespace Go.Proofs.YtgamobngbenehaaGreatDoor
namespace Rows

/-- THE TIED CARD OF 'nurserylaw11.SyntaxParse'. -/
def syntaxParseCard : Claim7 := { stood := { row := syntaxParseRow, standIns := [], harness := (true, "4a9494ea72e6ef8835e56fa3be8e8b868a225100318f948dd2540400ad8069e7"), looks := true }, kinds := [], alts := [], laidByText := true, laidKinds := [.data, .data, .data], laidTests := true, laidLooks := .later }
def SyntaxParseCardSaid : Prop := Claim7.holds Tryz.pinned (.plain (OpenSpec.ofChange syntaxParseSpec)) syntaxParseCard

/-- THE TIED CARD OF 'nurserylaw11.SyntaxLayout'. -/
def syntaxLayoutCard : Claim7 := { stood := { row := syntaxLayoutRow, standIns := [], harness := (true, "4a9494ea72e6ef8835e56fa3be8e8b868a225100318f948dd2540400ad8069e7"), looks := true }, kinds := [], alts := [], laidByText := true, laidKinds := [.data, .data, .data], laidTests := true, laidLooks := .later }
def SyntaxLayoutCardSaid : Prop := Claim7.holds Tryz.pinned (.plain (OpenSpec.ofChange syntaxLayoutSpec)) syntaxLayoutCard

/-- THE TIED CARD OF 'nurserylaw11.SyntaxErrors'. -/
def syntaxErrorsCard : Claim7 := { stood := { row := syntaxErrorsRow, standIns := [], harness := (true, "4a9494ea72e6ef8835e56fa3be8e8b868a225100318f948dd2540400ad8069e7"), looks := true }, kinds := [], alts := [], laidByText := true, laidKinds := [.data, .data, .data], laidTests := true, laidLooks := .later }
def SyntaxErrorsCardSaid : Prop := Claim7.holds Tryz.pinned (.plain (OpenSpec.ofChange syntaxErrorsSpec)) syntaxErrorsCard

/-- THE TIED CARD OF 'nurserylaw11.SyntaxParts'. -/
def syntaxPartsCard : Claim7 := { stood := { row := syntaxPartsRow, standIns := [], harness := (true, "4a9494ea72e6ef8835e56fa3be8e8b868a225100318f948dd2540400ad8069e7"), looks := true }, kinds := [], alts := [], laidByText := true, laidKinds := [.data, .data, .data], laidTests := true, laidLooks := .later }
def SyntaxPartsCardSaid : Prop := Claim7.holds Tryz.pinned (.plain (OpenSpec.ofChange syntaxPartsSpec)) syntaxPartsCard

/-- THE TIED CARD OF 'nurserylaw11.SyntaxPreorder'. -/
def syntaxPreorderCard : Claim7 := { stood := { row := syntaxPreorderRow, standIns := [], harness := (true, "4a9494ea72e6ef8835e56fa3be8e8b868a225100318f948dd2540400ad8069e7"), looks := true }, kinds := [], alts := [], laidByText := true, laidKinds := [.data, .data, .data], laidTests := true, laidLooks := .later }
def SyntaxPreorderCardSaid : Prop := Claim7.holds Tryz.pinned (.plain (OpenSpec.ofChange syntaxPreorderSpec)) syntaxPreorderCard

/-- THE TIED CARD OF 'nurserylaw11.SyntaxEqual'. -/
def syntaxEqualCard : Claim7 := { stood := { row := syntaxEqualRow, standIns := [], harness := (true, "4a9494ea72e6ef8835e56fa3be8e8b868a225100318f948dd2540400ad8069e7"), looks := true }, kinds := [], alts := [], laidByText := true, laidKinds := [.data, .data, .data], laidTests := true, laidLooks := .later }
def SyntaxEqualCardSaid : Prop := Claim7.holds Tryz.pinned (.plain (OpenSpec.ofChange syntaxEqualSpec)) syntaxEqualCard

/-- THE TIED CARD OF 'nurserylaw11.SyntaxRoundTrip'. -/
def syntaxRoundTripCard : Claim7 := { stood := { row := syntaxRoundTripRow, standIns := [], harness := (true, "4a9494ea72e6ef8835e56fa3be8e8b868a225100318f948dd2540400ad8069e7"), looks := true }, kinds := [], alts := [], laidByText := true, laidKinds := [.data, .data, .data], laidTests := true, laidLooks := .later }
def SyntaxRoundTripCardSaid : Prop := Claim7.holds Tryz.pinned (.plain (OpenSpec.ofChange syntaxRoundTripSpec)) syntaxRoundTripCard

/-- THE TIED CARD OF 'nurserylaw11.SyntaxNormal'. -/
def syntaxNormalCard : Claim7 := { stood := { row := syntaxNormalRow, standIns := [], harness := (true, "4a9494ea72e6ef8835e56fa3be8e8b868a225100318f948dd2540400ad8069e7"), looks := true }, kinds := [], alts := [], laidByText := true, laidKinds := [.data, .data, .data], laidTests := true, laidLooks := .later }
def SyntaxNormalCardSaid : Prop := Claim7.holds Tryz.pinned (.plain (OpenSpec.ofChange syntaxNormalSpec)) syntaxNormalCard

/-- THE SECOND FORM's CARD OF 'nurserylaw11.SyntaxParse'. -/
def syntaxParseUptoCard : Claim7 := { stood := { row := syntaxParseUptoRow, standIns := [], harness := (true, "4a9494ea72e6ef8835e56fa3be8e8b868a225100318f948dd2540400ad8069e7"), looks := true }, kinds := [], alts := [], laidByText := true, laidKinds := [.data, .data, .data], laidTests := true, laidLooks := .later }
def SyntaxParseUptoCardSaid : Prop := Claim7.holds Tryz.pinned (.plain (OpenSpec.upto syntaxParseSpec)) syntaxParseUptoCard

/-- THE SECOND FORM's CARD OF 'nurserylaw11.SyntaxLayout'. -/
def syntaxLayoutUptoCard : Claim7 := { stood := { row := syntaxLayoutUptoRow, standIns := [], harness := (true, "4a9494ea72e6ef8835e56fa3be8e8b868a225100318f948dd2540400ad8069e7"), looks := true }, kinds := [], alts := [], laidByText := true, laidKinds := [.data, .data, .data], laidTests := true, laidLooks := .later }
def SyntaxLayoutUptoCardSaid : Prop := Claim7.holds Tryz.pinned (.plain (OpenSpec.upto syntaxLayoutSpec)) syntaxLayoutUptoCard

/-- THE SECOND FORM's CARD OF 'nurserylaw11.SyntaxErrors'. -/
def syntaxErrorsUptoCard : Claim7 := { stood := { row := syntaxErrorsUptoRow, standIns := [], harness := (true, "4a9494ea72e6ef8835e56fa3be8e8b868a225100318f948dd2540400ad8069e7"), looks := true }, kinds := [], alts := [], laidByText := true, laidKinds := [.data, .data, .data], laidTests := true, laidLooks := .later }
def SyntaxErrorsUptoCardSaid : Prop := Claim7.holds Tryz.pinned (.plain (OpenSpec.upto syntaxErrorsSpec)) syntaxErrorsUptoCard

/-- THE SECOND FORM's CARD OF 'nurserylaw11.SyntaxParts'. -/
def syntaxPartsUptoCard : Claim7 := { stood := { row := syntaxPartsUptoRow, standIns := [], harness := (true, "4a9494ea72e6ef8835e56fa3be8e8b868a225100318f948dd2540400ad8069e7"), looks := true }, kinds := [], alts := [], laidByText := true, laidKinds := [.data, .data, .data], laidTests := true, laidLooks := .later }
def SyntaxPartsUptoCardSaid : Prop := Claim7.holds Tryz.pinned (.plain (OpenSpec.upto syntaxPartsSpec)) syntaxPartsUptoCard

/-- THE SECOND FORM's CARD OF 'nurserylaw11.SyntaxPreorder'. -/
def syntaxPreorderUptoCard : Claim7 := { stood := { row := syntaxPreorderUptoRow, standIns := [], harness := (true, "4a9494ea72e6ef8835e56fa3be8e8b868a225100318f948dd2540400ad8069e7"), looks := true }, kinds := [], alts := [], laidByText := true, laidKinds := [.data, .data, .data], laidTests := true, laidLooks := .later }
def SyntaxPreorderUptoCardSaid : Prop := Claim7.holds Tryz.pinned (.plain (OpenSpec.upto syntaxPreorderSpec)) syntaxPreorderUptoCard

/-- THE SECOND FORM's CARD OF 'nurserylaw11.SyntaxEqual'. -/
def syntaxEqualUptoCard : Claim7 := { stood := { row := syntaxEqualUptoRow, standIns := [], harness := (true, "4a9494ea72e6ef8835e56fa3be8e8b868a225100318f948dd2540400ad8069e7"), looks := true }, kinds := [], alts := [], laidByText := true, laidKinds := [.data, .data, .data], laidTests := true, laidLooks := .later }
def SyntaxEqualUptoCardSaid : Prop := Claim7.holds Tryz.pinned (.plain (OpenSpec.upto syntaxEqualSpec)) syntaxEqualUptoCard

/-- THE SECOND FORM's CARD OF 'nurserylaw11.SyntaxRoundTrip'. -/
def syntaxRoundTripUptoCard : Claim7 := { stood := { row := syntaxRoundTripUptoRow, standIns := [], harness := (true, "4a9494ea72e6ef8835e56fa3be8e8b868a225100318f948dd2540400ad8069e7"), looks := true }, kinds := [], alts := [], laidByText := true, laidKinds := [.data, .data, .data], laidTests := true, laidLooks := .later }
def SyntaxRoundTripUptoCardSaid : Prop := Claim7.holds Tryz.pinned (.plain (OpenSpec.upto syntaxRoundTripSpec)) syntaxRoundTripUptoCard

/-- THE SECOND FORM's CARD OF 'nurserylaw11.SyntaxNormal'. -/
def syntaxNormalUptoCard : Claim7 := { stood := { row := syntaxNormalUptoRow, standIns := [], harness := (true, "4a9494ea72e6ef8835e56fa3be8e8b868a225100318f948dd2540400ad8069e7"), looks := true }, kinds := [], alts := [], laidByText := true, laidKinds := [.data, .data, .data], laidTests := true, laidLooks := .later }
def SyntaxNormalUptoCardSaid : Prop := Claim7.holds Tryz.pinned (.plain (OpenSpec.upto syntaxNormalSpec)) syntaxNormalUptoCard
end Rows
end Go.Proofs.YtgamobngbenehaaGreatDoor
