/-
  DERIVED. GIVEN WITH THE SEED: THE CARDS: each row of YtddpboiceemihaaGreatDoorRows.lean that lists a variable, with what it lists TIED to the program's text (the seventh form; the later family's looks); each row that meets fmt, with fmt's text TOLD by the authors' own Lean function (tested against real Go, not proved from fmt's source: count such statements apart). THE CARD IS WHAT COUNTS. Prove the row's statement (the work); the ties are given (YtddpboiceemihaaGreatDoorTie.lean); close each card by the builder's one call (the guide's Derived/Test/ToyasCard.lean, 'card_holds'). Laid BY PROGRAM, IN A SANDBOX (cutbox-door.mjs). By AI agents, Wed Nov 11 2026. No macro, syntax, notation, axiom, sorry.
-/
import Derived.Test.YtddpboiceemihaaGreatDoorRows
import GoSem.ClaimSeven
namespace Go.Proofs.YtddpboiceemihaaGreatDoor
namespace Rows

/-- THE TIED CARD OF 'nurserylaw15.CombinatorLists'. -/
def combinatorListsCard : Claim7 := { stood := { row := combinatorListsRow, standIns := [], harness := (true, "9b64564c3da762c73fbfec68512897955b946354a3a523c68959bdc2c0accef3"), looks := true }, kinds := [], alts := [], laidByText := true, laidKinds := [.data, .data, .data], laidTests := true, laidLooks := .later }
def CombinatorListsCardSaid : Prop := Claim7.holds Tryz.pinned (.plain (OpenSpec.ofChange combinatorListsSpec)) combinatorListsCard

/-- THE TIED CARD OF 'nurserylaw15.CombinatorSingles'. -/
def combinatorSinglesCard : Claim7 := { stood := { row := combinatorSinglesRow, standIns := [], harness := (true, "9b64564c3da762c73fbfec68512897955b946354a3a523c68959bdc2c0accef3"), looks := true }, kinds := [], alts := [], laidByText := true, laidKinds := [.data, .data, .data], laidTests := true, laidLooks := .later }
def CombinatorSinglesCardSaid : Prop := Claim7.holds Tryz.pinned (.plain (OpenSpec.ofChange combinatorSinglesSpec)) combinatorSinglesCard

/-- THE TIED CARD OF 'nurserylaw15.CombinatorProcs'. -/
def combinatorProcsCard : Claim7 := { stood := { row := combinatorProcsRow, standIns := [], harness := (true, "9b64564c3da762c73fbfec68512897955b946354a3a523c68959bdc2c0accef3"), looks := true }, kinds := [], alts := [], laidByText := true, laidKinds := [.data, .data, .data], laidTests := true, laidLooks := .later }
def CombinatorProcsCardSaid : Prop := Claim7.holds Tryz.pinned (.plain (OpenSpec.ofChange combinatorProcsSpec)) combinatorProcsCard

/-- THE TIED CARD OF 'nurserylaw15.CombinatorMore'. -/
def combinatorMoreCard : Claim7 := { stood := { row := combinatorMoreRow, standIns := [], harness := (true, "9b64564c3da762c73fbfec68512897955b946354a3a523c68959bdc2c0accef3"), looks := true }, kinds := [], alts := [], laidByText := true, laidKinds := [.data, .data, .data], laidTests := true, laidLooks := .later }
def CombinatorMoreCardSaid : Prop := Claim7.holds Tryz.pinned (.plain (OpenSpec.ofChange combinatorMoreSpec)) combinatorMoreCard

/-- THE TIED CARD OF 'nurserylaw15.CombinatorParts'. -/
def combinatorPartsCard : Claim7 := { stood := { row := combinatorPartsRow, standIns := [], harness := (true, "9b64564c3da762c73fbfec68512897955b946354a3a523c68959bdc2c0accef3"), looks := true }, kinds := [], alts := [], laidByText := true, laidKinds := [.data, .data, .data], laidTests := true, laidLooks := .later }
def CombinatorPartsCardSaid : Prop := Claim7.holds Tryz.pinned (.plain (OpenSpec.ofChange combinatorPartsSpec)) combinatorPartsCard

/-- THE TIED CARD OF 'nurserylaw15.CombinatorTexts'. -/
def combinatorTextsCard : Claim7 := { stood := { row := combinatorTextsRow, standIns := [], harness := (true, "9b64564c3da762c73fbfec68512897955b946354a3a523c68959bdc2c0accef3"), looks := true }, kinds := [], alts := [], laidByText := true, laidKinds := [.data, .data, .data], laidTests := true, laidLooks := .later }
def CombinatorTextsCardSaid : Prop := Claim7.holds Tryz.pinned (.plain (OpenSpec.ofChange combinatorTextsSpec)) combinatorTextsCard

/-- THE SECOND FORM's CARD OF 'nurserylaw15.CombinatorLists'. -/
def combinatorListsUptoCard : Claim7 := { stood := { row := combinatorListsUptoRow, standIns := [], harness := (true, "9b64564c3da762c73fbfec68512897955b946354a3a523c68959bdc2c0accef3"), looks := true }, kinds := [], alts := [], laidByText := true, laidKinds := [.data, .data, .data], laidTests := true, laidLooks := .later }
def CombinatorListsUptoCardSaid : Prop := Claim7.holds Tryz.pinned (.plain (OpenSpec.upto combinatorListsSpec)) combinatorListsUptoCard

/-- THE SECOND FORM's CARD OF 'nurserylaw15.CombinatorSingles'. -/
def combinatorSinglesUptoCard : Claim7 := { stood := { row := combinatorSinglesUptoRow, standIns := [], harness := (true, "9b64564c3da762c73fbfec68512897955b946354a3a523c68959bdc2c0accef3"), looks := true }, kinds := [], alts := [], laidByText := true, laidKinds := [.data, .data, .data], laidTests := true, laidLooks := .later }
def CombinatorSinglesUptoCardSaid : Prop := Claim7.holds Tryz.pinned (.plain (OpenSpec.upto combinatorSinglesSpec)) combinatorSinglesUptoCard

/-- THE SECOND FORM's CARD OF 'nurserylaw15.CombinatorProcs'. -/
def combinatorProcsUptoCard : Claim7 := { stood := { row := combinatorProcsUptoRow, standIns := [], harness := (true, "9b64564c3da762c73fbfec68512897955b946354a3a523c68959bdc2c0accef3"), looks := true }, kinds := [], alts := [], laidByText := true, laidKinds := [.data, .data, .data], laidTests := true, laidLooks := .later }
def CombinatorProcsUptoCardSaid : Prop := Claim7.holds Tryz.pinned (.plain (OpenSpec.upto combinatorProcsSpec)) combinatorProcsUptoCard

/-- THE SECOND FORM's CARD OF 'nurserylaw15.CombinatorMore'. -/
def combinatorMoreUptoCard : Claim7 := { stood := { row := combinatorMoreUptoRow, standIns := [], harness := (true, "9b64564c3da762c73fbfec68512897955b946354a3a523c68959bdc2c0accef3"), looks := true }, kinds := [], alts := [], laidByText := true, laidKinds := [.data, .data, .data], laidTests := true, laidLooks := .later }
def CombinatorMoreUptoCardSaid : Prop := Claim7.holds Tryz.pinned (.plain (OpenSpec.upto combinatorMoreSpec)) combinatorMoreUptoCard

/-- THE SECOND FORM's CARD OF 'nurserylaw15.CombinatorParts'. -/
def combinatorPartsUptoCard : Claim7 := { stood := { row := combinatorPartsUptoRow, standIns := [], harness := (true, "9b64564c3da762c73fbfec68512897955b946354a3a523c68959bdc2c0accef3"), looks := true }, kinds := [], alts := [], laidByText := true, laidKinds := [.data, .data, .data], laidTests := true, laidLooks := .later }
def CombinatorPartsUptoCardSaid : Prop := Claim7.holds Tryz.pinned (.plain (OpenSpec.upto combinatorPartsSpec)) combinatorPartsUptoCard

/-- THE SECOND FORM's CARD OF 'nurserylaw15.CombinatorTexts'. -/
def combinatorTextsUptoCard : Claim7 := { stood := { row := combinatorTextsUptoRow, standIns := [], harness := (true, "9b64564c3da762c73fbfec68512897955b946354a3a523c68959bdc2c0accef3"), looks := true }, kinds := [], alts := [], laidByText := true, laidKinds := [.data, .data, .data], laidTests := true, laidLooks := .later }
def CombinatorTextsUptoCardSaid : Prop := Claim7.holds Tryz.pinned (.plain (OpenSpec.upto combinatorTextsSpec)) combinatorTextsUptoCard
end Rows
end Go.Proofs.YtddpboiceemihaaGreatDoor
