/-
  DERIVED. GIVEN WITH THE SEED: THE CARDS: each row of YtfdplefijefeiaaGreatDoorRows.lean that lists a variable, with what it lists TIED to the program's text (the seventh form; the later family's looks); each row that meets fmt, with fmt's text TOLD by the authors' own Lean function (tested against real Go, not proved from fmt's source: count such statements apart). THE CARD IS WHAT COUNTS. Prove the row's statement (the work); the ties are given (YtfdplefijefeiaaGreatDoorTie.lean); close each card by the builder's one call (the guide's Derived/Test/ToyasCard.lean, 'card_holds'). Laid BY PROGRAM, IN A SANDBOX (cutbox-door.mjs). By AI agents, Wed Nov 11 2026. No macro, syntax, notation, axiom, sorry.
-/
import Derived.Test.YtfdplefijefeiaaGreatDoorRows
import GoSem.ClaimSeven
namespace Go.Proofs.YtfdplefijefeiaaGreatDoor
namespace Rows

/-- THE TIED CARD OF 'stintlaw18.HouseNames'. -/
def houseNamesCard : Claim7 := { stood := { row := houseNamesRow, standIns := [], harness := (true, "93d571d86431e568f8a870da0478d03664df9a9c838f944a45cd479f4c122f87"), looks := true }, kinds := [], alts := [], laidByText := true, laidKinds := [.data, .data, .data, .data, .pinned], laidTests := true, laidLooks := .later }
def HouseNamesCardSaid : Prop := Claim7.holds Tryz.pinned (.plain (OpenSpec.ofChange houseNamesSpec)) houseNamesCard

/-- THE TIED CARD OF 'stintlaw22.ClientNumbers'. -/
def clientNumbersCard : Claim7 := { stood := { row := clientNumbersRow, standIns := [], harness := (true, "93d571d86431e568f8a870da0478d03664df9a9c838f944a45cd479f4c122f87"), looks := true }, kinds := [], alts := [], laidByText := true, laidKinds := [.data, .data, .data, .data, .sentinel, .sentinel, .sentinel, .sentinel, .pinned], laidTests := true, laidLooks := .later }
def ClientNumbersCardSaid : Prop := Claim7.holds Tryz.pinned (.plain (OpenSpec.ofChange clientNumbersSpec)) clientNumbersCard

/-- THE TIED CARD OF 'stintlaw22.ClientFaults'. -/
def clientFaultsCard : Claim7 := { stood := { row := clientFaultsRow, standIns := [], harness := (true, "93d571d86431e568f8a870da0478d03664df9a9c838f944a45cd479f4c122f87"), looks := true }, kinds := [], alts := [], laidByText := true, laidKinds := [.data, .data, .data, .data, .handle, .sentinel, .sentinel, .sentinel, .sentinel, .sentinel, .sentinel, .sentinel, .sentinel, .sentinel, .sentinel, .sentinel, .pinned], laidTests := true, laidLooks := .later }
def ClientFaultsCardSaid : Prop := Claim7.holds Tryz.pinned (.plain (OpenSpec.ofChange clientFaultsSpec)) clientFaultsCard

/-- THE SECOND FORM's CARD OF 'stintlaw18.HouseNames'. -/
def houseNamesUptoCard : Claim7 := { stood := { row := houseNamesUptoRow, standIns := [], harness := (true, "93d571d86431e568f8a870da0478d03664df9a9c838f944a45cd479f4c122f87"), looks := true }, kinds := [], alts := [], laidByText := true, laidKinds := [.data, .data, .data, .data, .pinned], laidTests := true, laidLooks := .later }
def HouseNamesUptoCardSaid : Prop := Claim7.holds Tryz.pinned (.plain (OpenSpec.upto houseNamesSpec)) houseNamesUptoCard

/-- THE SECOND FORM's CARD OF 'stintlaw22.ClientNumbers'. -/
def clientNumbersUptoCard : Claim7 := { stood := { row := clientNumbersUptoRow, standIns := [], harness := (true, "93d571d86431e568f8a870da0478d03664df9a9c838f944a45cd479f4c122f87"), looks := true }, kinds := [], alts := [], laidByText := true, laidKinds := [.data, .data, .data, .data, .sentinel, .sentinel, .sentinel, .sentinel, .pinned], laidTests := true, laidLooks := .later }
def ClientNumbersUptoCardSaid : Prop := Claim7.holds Tryz.pinned (.plain (OpenSpec.upto clientNumbersSpec)) clientNumbersUptoCard

/-- THE SECOND FORM's CARD OF 'stintlaw22.ClientFaults'. -/
def clientFaultsUptoCard : Claim7 := { stood := { row := clientFaultsUptoRow, standIns := [], harness := (true, "93d571d86431e568f8a870da0478d03664df9a9c838f944a45cd479f4c122f87"), looks := true }, kinds := [], alts := [], laidByText := true, laidKinds := [.data, .data, .data, .data, .handle, .sentinel, .sentinel, .sentinel, .sentinel, .sentinel, .sentinel, .sentinel, .sentinel, .sentinel, .sentinel, .sentinel, .pinned], laidTests := true, laidLooks := .later }
def ClientFaultsUptoCardSaid : Prop := Claim7.holds Tryz.pinned (.plain (OpenSpec.upto clientFaultsSpec)) clientFaultsUptoCard
end Rows
end Go.Proofs.YtfdplefijefeiaaGreatDoor
