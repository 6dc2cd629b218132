/-
  DERIVED. GIVEN WITH THE SEED: THE CARDS: each row of YtlhkelgkkfnfoaaDoorRows.lean that lists a variable, with what it lists TIED to the program's text (the seventh form; the later family's looks); each row that meets fmt, with fmt's text TOLD by the authors' own Lean function (tested against real Go, not proved from fmt's source: count such statements apart). THE CARD IS WHAT COUNTS. Prove the row's statement (the work); the ties are given (YtlhkelgkkfnfoaaDoorTie.lean); close each card by the builder's one call (the guide's Derived/Test/ToyasCard.lean, 'card_holds'). Laid BY PROGRAM, IN A SANDBOX (cutbox-door.mjs). By AI agents, Wed Nov 11 2026. No macro, syntax, notation, axiom, sorry.
-/
import Derived.Test.YtlhkelgkkfnfoaaDoorRows
import GoSem.ClaimSeven
namespace Go.Proofs.YtlhkelgkkfnfoaaDoor
namespace Rows

/-- THE TIED CARD OF 'stintlaw07.VerbsNames'. -/
def verbsNamesCard : Claim7 := { stood := { row := verbsNamesRow, standIns := [], harness := (true, "278947ce50eb179eb62c5678fda4a568c5c0def54b99690226c08e3a0daf0fc9"), looks := false }, kinds := [], alts := [], laidByText := true, laidKinds := [.data, .data, .data, .data, .pinned], laidTests := true, laidLooks := .later }
def VerbsNamesCardSaid : Prop := Claim7.holds Tryd.pinned (.plain (OpenSpec.ofChange verbsNamesSpec)) verbsNamesCard

/-- THE TIED CARD OF 'stintlaw07.VerbsReads'. -/
def verbsReadsCard : Claim7 := { stood := { row := verbsReadsRow, standIns := [], harness := (true, "278947ce50eb179eb62c5678fda4a568c5c0def54b99690226c08e3a0daf0fc9"), looks := false }, kinds := [], alts := [], laidByText := true, laidKinds := [.data, .data, .data, .data, .pinned], laidTests := true, laidLooks := .later }
def VerbsReadsCardSaid : Prop := Claim7.holds Tryd.pinned (.plain (OpenSpec.ofChange verbsReadsSpec)) verbsReadsCard

/-- THE TIED CARD OF 'stintlaw07.VerbsWrites'. -/
def verbsWritesCard : Claim7 := { stood := { row := verbsWritesRow, standIns := [], harness := (true, "278947ce50eb179eb62c5678fda4a568c5c0def54b99690226c08e3a0daf0fc9"), looks := false }, kinds := [], alts := [], laidByText := true, laidKinds := [.data, .data, .data, .data, .pinned], laidTests := true, laidLooks := .later }
def VerbsWritesCardSaid : Prop := Claim7.holds Tryd.pinned (.plain (OpenSpec.ofChange verbsWritesSpec)) verbsWritesCard

/-- THE TIED CARD OF 'stintlaw07.VerbsChecks'. -/
def verbsChecksCard : Claim7 := { stood := { row := verbsChecksRow, standIns := [], harness := (true, "278947ce50eb179eb62c5678fda4a568c5c0def54b99690226c08e3a0daf0fc9"), looks := false }, kinds := [], alts := [], laidByText := true, laidKinds := [.data, .data, .data, .data, .pinned], laidTests := true, laidLooks := .later }
def VerbsChecksCardSaid : Prop := Claim7.holds Tryd.pinned (.plain (OpenSpec.ofChange verbsChecksSpec)) verbsChecksCard

/-- THE TIED CARD OF 'stintlaw07.VerbsBack'. -/
def verbsBackCard : Claim7 := { stood := { row := verbsBackRow, standIns := [], harness := (true, "278947ce50eb179eb62c5678fda4a568c5c0def54b99690226c08e3a0daf0fc9"), looks := false }, kinds := [], alts := [], laidByText := true, laidKinds := [.data, .data, .data, .data, .pinned], laidTests := true, laidLooks := .later }
def VerbsBackCardSaid : Prop := Claim7.holds Tryd.pinned (.plain (OpenSpec.ofChange verbsBackSpec)) verbsBackCard

/-- THE TIED CARD OF 'stintlaw07.VerbsForms'. -/
def verbsFormsCard : Claim7 := { stood := { row := verbsFormsRow, standIns := [], harness := (true, "278947ce50eb179eb62c5678fda4a568c5c0def54b99690226c08e3a0daf0fc9"), looks := false }, kinds := [], alts := [], laidByText := true, laidKinds := [.data, .data, .data, .data, .pinned], laidTests := true, laidLooks := .later }
def VerbsFormsCardSaid : Prop := Claim7.holds Tryd.pinned (.plain (OpenSpec.ofChange verbsFormsSpec)) verbsFormsCard

/-- THE TIED CARD OF 'stintlaw07.VerbsNumbers'. -/
def verbsNumbersCard : Claim7 := { stood := { row := verbsNumbersRow, standIns := [], harness := (true, "278947ce50eb179eb62c5678fda4a568c5c0def54b99690226c08e3a0daf0fc9"), looks := false }, kinds := [], alts := [], laidByText := true, laidKinds := [.data, .data, .data, .data, .pinned], laidTests := true, laidLooks := .later }
def VerbsNumbersCardSaid : Prop := Claim7.holds Tryd.pinned (.plain (OpenSpec.ofChange verbsNumbersSpec)) verbsNumbersCard

/-- THE SECOND FORM's CARD OF 'stintlaw07.VerbsNames'. -/
def verbsNamesUptoCard : Claim7 := { stood := { row := verbsNamesUptoRow, standIns := [], harness := (true, "278947ce50eb179eb62c5678fda4a568c5c0def54b99690226c08e3a0daf0fc9"), looks := false }, kinds := [], alts := [], laidByText := true, laidKinds := [.data, .data, .data, .data, .pinned], laidTests := true, laidLooks := .later }
def VerbsNamesUptoCardSaid : Prop := Claim7.holds Tryd.pinned (.plain (OpenSpec.upto verbsNamesSpec)) verbsNamesUptoCard

/-- THE SECOND FORM's CARD OF 'stintlaw07.VerbsReads'. -/
def verbsReadsUptoCard : Claim7 := { stood := { row := verbsReadsUptoRow, standIns := [], harness := (true, "278947ce50eb179eb62c5678fda4a568c5c0def54b99690226c08e3a0daf0fc9"), looks := false }, kinds := [], alts := [], laidByText := true, laidKinds := [.data, .data, .data, .data, .pinned], laidTests := true, laidLooks := .later }
def VerbsReadsUptoCardSaid : Prop := Claim7.holds Tryd.pinned (.plain (OpenSpec.upto verbsReadsSpec)) verbsReadsUptoCard

/-- THE SECOND FORM's CARD OF 'stintlaw07.VerbsWrites'. -/
def verbsWritesUptoCard : Claim7 := { stood := { row := verbsWritesUptoRow, standIns := [], harness := (true, "278947ce50eb179eb62c5678fda4a568c5c0def54b99690226c08e3a0daf0fc9"), looks := false }, kinds := [], alts := [], laidByText := true, laidKinds := [.data, .data, .data, .data, .pinned], laidTests := true, laidLooks := .later }
def VerbsWritesUptoCardSaid : Prop := Claim7.holds Tryd.pinned (.plain (OpenSpec.upto verbsWritesSpec)) verbsWritesUptoCard

/-- THE SECOND FORM's CARD OF 'stintlaw07.VerbsChecks'. -/
def verbsChecksUptoCard : Claim7 := { stood := { row := verbsChecksUptoRow, standIns := [], harness := (true, "278947ce50eb179eb62c5678fda4a568c5c0def54b99690226c08e3a0daf0fc9"), looks := false }, kinds := [], alts := [], laidByText := true, laidKinds := [.data, .data, .data, .data, .pinned], laidTests := true, laidLooks := .later }
def VerbsChecksUptoCardSaid : Prop := Claim7.holds Tryd.pinned (.plain (OpenSpec.upto verbsChecksSpec)) verbsChecksUptoCard

/-- THE SECOND FORM's CARD OF 'stintlaw07.VerbsBack'. -/
def verbsBackUptoCard : Claim7 := { stood := { row := verbsBackUptoRow, standIns := [], harness := (true, "278947ce50eb179eb62c5678fda4a568c5c0def54b99690226c08e3a0daf0fc9"), looks := false }, kinds := [], alts := [], laidByText := true, laidKinds := [.data, .data, .data, .data, .pinned], laidTests := true, laidLooks := .later }
def VerbsBackUptoCardSaid : Prop := Claim7.holds Tryd.pinned (.plain (OpenSpec.upto verbsBackSpec)) verbsBackUptoCard

/-- THE SECOND FORM's CARD OF 'stintlaw07.VerbsForms'. -/
def verbsFormsUptoCard : Claim7 := { stood := { row := verbsFormsUptoRow, standIns := [], harness := (true, "278947ce50eb179eb62c5678fda4a568c5c0def54b99690226c08e3a0daf0fc9"), looks := false }, kinds := [], alts := [], laidByText := true, laidKinds := [.data, .data, .data, .data, .pinned], laidTests := true, laidLooks := .later }
def VerbsFormsUptoCardSaid : Prop := Claim7.holds Tryd.pinned (.plain (OpenSpec.upto verbsFormsSpec)) verbsFormsUptoCard

/-- THE SECOND FORM's CARD OF 'stintlaw07.VerbsNumbers'. -/
def verbsNumbersUptoCard : Claim7 := { stood := { row := verbsNumbersUptoRow, standIns := [], harness := (true, "278947ce50eb179eb62c5678fda4a568c5c0def54b99690226c08e3a0daf0fc9"), looks := false }, kinds := [], alts := [], laidByText := true, laidKinds := [.data, .data, .data, .data, .pinned], laidTests := true, laidLooks := .later }
def VerbsNumbersUptoCardSaid : Prop := Claim7.holds Tryd.pinned (.plain (OpenSpec.upto verbsNumbersSpec)) verbsNumbersUptoCard
end Rows
end Go.Proofs.YtlhkelgkkfnfoaaDoor
