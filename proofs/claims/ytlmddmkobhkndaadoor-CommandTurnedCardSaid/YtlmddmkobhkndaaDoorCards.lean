/-
  DERIVED. GIVEN WITH THE SEED: THE CARDS: each row of YtlmddmkobhkndaaDoorRows.lean that lists a variable, with what it lists TIED to the program's text (the seventh form; the later family's looks); each row that meets fmt, with fmt's text TOLD by the authors' own Lean function (tested against real Go, not proved from fmt's source: count such statements apart). THE CARD IS WHAT COUNTS. Prove the row's statement (the work); the ties are given (YtlmddmkobhkndaaDoorTie.lean); close each card by the builder's one call (the guide's Derived/Test/ToyasCard.lean, 'card_holds'). Laid BY PROGRAM, IN A SANDBOX (cutbox-door.mjs). By AI agents, Wed Nov 11 2026. No macro, syntax, notation, axiom, sorry.
-/
import Derived.Test.YtlmddmkobhkndaaDoorRows
import GoSem.ClaimSeven
namespace Go.Proofs.YtlmddmkobhkndaaDoor
namespace Rows

/-- THE TIED CARD OF 'hatchwaylaw13.CommandPuts'. -/
def commandPutsCard : Claim7 := { stood := { row := commandPutsRow, standIns := [], harness := (true, "e207cd842ce917781f932f9a86d8faf97cd8c7fd05f74ca558ebfe4386c41874"), looks := false }, kinds := [], alts := [], laidByText := true, laidKinds := [.data, .pinned], laidTests := true, laidLooks := .later }
def CommandPutsCardSaid : Prop := Claim7.holds Tryd.pinned (.plain (OpenSpec.ofChange commandPutsSpec)) commandPutsCard

/-- THE TIED CARD OF 'hatchwaylaw13.CommandGets'. -/
def commandGetsCard : Claim7 := { stood := { row := commandGetsRow, standIns := [], harness := (true, "e207cd842ce917781f932f9a86d8faf97cd8c7fd05f74ca558ebfe4386c41874"), looks := false }, kinds := [], alts := [], laidByText := true, laidKinds := [.data, .pinned], laidTests := true, laidLooks := .later }
def CommandGetsCardSaid : Prop := Claim7.holds Tryd.pinned (.plain (OpenSpec.ofChange commandGetsSpec)) commandGetsCard

/-- THE TIED CARD OF 'hatchwaylaw13.CommandTurned'. -/
def commandTurnedCard : Claim7 := { stood := { row := commandTurnedRow, standIns := [], harness := (true, "e207cd842ce917781f932f9a86d8faf97cd8c7fd05f74ca558ebfe4386c41874"), looks := false }, kinds := [], alts := [], laidByText := true, laidKinds := [.data, .pinned], laidTests := true, laidLooks := .later }
def CommandTurnedCardSaid : Prop := Claim7.holds Tryd.pinned (.plain (OpenSpec.ofChange commandTurnedSpec)) commandTurnedCard

/-- THE TIED CARD OF 'hatchwaylaw27.HexesDumps'. -/
def hexesDumpsCard : Claim7 := { stood := { row := hexesDumpsRow, standIns := [], harness := (true, "e207cd842ce917781f932f9a86d8faf97cd8c7fd05f74ca558ebfe4386c41874"), looks := false }, kinds := [], alts := [], laidByText := true, laidKinds := [.data, .pinned], laidTests := true, laidLooks := .later }
def HexesDumpsCardSaid : Prop := Claim7.holds Tryd.pinned (.plain (OpenSpec.ofChange hexesDumpsSpec)) hexesDumpsCard

/-- THE TIED CARD OF 'hatchwaylaw27.HexesReads'. -/
def hexesReadsCard : Claim7 := { stood := { row := hexesReadsRow, standIns := [], harness := (true, "e207cd842ce917781f932f9a86d8faf97cd8c7fd05f74ca558ebfe4386c41874"), looks := false }, kinds := [], alts := [], laidByText := true, laidKinds := [.data, .pinned], laidTests := true, laidLooks := .later }
def HexesReadsCardSaid : Prop := Claim7.holds Tryd.pinned (.plain (OpenSpec.ofChange hexesReadsSpec)) hexesReadsCard

/-- THE SECOND FORM's CARD OF 'hatchwaylaw13.CommandPuts'. -/
def commandPutsUptoCard : Claim7 := { stood := { row := commandPutsUptoRow, standIns := [], harness := (true, "e207cd842ce917781f932f9a86d8faf97cd8c7fd05f74ca558ebfe4386c41874"), looks := false }, kinds := [], alts := [], laidByText := true, laidKinds := [.data, .pinned], laidTests := true, laidLooks := .later }
def CommandPutsUptoCardSaid : Prop := Claim7.holds Tryd.pinned (.plain (OpenSpec.upto commandPutsSpec)) commandPutsUptoCard

/-- THE SECOND FORM's CARD OF 'hatchwaylaw13.CommandGets'. -/
def commandGetsUptoCard : Claim7 := { stood := { row := commandGetsUptoRow, standIns := [], harness := (true, "e207cd842ce917781f932f9a86d8faf97cd8c7fd05f74ca558ebfe4386c41874"), looks := false }, kinds := [], alts := [], laidByText := true, laidKinds := [.data, .pinned], laidTests := true, laidLooks := .later }
def CommandGetsUptoCardSaid : Prop := Claim7.holds Tryd.pinned (.plain (OpenSpec.upto commandGetsSpec)) commandGetsUptoCard

/-- THE SECOND FORM's CARD OF 'hatchwaylaw13.CommandTurned'. -/
def commandTurnedUptoCard : Claim7 := { stood := { row := commandTurnedUptoRow, standIns := [], harness := (true, "e207cd842ce917781f932f9a86d8faf97cd8c7fd05f74ca558ebfe4386c41874"), looks := false }, kinds := [], alts := [], laidByText := true, laidKinds := [.data, .pinned], laidTests := true, laidLooks := .later }
def CommandTurnedUptoCardSaid : Prop := Claim7.holds Tryd.pinned (.plain (OpenSpec.upto commandTurnedSpec)) commandTurnedUptoCard

/-- THE SECOND FORM's CARD OF 'hatchwaylaw27.HexesDumps'. -/
def hexesDumpsUptoCard : Claim7 := { stood := { row := hexesDumpsUptoRow, standIns := [], harness := (true, "e207cd842ce917781f932f9a86d8faf97cd8c7fd05f74ca558ebfe4386c41874"), looks := false }, kinds := [], alts := [], laidByText := true, laidKinds := [.data, .pinned], laidTests := true, laidLooks := .later }
def HexesDumpsUptoCardSaid : Prop := Claim7.holds Tryd.pinned (.plain (OpenSpec.upto hexesDumpsSpec)) hexesDumpsUptoCard

/-- THE SECOND FORM's CARD OF 'hatchwaylaw27.HexesReads'. -/
def hexesReadsUptoCard : Claim7 := { stood := { row := hexesReadsUptoRow, standIns := [], harness := (true, "e207cd842ce917781f932f9a86d8faf97cd8c7fd05f74ca558ebfe4386c41874"), looks := false }, kinds := [], alts := [], laidByText := true, laidKinds := [.data, .pinned], laidTests := true, laidLooks := .later }
def HexesReadsUptoCardSaid : Prop := Claim7.holds Tryd.pinned (.plain (OpenSpec.upto hexesReadsSpec)) hexesReadsUptoCard
end Rows
end Go.Proofs.YtlmddmkobhkndaaDoor
