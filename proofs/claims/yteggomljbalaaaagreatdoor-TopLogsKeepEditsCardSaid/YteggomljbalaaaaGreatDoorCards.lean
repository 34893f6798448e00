/-
  DERIVED. GIVEN WITH THE SEED: THE CARDS: each row of YteggomljbalaaaaGreatDoorRows.lean that lists a variable, with what it lists TIED to the program's text (the seventh form; the later family's looks); each row that meets fmt, with fmt's text TOLD by the authors' own Lean function (tested against real Go, not proved from fmt's source: count such statements apart). THE CARD IS WHAT COUNTS. Prove the row's statement (the work); the ties are given (YteggomljbalaaaaGreatDoorTie.lean); close each card by the builder's one call (the guide's Derived/Test/ToyasCard.lean, 'card_holds'). Laid BY PROGRAM, IN A SANDBOX (cutbox-door.mjs). By AI agents, Wed Nov 11 2026. No macro, syntax, notation, axiom, sorry.
-/
import Derived.Test.YteggomljbalaaaaGreatDoorRows
import GoSem.ClaimSeven
namespace Go.Proofs.YteggomljbalaaaaGreatDoor
namespace Rows

/-- THE TIED CARD OF 'luminairetop.TopLogsKeepEdits'. -/
def topLogsKeepEditsCard : Claim7 := { stood := { row := topLogsKeepEditsRow, standIns := [], harness := (true, "a057e922fb5c1d3e37e4631c7627f91c93d13038bb4dd802549ac5f2cced512f"), looks := true }, kinds := [], alts := [], laidByText := true, laidKinds := [.data, .data, .data, .data, .sentinel, .sentinel, .pinned], laidTests := true, laidLooks := .later }
def TopLogsKeepEditsCardSaid : Prop := Claim7.holds Tryz.pinned (.plain (OpenSpec.ofChange topLogsKeepEditsSpec)) topLogsKeepEditsCard

/-- THE SECOND FORM's CARD OF 'luminairetop.TopLogsKeepEdits'. -/
def topLogsKeepEditsUptoCard : Claim7 := { stood := { row := topLogsKeepEditsUptoRow, standIns := [], harness := (true, "a057e922fb5c1d3e37e4631c7627f91c93d13038bb4dd802549ac5f2cced512f"), looks := true }, kinds := [], alts := [], laidByText := true, laidKinds := [.data, .data, .data, .data, .sentinel, .sentinel, .pinned], laidTests := true, laidLooks := .later }
def TopLogsKeepEditsUptoCardSaid : Prop := Claim7.holds Tryz.pinned (.plain (OpenSpec.upto topLogsKeepEditsSpec)) topLogsKeepEditsUptoCard
end Rows
end Go.Proofs.YteggomljbalaaaaGreatDoor
