/-
  DERIVED. GIVEN WITH THE SEED: THE CARDS: each row of YtdnpaifeoinjoaaGreatDoorRows.lean that lists a variable, with what it lists TIED to the program's text (the seventh form; the later family's looks); each row that meets fmt, with fmt's text TOLD by the authors' own Lean function (tested against real Go, not proved from fmt's source: count such statements apart). THE CARD IS WHAT COUNTS. Prove the row's statement (the work); the ties are given (YtdnpaifeoinjoaaGreatDoorTie.lean); close each card by the builder's one call (the guide's Derived/Test/ToyasCard.lean, 'card_holds'). Laid BY PROGRAM, IN A SANDBOX (cutbox-door.mjs). By AI agents, Wed Nov 11 2026. No macro, syntax, notation, axiom, sorry.
-/
import Derived.Test.YtdnpaifeoinjoaaGreatDoorRows
import GoSem.ClaimSeven
namespace Go.Proofs.YtdnpaifeoinjoaaGreatDoor
namespace Rows

/-- THE TIED CARD OF 'luminairetop.TopLooksRun'. -/
def topLooksRunCard : Claim7 := { stood := { row := topLooksRunRow, standIns := [], harness := (true, "367af3130b62b9b1399605653f69ae6bae48f8ce3aaa94d9e53bfd8164f83bbd"), looks := true }, kinds := [], alts := [], laidByText := true, laidKinds := [.data, .data, .data, .sentinel, .sentinel], laidTests := true, laidLooks := .later }
def TopLooksRunCardSaid : Prop := Claim7.holds Tryz.pinned (.plain (OpenSpec.ofChange topLooksRunSpec)) topLooksRunCard

/-- THE TIED CARD OF 'luminairetop.TopRunsAreSteps'. -/
def topRunsAreStepsCard : Claim7 := { stood := { row := topRunsAreStepsRow, standIns := [], harness := (true, "367af3130b62b9b1399605653f69ae6bae48f8ce3aaa94d9e53bfd8164f83bbd"), looks := true }, kinds := [], alts := [], laidByText := true, laidKinds := [.data, .data, .data, .sentinel, .sentinel], laidTests := true, laidLooks := .later }
def TopRunsAreStepsCardSaid : Prop := Claim7.holds Tryz.pinned (.plain (OpenSpec.ofChange topRunsAreStepsSpec)) topRunsAreStepsCard

/-- THE TIED CARD OF 'luminairetop.TopUpdatesReach'. -/
def topUpdatesReachCard : Claim7 := { stood := { row := topUpdatesReachRow, standIns := [], harness := (true, "367af3130b62b9b1399605653f69ae6bae48f8ce3aaa94d9e53bfd8164f83bbd"), looks := true }, kinds := [], alts := [], laidByText := true, laidKinds := [.data, .data, .data, .sentinel, .sentinel], laidTests := true, laidLooks := .later }
def TopUpdatesReachCardSaid : Prop := Claim7.holds Tryz.pinned (.plain (OpenSpec.ofChange topUpdatesReachSpec)) topUpdatesReachCard

/-- THE TIED CARD OF 'luminairetop.TopMarksMoveTheDark'. -/
def topMarksMoveTheDarkCard : Claim7 := { stood := { row := topMarksMoveTheDarkRow, standIns := [], harness := (true, "367af3130b62b9b1399605653f69ae6bae48f8ce3aaa94d9e53bfd8164f83bbd"), looks := true }, kinds := [], alts := [], laidByText := true, laidKinds := [.data, .data, .data, .sentinel, .sentinel], laidTests := true, laidLooks := .later }
def TopMarksMoveTheDarkCardSaid : Prop := Claim7.holds Tryz.pinned (.plain (OpenSpec.ofChange topMarksMoveTheDarkSpec)) topMarksMoveTheDarkCard

/-- THE SECOND FORM's CARD OF 'luminairetop.TopLooksRun'. -/
def topLooksRunUptoCard : Claim7 := { stood := { row := topLooksRunUptoRow, standIns := [], harness := (true, "367af3130b62b9b1399605653f69ae6bae48f8ce3aaa94d9e53bfd8164f83bbd"), looks := true }, kinds := [], alts := [], laidByText := true, laidKinds := [.data, .data, .data, .sentinel, .sentinel], laidTests := true, laidLooks := .later }
def TopLooksRunUptoCardSaid : Prop := Claim7.holds Tryz.pinned (.plain (OpenSpec.upto topLooksRunSpec)) topLooksRunUptoCard

/-- THE SECOND FORM's CARD OF 'luminairetop.TopRunsAreSteps'. -/
def topRunsAreStepsUptoCard : Claim7 := { stood := { row := topRunsAreStepsUptoRow, standIns := [], harness := (true, "367af3130b62b9b1399605653f69ae6bae48f8ce3aaa94d9e53bfd8164f83bbd"), looks := true }, kinds := [], alts := [], laidByText := true, laidKinds := [.data, .data, .data, .sentinel, .sentinel], laidTests := true, laidLooks := .later }
def TopRunsAreStepsUptoCardSaid : Prop := Claim7.holds Tryz.pinned (.plain (OpenSpec.upto topRunsAreStepsSpec)) topRunsAreStepsUptoCard

/-- THE SECOND FORM's CARD OF 'luminairetop.TopUpdatesReach'. -/
def topUpdatesReachUptoCard : Claim7 := { stood := { row := topUpdatesReachUptoRow, standIns := [], harness := (true, "367af3130b62b9b1399605653f69ae6bae48f8ce3aaa94d9e53bfd8164f83bbd"), looks := true }, kinds := [], alts := [], laidByText := true, laidKinds := [.data, .data, .data, .sentinel, .sentinel], laidTests := true, laidLooks := .later }
def TopUpdatesReachUptoCardSaid : Prop := Claim7.holds Tryz.pinned (.plain (OpenSpec.upto topUpdatesReachSpec)) topUpdatesReachUptoCard

/-- THE SECOND FORM's CARD OF 'luminairetop.TopMarksMoveTheDark'. -/
def topMarksMoveTheDarkUptoCard : Claim7 := { stood := { row := topMarksMoveTheDarkUptoRow, standIns := [], harness := (true, "367af3130b62b9b1399605653f69ae6bae48f8ce3aaa94d9e53bfd8164f83bbd"), looks := true }, kinds := [], alts := [], laidByText := true, laidKinds := [.data, .data, .data, .sentinel, .sentinel], laidTests := true, laidLooks := .later }
def TopMarksMoveTheDarkUptoCardSaid : Prop := Claim7.holds Tryz.pinned (.plain (OpenSpec.upto topMarksMoveTheDarkSpec)) topMarksMoveTheDarkUptoCard
end Rows
end Go.Proofs.YtdnpaifeoinjoaaGreatDoor
