/-
  DERIVED. GIVEN WITH THE SEED: THE CARDS: each row of YtaneehgfdpadjaaGreatDoorRows.lean that lists a variable, with what it lists TIED to the program's text (the seventh form; the later family's looks); each row that meets fmt, with fmt's text TOLD by the authors' own Lean function (tested against real Go, not proved from fmt's source: count such statements apart). THE CARD IS WHAT COUNTS. Prove the row's statement (the work); the ties are given (YtaneehgfdpadjaaGreatDoorTie.lean); close each card by the builder's one call (the guide's Derived/Test/ToyasCard.lean, 'card_holds'). Laid BY PROGRAM, IN A SANDBOX (cutbox-door.mjs). By AI agents, Wed Nov 11 2026. No macro, syntax, notation, axiom, sorry.
-/
import Derived.Test.YtaneehgfdpadjaaGreatDoorRows
import GoSem.ClaimSeven
namespace Go.Proofs.YtaneehgfdpadjaaGreatDoor
namespace Rows

/-- THE TIED CARD OF 'luminairetop.TopEditsCommute'. -/
def topEditsCommuteCard : Claim7 := { stood := { row := topEditsCommuteRow, standIns := [], harness := (true, "3e11a55eec13dd5bb5e5f47d51cbb5a2561bbc26cedbd5160a8ba3527222082e"), looks := true }, kinds := [], alts := [], laidByText := true, laidKinds := [.data, .data, .data, .data, .sentinel, .sentinel, .pinned], laidTests := true, laidLooks := .later }
def TopEditsCommuteCardSaid : Prop := Claim7.holds Tryz.pinned (.plain (OpenSpec.ofChange topEditsCommuteSpec)) topEditsCommuteCard

/-- THE SECOND FORM's CARD OF 'luminairetop.TopEditsCommute'. -/
def topEditsCommuteUptoCard : Claim7 := { stood := { row := topEditsCommuteUptoRow, standIns := [], harness := (true, "3e11a55eec13dd5bb5e5f47d51cbb5a2561bbc26cedbd5160a8ba3527222082e"), looks := true }, kinds := [], alts := [], laidByText := true, laidKinds := [.data, .data, .data, .data, .sentinel, .sentinel, .pinned], laidTests := true, laidLooks := .later }
def TopEditsCommuteUptoCardSaid : Prop := Claim7.holds Tryz.pinned (.plain (OpenSpec.upto topEditsCommuteSpec)) topEditsCommuteUptoCard
end Rows
end Go.Proofs.YtaneehgfdpadjaaGreatDoor
