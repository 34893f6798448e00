/-
  DERIVED. GIVEN WITH THE SEED: THE CARDS: each row of YtmjkgajnpmiomaaGreatDoorRows.lean that lists a variable, with what it lists TIED to the program's text (the seventh form; the later family's looks); each row that meets fmt, with fmt's text TOLD by the authors' own Lean function (tested against real Go, not proved from fmt's source: count such statements apart). THE CARD IS WHAT COUNTS. Prove the row's statement (the work); the ties are given (YtmjkgajnpmiomaaGreatDoorTie.lean); close each card by the builder's one call (the guide's Derived/Test/ToyasCard.lean, 'card_holds'). Laid BY PROGRAM, IN A SANDBOX (cutbox-door.mjs). By AI agents, Wed Nov 11 2026. No macro, syntax, notation, axiom, sorry.
-/
import Derived.Test.YtmjkgajnpmiomaaGreatDoorRows
import GoSem.ClaimSeven
namespace Go.Proofs.YtmjkgajnpmiomaaGreatDoor
namespace Rows

/-- THE TIED CARD OF 'luminairetop.TopEditsAreUndone'. -/
def topEditsAreUndoneCard : Claim7 := { stood := { row := topEditsAreUndoneRow, standIns := [], harness := (true, "e3035ed6b0de6512757dcd703b9e005db118c2dfda32b78feab51819443ea38c"), looks := true }, kinds := [], alts := [], laidByText := true, laidKinds := [.data, .data, .data, .data, .sentinel, .sentinel, .pinned], laidTests := true, laidLooks := .later }
def TopEditsAreUndoneCardSaid : Prop := Claim7.holds Tryz.pinned (.plain (OpenSpec.ofChange topEditsAreUndoneSpec)) topEditsAreUndoneCard

/-- THE SECOND FORM's CARD OF 'luminairetop.TopEditsAreUndone'. -/
def topEditsAreUndoneUptoCard : Claim7 := { stood := { row := topEditsAreUndoneUptoRow, standIns := [], harness := (true, "e3035ed6b0de6512757dcd703b9e005db118c2dfda32b78feab51819443ea38c"), looks := true }, kinds := [], alts := [], laidByText := true, laidKinds := [.data, .data, .data, .data, .sentinel, .sentinel, .pinned], laidTests := true, laidLooks := .later }
def TopEditsAreUndoneUptoCardSaid : Prop := Claim7.holds Tryz.pinned (.plain (OpenSpec.upto topEditsAreUndoneSpec)) topEditsAreUndoneUptoCard
end Rows
end Go.Proofs.YtmjkgajnpmiomaaGreatDoor
