/-
  DERIVED. GIVEN WITH THE SEED: THE CARDS: each row of YtpbiilllhjeibaaGreatDoorRows.lean that lists a variable, with what it lists TIED to the program's text (the seventh form; the later family's looks); each row that meets fmt, with fmt's text TOLD by the authors' own Lean function (tested against real Go, not proved from fmt's source: count such statements apart). THE CARD IS WHAT COUNTS. Prove the row's statement (the work); the ties are given (YtpbiilllhjeibaaGreatDoorTie.lean); close each card by the builder's one call (the guide's Derived/Test/ToyasCard.lean, 'card_holds'). Laid BY PROGRAM, IN A SANDBOX (cutbox-door.mjs). By AI agents, Wed Nov 11 2026. No macro, syntax, notation, axiom, sorry.
-/
import Derived.Test.YtpbiilllhjeibaaGreatDoorRows
import GoSem.ClaimSeven
namespace Go.Proofs.YtpbiilllhjeibaaGreatDoor
namespace Rows

/-- THE TIED CARD OF 'luminairetop.TopEditsTellLevels'. -/
def topEditsTellLevelsCard : Claim7 := { stood := { row := topEditsTellLevelsRow, standIns := [], harness := (true, "235abb51fc6f30d9c1748bc08272ab25886518402a231fb2a57ac13ea549ca47"), looks := true }, kinds := [], alts := [], laidByText := true, laidKinds := [.data, .data, .data, .data, .sentinel, .sentinel, .pinned], laidTests := true, laidLooks := .later }
def TopEditsTellLevelsCardSaid : Prop := Claim7.holds Tryz.pinned (.plain (OpenSpec.ofChange topEditsTellLevelsSpec)) topEditsTellLevelsCard

/-- THE SECOND FORM's CARD OF 'luminairetop.TopEditsTellLevels'. -/
def topEditsTellLevelsUptoCard : Claim7 := { stood := { row := topEditsTellLevelsUptoRow, standIns := [], harness := (true, "235abb51fc6f30d9c1748bc08272ab25886518402a231fb2a57ac13ea549ca47"), looks := true }, kinds := [], alts := [], laidByText := true, laidKinds := [.data, .data, .data, .data, .sentinel, .sentinel, .pinned], laidTests := true, laidLooks := .later }
def TopEditsTellLevelsUptoCardSaid : Prop := Claim7.holds Tryz.pinned (.plain (OpenSpec.upto topEditsTellLevelsSpec)) topEditsTellLevelsUptoCard
end Rows
end Go.Proofs.YtpbiilllhjeibaaGreatDoor
