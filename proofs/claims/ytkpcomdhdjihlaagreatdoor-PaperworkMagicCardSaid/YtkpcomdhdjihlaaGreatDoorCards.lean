/-
  DERIVED. GIVEN WITH THE SEED: THE CARDS: each row of YtkpcomdhdjihlaaGreatDoorRows.lean that lists a variable, with what it lists TIED to the program's text (the seventh form; the later family's looks); each row that meets fmt, with fmt's text TOLD by the authors' own Lean function (tested against real Go, not proved from fmt's source: count such statements apart). THE CARD IS WHAT COUNTS. Prove the row's statement (the work); the ties are given (YtkpcomdhdjihlaaGreatDoorTie.lean); close each card by the builder's one call (the guide's Derived/Test/ToyasCard.lean, 'card_holds'). Laid BY PROGRAM, IN A SANDBOX (cutbox-door.mjs). By AI agents, Wed Nov 11 2026. No macro, syntax, notation, axiom, sorry.
-/
import Derived.Test.YtkpcomdhdjihlaaGreatDoorRows
import GoSem.ClaimSeven
namespace Go.Proofs.YtkpcomdhdjihlaaGreatDoor
namespace Rows

/-- THE TIED CARD OF 'luminairelaw58.PaperworkMagic'. -/
def paperworkMagicCard : Claim7 := { stood := { row := paperworkMagicRow, standIns := [], harness := (true, "c383dd590e24a1fd9154e110dae34be18da251134f2131b14722c9c8b8345230"), looks := true }, kinds := [], alts := [], laidByText := true, laidKinds := [.data, .data, .data, .data, .sentinel, .sentinel, .listed, .data, .pinned], laidTests := true, laidLooks := .later }
def PaperworkMagicCardSaid : Prop := Claim7.holds Tryz.pinned (.plain (OpenSpec.ofChange paperworkMagicSpec)) paperworkMagicCard

/-- THE SECOND FORM's CARD OF 'luminairelaw58.PaperworkMagic'. -/
def paperworkMagicUptoCard : Claim7 := { stood := { row := paperworkMagicUptoRow, standIns := [], harness := (true, "c383dd590e24a1fd9154e110dae34be18da251134f2131b14722c9c8b8345230"), looks := true }, kinds := [], alts := [], laidByText := true, laidKinds := [.data, .data, .data, .data, .sentinel, .sentinel, .listed, .data, .pinned], laidTests := true, laidLooks := .later }
def PaperworkMagicUptoCardSaid : Prop := Claim7.holds Tryz.pinned (.plain (OpenSpec.upto paperworkMagicSpec)) paperworkMagicUptoCard
end Rows
end Go.Proofs.YtkpcomdhdjihlaaGreatDoor
