/-
  DERIVED. GIVEN WITH THE SEED: THE CARDS: each row of YtdkokbhcjmapdaaGreatDoorRows.lean that lists a variable, with what it lists TIED to the program's text (the seventh form; the later family's looks); each row that meets fmt, with fmt's text TOLD by the authors' own Lean function (tested against real Go, not proved from fmt's source: count such statements apart). THE CARD IS WHAT COUNTS. Prove the row's statement (the work); the ties are given (YtdkokbhcjmapdaaGreatDoorTie.lean); close each card by the builder's one call (the guide's Derived/Test/ToyasCard.lean, 'card_holds'). Laid BY PROGRAM, IN A SANDBOX (cutbox-door.mjs). By AI agents, Wed Nov 11 2026. No macro, syntax, notation, axiom, sorry.
-/
import Derived.Test.YtdkokbhcjmapdaaGreatDoorRows
import GoSem.ClaimSeven
namespace Go.Proofs.YtdkokbhcjmapdaaGreatDoor
namespace Rows

/-- THE TIED CARD OF 'luminairelaw58.PaperworkCues'. -/
def paperworkCuesCard : Claim7 := { stood := { row := paperworkCuesRow, standIns := [], harness := (true, "873549bfb34636053cdd8816116129716cd22bed529041a5bdbb32d165483df0"), looks := true }, kinds := [], alts := [], laidByText := true, laidKinds := [.data, .data, .data, .data, .sentinel, .sentinel, .listed, .data, .pinned], laidTests := true, laidLooks := .later }
def PaperworkCuesCardSaid : Prop := Claim7.holds Tryz.pinned (.plain (OpenSpec.ofChange paperworkCuesSpec)) paperworkCuesCard

/-- THE TIED CARD OF 'luminairelaw58.PaperworkSheets'. -/
def paperworkSheetsCard : Claim7 := { stood := { row := paperworkSheetsRow, standIns := [], harness := (true, "873549bfb34636053cdd8816116129716cd22bed529041a5bdbb32d165483df0"), looks := true }, kinds := [], alts := [], laidByText := true, laidKinds := [.data, .data, .data, .data, .sentinel, .sentinel, .listed, .data, .pinned], laidTests := true, laidLooks := .later }
def PaperworkSheetsCardSaid : Prop := Claim7.holds Tryz.pinned (.plain (OpenSpec.ofChange paperworkSheetsSpec)) paperworkSheetsCard

/-- THE SECOND FORM's CARD OF 'luminairelaw58.PaperworkCues'. -/
def paperworkCuesUptoCard : Claim7 := { stood := { row := paperworkCuesUptoRow, standIns := [], harness := (true, "873549bfb34636053cdd8816116129716cd22bed529041a5bdbb32d165483df0"), looks := true }, kinds := [], alts := [], laidByText := true, laidKinds := [.data, .data, .data, .data, .sentinel, .sentinel, .listed, .data, .pinned], laidTests := true, laidLooks := .later }
def PaperworkCuesUptoCardSaid : Prop := Claim7.holds Tryz.pinned (.plain (OpenSpec.upto paperworkCuesSpec)) paperworkCuesUptoCard

/-- THE SECOND FORM's CARD OF 'luminairelaw58.PaperworkSheets'. -/
def paperworkSheetsUptoCard : Claim7 := { stood := { row := paperworkSheetsUptoRow, standIns := [], harness := (true, "873549bfb34636053cdd8816116129716cd22bed529041a5bdbb32d165483df0"), looks := true }, kinds := [], alts := [], laidByText := true, laidKinds := [.data, .data, .data, .data, .sentinel, .sentinel, .listed, .data, .pinned], laidTests := true, laidLooks := .later }
def PaperworkSheetsUptoCardSaid : Prop := Claim7.holds Tryz.pinned (.plain (OpenSpec.upto paperworkSheetsSpec)) paperworkSheetsUptoCard
end Rows
end Go.Proofs.YtdkokbhcjmapdaaGreatDoor
