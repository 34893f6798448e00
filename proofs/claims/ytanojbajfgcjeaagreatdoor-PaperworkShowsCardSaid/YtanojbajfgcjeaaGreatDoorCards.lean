/-
  DERIVED. GIVEN WITH THE SEED: THE CARDS: each row of YtanojbajfgcjeaaGreatDoorRows.lean that lists a variable, with what it lists TIED to the program's text (the seventh form; the later family's looks); each row that meets fmt, with fmt's text TOLD by the authors' own Lean function (tested against real Go, not proved from fmt's source: count such statements apart). THE CARD IS WHAT COUNTS. Prove the row's statement (the work); the ties are given (YtanojbajfgcjeaaGreatDoorTie.lean); close each card by the builder's one call (the guide's Derived/Test/ToyasCard.lean, 'card_holds'). Laid BY PROGRAM, IN A SANDBOX (cutbox-door.mjs). By AI agents, Wed Nov 11 2026. No macro, syntax, notation, axiom, sorry.
-/
import Derived.Test.YtanojbajfgcjeaaGreatDoorRows
import GoSem.ClaimSeven
namespace Go.Proofs.YtanojbajfgcjeaaGreatDoor
namespace Rows

/-- THE TIED CARD OF 'luminairelaw58.PaperworkTables'. -/
def paperworkTablesCard : Claim7 := { stood := { row := paperworkTablesRow, standIns := [], harness := (true, "7c742caf1de217e55c6c785831455d387b647071ea8af6e70eaada5fecbdd98a"), looks := true }, kinds := [], alts := [], laidByText := true, laidKinds := [.data, .data, .data, .data, .sentinel, .sentinel, .listed, .data, .pinned], laidTests := true, laidLooks := .later }
def PaperworkTablesCardSaid : Prop := Claim7.holds Tryz.pinned (.plain (OpenSpec.ofChange paperworkTablesSpec)) paperworkTablesCard

/-- THE TIED CARD OF 'luminairelaw58.PaperworkAligns'. -/
def paperworkAlignsCard : Claim7 := { stood := { row := paperworkAlignsRow, standIns := [], harness := (true, "7c742caf1de217e55c6c785831455d387b647071ea8af6e70eaada5fecbdd98a"), looks := true }, kinds := [], alts := [], laidByText := true, laidKinds := [.data, .data, .data, .data, .sentinel, .sentinel, .listed, .data, .pinned], laidTests := true, laidLooks := .later }
def PaperworkAlignsCardSaid : Prop := Claim7.holds Tryz.pinned (.plain (OpenSpec.ofChange paperworkAlignsSpec)) paperworkAlignsCard

/-- THE TIED CARD OF 'luminairelaw58.PaperworkSlots'. -/
def paperworkSlotsCard : Claim7 := { stood := { row := paperworkSlotsRow, standIns := [], harness := (true, "7c742caf1de217e55c6c785831455d387b647071ea8af6e70eaada5fecbdd98a"), looks := true }, kinds := [], alts := [], laidByText := true, laidKinds := [.data, .data, .data, .data, .sentinel, .sentinel, .listed, .data, .pinned], laidTests := true, laidLooks := .later }
def PaperworkSlotsCardSaid : Prop := Claim7.holds Tryz.pinned (.plain (OpenSpec.ofChange paperworkSlotsSpec)) paperworkSlotsCard

/-- THE TIED CARD OF 'luminairelaw58.PaperworkUses'. -/
def paperworkUsesCard : Claim7 := { stood := { row := paperworkUsesRow, standIns := [], harness := (true, "7c742caf1de217e55c6c785831455d387b647071ea8af6e70eaada5fecbdd98a"), looks := true }, kinds := [], alts := [], laidByText := true, laidKinds := [.data, .data, .data, .data, .sentinel, .sentinel, .listed, .data, .pinned], laidTests := true, laidLooks := .later }
def PaperworkUsesCardSaid : Prop := Claim7.holds Tryz.pinned (.plain (OpenSpec.ofChange paperworkUsesSpec)) paperworkUsesCard

/-- THE TIED CARD OF 'luminairelaw58.PaperworkShows'. -/
def paperworkShowsCard : Claim7 := { stood := { row := paperworkShowsRow, standIns := [], harness := (true, "7c742caf1de217e55c6c785831455d387b647071ea8af6e70eaada5fecbdd98a"), looks := true }, kinds := [], alts := [], laidByText := true, laidKinds := [.data, .data, .data, .data, .sentinel, .sentinel, .listed, .data, .pinned], laidTests := true, laidLooks := .later }
def PaperworkShowsCardSaid : Prop := Claim7.holds Tryz.pinned (.plain (OpenSpec.ofChange paperworkShowsSpec)) paperworkShowsCard

/-- THE TIED CARD OF 'luminairelaw58.PaperworkCounts'. -/
def paperworkCountsCard : Claim7 := { stood := { row := paperworkCountsRow, standIns := [], harness := (true, "7c742caf1de217e55c6c785831455d387b647071ea8af6e70eaada5fecbdd98a"), looks := true }, kinds := [], alts := [], laidByText := true, laidKinds := [.data, .data, .data, .data, .sentinel, .sentinel, .listed, .data, .pinned], laidTests := true, laidLooks := .later }
def PaperworkCountsCardSaid : Prop := Claim7.holds Tryz.pinned (.plain (OpenSpec.ofChange paperworkCountsSpec)) paperworkCountsCard

/-- THE SECOND FORM's CARD OF 'luminairelaw58.PaperworkTables'. -/
def paperworkTablesUptoCard : Claim7 := { stood := { row := paperworkTablesUptoRow, standIns := [], harness := (true, "7c742caf1de217e55c6c785831455d387b647071ea8af6e70eaada5fecbdd98a"), looks := true }, kinds := [], alts := [], laidByText := true, laidKinds := [.data, .data, .data, .data, .sentinel, .sentinel, .listed, .data, .pinned], laidTests := true, laidLooks := .later }
def PaperworkTablesUptoCardSaid : Prop := Claim7.holds Tryz.pinned (.plain (OpenSpec.upto paperworkTablesSpec)) paperworkTablesUptoCard

/-- THE SECOND FORM's CARD OF 'luminairelaw58.PaperworkAligns'. -/
def paperworkAlignsUptoCard : Claim7 := { stood := { row := paperworkAlignsUptoRow, standIns := [], harness := (true, "7c742caf1de217e55c6c785831455d387b647071ea8af6e70eaada5fecbdd98a"), looks := true }, kinds := [], alts := [], laidByText := true, laidKinds := [.data, .data, .data, .data, .sentinel, .sentinel, .listed, .data, .pinned], laidTests := true, laidLooks := .later }
def PaperworkAlignsUptoCardSaid : Prop := Claim7.holds Tryz.pinned (.plain (OpenSpec.upto paperworkAlignsSpec)) paperworkAlignsUptoCard

/-- THE SECOND FORM's CARD OF 'luminairelaw58.PaperworkSlots'. -/
def paperworkSlotsUptoCard : Claim7 := { stood := { row := paperworkSlotsUptoRow, standIns := [], harness := (true, "7c742caf1de217e55c6c785831455d387b647071ea8af6e70eaada5fecbdd98a"), looks := true }, kinds := [], alts := [], laidByText := true, laidKinds := [.data, .data, .data, .data, .sentinel, .sentinel, .listed, .data, .pinned], laidTests := true, laidLooks := .later }
def PaperworkSlotsUptoCardSaid : Prop := Claim7.holds Tryz.pinned (.plain (OpenSpec.upto paperworkSlotsSpec)) paperworkSlotsUptoCard

/-- THE SECOND FORM's CARD OF 'luminairelaw58.PaperworkUses'. -/
def paperworkUsesUptoCard : Claim7 := { stood := { row := paperworkUsesUptoRow, standIns := [], harness := (true, "7c742caf1de217e55c6c785831455d387b647071ea8af6e70eaada5fecbdd98a"), looks := true }, kinds := [], alts := [], laidByText := true, laidKinds := [.data, .data, .data, .data, .sentinel, .sentinel, .listed, .data, .pinned], laidTests := true, laidLooks := .later }
def PaperworkUsesUptoCardSaid : Prop := Claim7.holds Tryz.pinned (.plain (OpenSpec.upto paperworkUsesSpec)) paperworkUsesUptoCard

/-- THE SECOND FORM's CARD OF 'luminairelaw58.PaperworkShows'. -/
def paperworkShowsUptoCard : Claim7 := { stood := { row := paperworkShowsUptoRow, standIns := [], harness := (true, "7c742caf1de217e55c6c785831455d387b647071ea8af6e70eaada5fecbdd98a"), looks := true }, kinds := [], alts := [], laidByText := true, laidKinds := [.data, .data, .data, .data, .sentinel, .sentinel, .listed, .data, .pinned], laidTests := true, laidLooks := .later }
def PaperworkShowsUptoCardSaid : Prop := Claim7.holds Tryz.pinned (.plain (OpenSpec.upto paperworkShowsSpec)) paperworkShowsUptoCard

/-- THE SECOND FORM's CARD OF 'luminairelaw58.PaperworkCounts'. -/
def paperworkCountsUptoCard : Claim7 := { stood := { row := paperworkCountsUptoRow, standIns := [], harness := (true, "7c742caf1de217e55c6c785831455d387b647071ea8af6e70eaada5fecbdd98a"), looks := true }, kinds := [], alts := [], laidByText := true, laidKinds := [.data, .data, .data, .data, .sentinel, .sentinel, .listed, .data, .pinned], laidTests := true, laidLooks := .later }
def PaperworkCountsUptoCardSaid : Prop := Claim7.holds Tryz.pinned (.plain (OpenSpec.upto paperworkCountsSpec)) paperworkCountsUptoCard
end Rows
end Go.Proofs.YtanojbajfgcjeaaGreatDoor
