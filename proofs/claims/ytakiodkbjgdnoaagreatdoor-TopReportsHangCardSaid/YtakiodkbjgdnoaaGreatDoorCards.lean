/-
  DERIVED. GIVEN WITH THE SEED: THE CARDS: each row of YtakiodkbjgdnoaaGreatDoorRows.lean that lists a variable, with what it lists TIED to the program's text (the seventh form; the later family's looks); each row that meets fmt, with fmt's text TOLD by the authors' own Lean function (tested against real Go, not proved from fmt's source: count such statements apart). THE CARD IS WHAT COUNTS. Prove the row's statement (the work); the ties are given (YtakiodkbjgdnoaaGreatDoorTie.lean); close each card by the builder's one call (the guide's Derived/Test/ToyasCard.lean, 'card_holds'). Laid BY PROGRAM, IN A SANDBOX (cutbox-door.mjs). By AI agents, Wed Nov 11 2026. No macro, syntax, notation, axiom, sorry.
-/
import Derived.Test.YtakiodkbjgdnoaaGreatDoorRows
import GoSem.ClaimSeven
namespace Go.Proofs.YtakiodkbjgdnoaaGreatDoor
namespace Rows

/-- THE TIED CARD OF 'luminairetop.TopReportsSlots'. -/
def topReportsSlotsCard : Claim7 := { stood := { row := topReportsSlotsRow, standIns := [], harness := (true, "648167481f7eb194487100e24e9fc23dd57b54a120cda35033ebce062b6f489d"), looks := true }, kinds := [], alts := [], laidByText := true, laidKinds := [.data, .data, .data, .data, .sentinel, .sentinel, .pinned], laidTests := true, laidLooks := .later }
def TopReportsSlotsCardSaid : Prop := Claim7.holds Tryz.pinned (.plain (OpenSpec.ofChange topReportsSlotsSpec)) topReportsSlotsCard

/-- THE TIED CARD OF 'luminairetop.TopReportsHang'. -/
def topReportsHangCard : Claim7 := { stood := { row := topReportsHangRow, standIns := [], harness := (true, "648167481f7eb194487100e24e9fc23dd57b54a120cda35033ebce062b6f489d"), looks := true }, kinds := [], alts := [], laidByText := true, laidKinds := [.data, .data, .data, .data, .sentinel, .sentinel, .pinned], laidTests := true, laidLooks := .later }
def TopReportsHangCardSaid : Prop := Claim7.holds Tryz.pinned (.plain (OpenSpec.ofChange topReportsHangSpec)) topReportsHangCard

/-- THE SECOND FORM's CARD OF 'luminairetop.TopReportsSlots'. -/
def topReportsSlotsUptoCard : Claim7 := { stood := { row := topReportsSlotsUptoRow, standIns := [], harness := (true, "648167481f7eb194487100e24e9fc23dd57b54a120cda35033ebce062b6f489d"), looks := true }, kinds := [], alts := [], laidByText := true, laidKinds := [.data, .data, .data, .data, .sentinel, .sentinel, .pinned], laidTests := true, laidLooks := .later }
def TopReportsSlotsUptoCardSaid : Prop := Claim7.holds Tryz.pinned (.plain (OpenSpec.upto topReportsSlotsSpec)) topReportsSlotsUptoCard

/-- THE SECOND FORM's CARD OF 'luminairetop.TopReportsHang'. -/
def topReportsHangUptoCard : Claim7 := { stood := { row := topReportsHangUptoRow, standIns := [], harness := (true, "648167481f7eb194487100e24e9fc23dd57b54a120cda35033ebce062b6f489d"), looks := true }, kinds := [], alts := [], laidByText := true, laidKinds := [.data, .data, .data, .data, .sentinel, .sentinel, .pinned], laidTests := true, laidLooks := .later }
def TopReportsHangUptoCardSaid : Prop := Claim7.holds Tryz.pinned (.plain (OpenSpec.upto topReportsHangSpec)) topReportsHangUptoCard
end Rows
end Go.Proofs.YtakiodkbjgdnoaaGreatDoor
