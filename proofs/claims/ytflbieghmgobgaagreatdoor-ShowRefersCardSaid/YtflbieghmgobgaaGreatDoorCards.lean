/-
  DERIVED. GIVEN WITH THE SEED: THE CARDS: each row of YtflbieghmgobgaaGreatDoorRows.lean that lists a variable, with what it lists TIED to the program's text (the seventh form; the later family's looks); each row that meets fmt, with fmt's text TOLD by the authors' own Lean function (tested against real Go, not proved from fmt's source: count such statements apart). THE CARD IS WHAT COUNTS. Prove the row's statement (the work); the ties are given (YtflbieghmgobgaaGreatDoorTie.lean); close each card by the builder's one call (the guide's Derived/Test/ToyasCard.lean, 'card_holds'). Laid BY PROGRAM, IN A SANDBOX (cutbox-door.mjs). By AI agents, Wed Nov 11 2026. No macro, syntax, notation, axiom, sorry.
-/
import Derived.Test.YtflbieghmgobgaaGreatDoorRows
import GoSem.ClaimSeven
namespace Go.Proofs.YtflbieghmgobgaaGreatDoor
namespace Rows

/-- THE TIED CARD OF 'luminairelaw31.ShowChecks'. -/
def showChecksCard : Claim7 := { stood := { row := showChecksRow, standIns := [], harness := (true, "e911ed88ba699e23f90496f2bb463d83dcb64d7166623572cf17b98209ce759f"), looks := true }, kinds := [], alts := [], laidByText := true, laidKinds := [.data, .data, .data, .data, .sentinel, .sentinel, .pinned], laidTests := true, laidLooks := .later }
def ShowChecksCardSaid : Prop := Claim7.holds Tryz.pinned (.plain (OpenSpec.ofChange showChecksSpec)) showChecksCard

/-- THE TIED CARD OF 'luminairelaw31.ShowLevels'. -/
def showLevelsCard : Claim7 := { stood := { row := showLevelsRow, standIns := [], harness := (true, "e911ed88ba699e23f90496f2bb463d83dcb64d7166623572cf17b98209ce759f"), looks := true }, kinds := [], alts := [], laidByText := true, laidKinds := [.data, .data, .data, .data, .sentinel, .sentinel, .pinned], laidTests := true, laidLooks := .later }
def ShowLevelsCardSaid : Prop := Claim7.holds Tryz.pinned (.plain (OpenSpec.ofChange showLevelsSpec)) showLevelsCard

/-- THE TIED CARD OF 'luminairelaw31.ShowPatches'. -/
def showPatchesCard : Claim7 := { stood := { row := showPatchesRow, standIns := [], harness := (true, "e911ed88ba699e23f90496f2bb463d83dcb64d7166623572cf17b98209ce759f"), looks := true }, kinds := [], alts := [], laidByText := true, laidKinds := [.data, .data, .data, .data, .sentinel, .sentinel, .pinned], laidTests := true, laidLooks := .later }
def ShowPatchesCardSaid : Prop := Claim7.holds Tryz.pinned (.plain (OpenSpec.ofChange showPatchesSpec)) showPatchesCard

/-- THE TIED CARD OF 'luminairelaw31.ShowStrips'. -/
def showStripsCard : Claim7 := { stood := { row := showStripsRow, standIns := [], harness := (true, "e911ed88ba699e23f90496f2bb463d83dcb64d7166623572cf17b98209ce759f"), looks := true }, kinds := [], alts := [], laidByText := true, laidKinds := [.data, .data, .data, .data, .sentinel, .sentinel, .pinned], laidTests := true, laidLooks := .later }
def ShowStripsCardSaid : Prop := Claim7.holds Tryz.pinned (.plain (OpenSpec.ofChange showStripsSpec)) showStripsCard

/-- THE TIED CARD OF 'luminairelaw31.ShowRefers'. -/
def showRefersCard : Claim7 := { stood := { row := showRefersRow, standIns := [], harness := (true, "e911ed88ba699e23f90496f2bb463d83dcb64d7166623572cf17b98209ce759f"), looks := true }, kinds := [], alts := [], laidByText := true, laidKinds := [.data, .data, .data, .data, .sentinel, .sentinel, .pinned], laidTests := true, laidLooks := .later }
def ShowRefersCardSaid : Prop := Claim7.holds Tryz.pinned (.plain (OpenSpec.ofChange showRefersSpec)) showRefersCard

/-- THE TIED CARD OF 'luminairelaw31.ShowFeatures'. -/
def showFeaturesCard : Claim7 := { stood := { row := showFeaturesRow, standIns := [], harness := (true, "e911ed88ba699e23f90496f2bb463d83dcb64d7166623572cf17b98209ce759f"), looks := true }, kinds := [], alts := [], laidByText := true, laidKinds := [.data, .data, .data, .data, .sentinel, .sentinel, .pinned], laidTests := true, laidLooks := .later }
def ShowFeaturesCardSaid : Prop := Claim7.holds Tryz.pinned (.plain (OpenSpec.ofChange showFeaturesSpec)) showFeaturesCard

/-- THE TIED CARD OF 'luminairelaw31.ShowFinds'. -/
def showFindsCard : Claim7 := { stood := { row := showFindsRow, standIns := [], harness := (true, "e911ed88ba699e23f90496f2bb463d83dcb64d7166623572cf17b98209ce759f"), looks := true }, kinds := [], alts := [], laidByText := true, laidKinds := [.data, .data, .data, .data, .sentinel, .sentinel, .pinned], laidTests := true, laidLooks := .later }
def ShowFindsCardSaid : Prop := Claim7.holds Tryz.pinned (.plain (OpenSpec.ofChange showFindsSpec)) showFindsCard

/-- THE TIED CARD OF 'luminairelaw31.ShowNumbers'. -/
def showNumbersCard : Claim7 := { stood := { row := showNumbersRow, standIns := [], harness := (true, "e911ed88ba699e23f90496f2bb463d83dcb64d7166623572cf17b98209ce759f"), looks := true }, kinds := [], alts := [], laidByText := true, laidKinds := [.data, .data, .data, .data, .sentinel, .sentinel, .pinned], laidTests := true, laidLooks := .later }
def ShowNumbersCardSaid : Prop := Claim7.holds Tryz.pinned (.plain (OpenSpec.ofChange showNumbersSpec)) showNumbersCard

/-- THE SECOND FORM's CARD OF 'luminairelaw31.ShowChecks'. -/
def showChecksUptoCard : Claim7 := { stood := { row := showChecksUptoRow, standIns := [], harness := (true, "e911ed88ba699e23f90496f2bb463d83dcb64d7166623572cf17b98209ce759f"), looks := true }, kinds := [], alts := [], laidByText := true, laidKinds := [.data, .data, .data, .data, .sentinel, .sentinel, .pinned], laidTests := true, laidLooks := .later }
def ShowChecksUptoCardSaid : Prop := Claim7.holds Tryz.pinned (.plain (OpenSpec.upto showChecksSpec)) showChecksUptoCard

/-- THE SECOND FORM's CARD OF 'luminairelaw31.ShowLevels'. -/
def showLevelsUptoCard : Claim7 := { stood := { row := showLevelsUptoRow, standIns := [], harness := (true, "e911ed88ba699e23f90496f2bb463d83dcb64d7166623572cf17b98209ce759f"), looks := true }, kinds := [], alts := [], laidByText := true, laidKinds := [.data, .data, .data, .data, .sentinel, .sentinel, .pinned], laidTests := true, laidLooks := .later }
def ShowLevelsUptoCardSaid : Prop := Claim7.holds Tryz.pinned (.plain (OpenSpec.upto showLevelsSpec)) showLevelsUptoCard

/-- THE SECOND FORM's CARD OF 'luminairelaw31.ShowPatches'. -/
def showPatchesUptoCard : Claim7 := { stood := { row := showPatchesUptoRow, standIns := [], harness := (true, "e911ed88ba699e23f90496f2bb463d83dcb64d7166623572cf17b98209ce759f"), looks := true }, kinds := [], alts := [], laidByText := true, laidKinds := [.data, .data, .data, .data, .sentinel, .sentinel, .pinned], laidTests := true, laidLooks := .later }
def ShowPatchesUptoCardSaid : Prop := Claim7.holds Tryz.pinned (.plain (OpenSpec.upto showPatchesSpec)) showPatchesUptoCard

/-- THE SECOND FORM's CARD OF 'luminairelaw31.ShowStrips'. -/
def showStripsUptoCard : Claim7 := { stood := { row := showStripsUptoRow, standIns := [], harness := (true, "e911ed88ba699e23f90496f2bb463d83dcb64d7166623572cf17b98209ce759f"), looks := true }, kinds := [], alts := [], laidByText := true, laidKinds := [.data, .data, .data, .data, .sentinel, .sentinel, .pinned], laidTests := true, laidLooks := .later }
def ShowStripsUptoCardSaid : Prop := Claim7.holds Tryz.pinned (.plain (OpenSpec.upto showStripsSpec)) showStripsUptoCard

/-- THE SECOND FORM's CARD OF 'luminairelaw31.ShowRefers'. -/
def showRefersUptoCard : Claim7 := { stood := { row := showRefersUptoRow, standIns := [], harness := (true, "e911ed88ba699e23f90496f2bb463d83dcb64d7166623572cf17b98209ce759f"), looks := true }, kinds := [], alts := [], laidByText := true, laidKinds := [.data, .data, .data, .data, .sentinel, .sentinel, .pinned], laidTests := true, laidLooks := .later }
def ShowRefersUptoCardSaid : Prop := Claim7.holds Tryz.pinned (.plain (OpenSpec.upto showRefersSpec)) showRefersUptoCard

/-- THE SECOND FORM's CARD OF 'luminairelaw31.ShowFeatures'. -/
def showFeaturesUptoCard : Claim7 := { stood := { row := showFeaturesUptoRow, standIns := [], harness := (true, "e911ed88ba699e23f90496f2bb463d83dcb64d7166623572cf17b98209ce759f"), looks := true }, kinds := [], alts := [], laidByText := true, laidKinds := [.data, .data, .data, .data, .sentinel, .sentinel, .pinned], laidTests := true, laidLooks := .later }
def ShowFeaturesUptoCardSaid : Prop := Claim7.holds Tryz.pinned (.plain (OpenSpec.upto showFeaturesSpec)) showFeaturesUptoCard

/-- THE SECOND FORM's CARD OF 'luminairelaw31.ShowFinds'. -/
def showFindsUptoCard : Claim7 := { stood := { row := showFindsUptoRow, standIns := [], harness := (true, "e911ed88ba699e23f90496f2bb463d83dcb64d7166623572cf17b98209ce759f"), looks := true }, kinds := [], alts := [], laidByText := true, laidKinds := [.data, .data, .data, .data, .sentinel, .sentinel, .pinned], laidTests := true, laidLooks := .later }
def ShowFindsUptoCardSaid : Prop := Claim7.holds Tryz.pinned (.plain (OpenSpec.upto showFindsSpec)) showFindsUptoCard

/-- THE SECOND FORM's CARD OF 'luminairelaw31.ShowNumbers'. -/
def showNumbersUptoCard : Claim7 := { stood := { row := showNumbersUptoRow, standIns := [], harness := (true, "e911ed88ba699e23f90496f2bb463d83dcb64d7166623572cf17b98209ce759f"), looks := true }, kinds := [], alts := [], laidByText := true, laidKinds := [.data, .data, .data, .data, .sentinel, .sentinel, .pinned], laidTests := true, laidLooks := .later }
def ShowNumbersUptoCardSaid : Prop := Claim7.holds Tryz.pinned (.plain (OpenSpec.upto showNumbersSpec)) showNumbersUptoCard
end Rows
end Go.Proofs.YtflbieghmgobgaaGreatDoor
