/-
  DERIVED. GIVEN WITH THE SEED: THE CARDS: each row of YtnondemehfkalaaGreatDoorRows.lean that lists a variable, with what it lists TIED to the program's text (the seventh form; the later family's looks); each row that meets fmt, with fmt's text TOLD by the authors' own Lean function (tested against real Go, not proved from fmt's source: count such statements apart). THE CARD IS WHAT COUNTS. Prove the row's statement (the work); the ties are given (YtnondemehfkalaaGreatDoorTie.lean); close each card by the builder's one call (the guide's Derived/Test/ToyasCard.lean, 'card_holds'). Laid BY PROGRAM, IN A SANDBOX (cutbox-door.mjs). By AI agents, Wed Nov 11 2026. No macro, syntax, notation, axiom, sorry.
-/
import Derived.Test.YtnondemehfkalaaGreatDoorRows
import GoSem.ClaimSeven
namespace Go.Proofs.YtnondemehfkalaaGreatDoor
namespace Rows

/-- THE TIED CARD OF 'luminairelaw39.GrammarParses'. -/
def grammarParsesCard : Claim7 := { stood := { row := grammarParsesRow, standIns := [], harness := (true, "af35234d796363a59299cdc48706c5fa9526b99251c41a6891a81808207e8db5"), looks := true }, kinds := [], alts := [], laidByText := true, laidKinds := [.data, .data, .data, .data, .sentinel, .sentinel, .listed, .data, .pinned], laidTests := true, laidLooks := .later }
def GrammarParsesCardSaid : Prop := Claim7.holds Tryz.pinned (.plain (OpenSpec.ofChange grammarParsesSpec)) grammarParsesCard

/-- THE TIED CARD OF 'luminairelaw39.GrammarWords'. -/
def grammarWordsCard : Claim7 := { stood := { row := grammarWordsRow, standIns := [], harness := (true, "af35234d796363a59299cdc48706c5fa9526b99251c41a6891a81808207e8db5"), looks := true }, kinds := [], alts := [], laidByText := true, laidKinds := [.data, .data, .data, .data, .sentinel, .sentinel, .listed, .data, .pinned], laidTests := true, laidLooks := .later }
def GrammarWordsCardSaid : Prop := Claim7.holds Tryz.pinned (.plain (OpenSpec.ofChange grammarWordsSpec)) grammarWordsCard

/-- THE TIED CARD OF 'luminairelaw39.GrammarRanges'. -/
def grammarRangesCard : Claim7 := { stood := { row := grammarRangesRow, standIns := [], harness := (true, "af35234d796363a59299cdc48706c5fa9526b99251c41a6891a81808207e8db5"), looks := true }, kinds := [], alts := [], laidByText := true, laidKinds := [.data, .data, .data, .data, .sentinel, .sentinel, .listed, .data, .pinned], laidTests := true, laidLooks := .later }
def GrammarRangesCardSaid : Prop := Claim7.holds Tryz.pinned (.plain (OpenSpec.ofChange grammarRangesSpec)) grammarRangesCard

/-- THE TIED CARD OF 'luminairelaw39.GrammarSelects'. -/
def grammarSelectsCard : Claim7 := { stood := { row := grammarSelectsRow, standIns := [], harness := (true, "af35234d796363a59299cdc48706c5fa9526b99251c41a6891a81808207e8db5"), looks := true }, kinds := [], alts := [], laidByText := true, laidKinds := [.data, .data, .data, .data, .sentinel, .sentinel, .listed, .data, .pinned], laidTests := true, laidLooks := .later }
def GrammarSelectsCardSaid : Prop := Claim7.holds Tryz.pinned (.plain (OpenSpec.ofChange grammarSelectsSpec)) grammarSelectsCard

/-- THE TIED CARD OF 'luminairelaw39.GrammarTimes'. -/
def grammarTimesCard : Claim7 := { stood := { row := grammarTimesRow, standIns := [], harness := (true, "af35234d796363a59299cdc48706c5fa9526b99251c41a6891a81808207e8db5"), looks := true }, kinds := [], alts := [], laidByText := true, laidKinds := [.data, .data, .data, .data, .sentinel, .sentinel, .listed, .data, .pinned], laidTests := true, laidLooks := .later }
def GrammarTimesCardSaid : Prop := Claim7.holds Tryz.pinned (.plain (OpenSpec.ofChange grammarTimesSpec)) grammarTimesCard

/-- THE TIED CARD OF 'luminairelaw39.GrammarBlanks'. -/
def grammarBlanksCard : Claim7 := { stood := { row := grammarBlanksRow, standIns := [], harness := (true, "af35234d796363a59299cdc48706c5fa9526b99251c41a6891a81808207e8db5"), looks := true }, kinds := [], alts := [], laidByText := true, laidKinds := [.data, .data, .data, .data, .sentinel, .sentinel, .listed, .data, .pinned, .pinned], laidTests := true, laidLooks := .later }
def GrammarBlanksCardSaid : Prop := Claim7.holds Tryz.pinned (.plain (OpenSpec.ofChange grammarBlanksSpec)) grammarBlanksCard

/-- THE SECOND FORM's CARD OF 'luminairelaw39.GrammarParses'. -/
def grammarParsesUptoCard : Claim7 := { stood := { row := grammarParsesUptoRow, standIns := [], harness := (true, "af35234d796363a59299cdc48706c5fa9526b99251c41a6891a81808207e8db5"), looks := true }, kinds := [], alts := [], laidByText := true, laidKinds := [.data, .data, .data, .data, .sentinel, .sentinel, .listed, .data, .pinned], laidTests := true, laidLooks := .later }
def GrammarParsesUptoCardSaid : Prop := Claim7.holds Tryz.pinned (.plain (OpenSpec.upto grammarParsesSpec)) grammarParsesUptoCard

/-- THE SECOND FORM's CARD OF 'luminairelaw39.GrammarWords'. -/
def grammarWordsUptoCard : Claim7 := { stood := { row := grammarWordsUptoRow, standIns := [], harness := (true, "af35234d796363a59299cdc48706c5fa9526b99251c41a6891a81808207e8db5"), looks := true }, kinds := [], alts := [], laidByText := true, laidKinds := [.data, .data, .data, .data, .sentinel, .sentinel, .listed, .data, .pinned], laidTests := true, laidLooks := .later }
def GrammarWordsUptoCardSaid : Prop := Claim7.holds Tryz.pinned (.plain (OpenSpec.upto grammarWordsSpec)) grammarWordsUptoCard

/-- THE SECOND FORM's CARD OF 'luminairelaw39.GrammarRanges'. -/
def grammarRangesUptoCard : Claim7 := { stood := { row := grammarRangesUptoRow, standIns := [], harness := (true, "af35234d796363a59299cdc48706c5fa9526b99251c41a6891a81808207e8db5"), looks := true }, kinds := [], alts := [], laidByText := true, laidKinds := [.data, .data, .data, .data, .sentinel, .sentinel, .listed, .data, .pinned], laidTests := true, laidLooks := .later }
def GrammarRangesUptoCardSaid : Prop := Claim7.holds Tryz.pinned (.plain (OpenSpec.upto grammarRangesSpec)) grammarRangesUptoCard

/-- THE SECOND FORM's CARD OF 'luminairelaw39.GrammarSelects'. -/
def grammarSelectsUptoCard : Claim7 := { stood := { row := grammarSelectsUptoRow, standIns := [], harness := (true, "af35234d796363a59299cdc48706c5fa9526b99251c41a6891a81808207e8db5"), looks := true }, kinds := [], alts := [], laidByText := true, laidKinds := [.data, .data, .data, .data, .sentinel, .sentinel, .listed, .data, .pinned], laidTests := true, laidLooks := .later }
def GrammarSelectsUptoCardSaid : Prop := Claim7.holds Tryz.pinned (.plain (OpenSpec.upto grammarSelectsSpec)) grammarSelectsUptoCard

/-- THE SECOND FORM's CARD OF 'luminairelaw39.GrammarTimes'. -/
def grammarTimesUptoCard : Claim7 := { stood := { row := grammarTimesUptoRow, standIns := [], harness := (true, "af35234d796363a59299cdc48706c5fa9526b99251c41a6891a81808207e8db5"), looks := true }, kinds := [], alts := [], laidByText := true, laidKinds := [.data, .data, .data, .data, .sentinel, .sentinel, .listed, .data, .pinned], laidTests := true, laidLooks := .later }
def GrammarTimesUptoCardSaid : Prop := Claim7.holds Tryz.pinned (.plain (OpenSpec.upto grammarTimesSpec)) grammarTimesUptoCard

/-- THE SECOND FORM's CARD OF 'luminairelaw39.GrammarBlanks'. -/
def grammarBlanksUptoCard : Claim7 := { stood := { row := grammarBlanksUptoRow, standIns := [], harness := (true, "af35234d796363a59299cdc48706c5fa9526b99251c41a6891a81808207e8db5"), looks := true }, kinds := [], alts := [], laidByText := true, laidKinds := [.data, .data, .data, .data, .sentinel, .sentinel, .listed, .data, .pinned, .pinned], laidTests := true, laidLooks := .later }
def GrammarBlanksUptoCardSaid : Prop := Claim7.holds Tryz.pinned (.plain (OpenSpec.upto grammarBlanksSpec)) grammarBlanksUptoCard
end Rows
end Go.Proofs.YtnondemehfkalaaGreatDoor
