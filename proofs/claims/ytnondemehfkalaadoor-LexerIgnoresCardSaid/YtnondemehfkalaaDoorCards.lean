/-
  DERIVED. GIVEN WITH THE SEED: THE CARDS: each row of YtnondemehfkalaaDoorRows.lean that lists a variable, with what it lists TIED to the program's text (the seventh form; the later family's looks); each row that meets fmt, with fmt's text TOLD by the authors' own Lean function (tested against real Go, not proved from fmt's source: count such statements apart). THE CARD IS WHAT COUNTS. Prove the row's statement (the work); the ties are given (YtnondemehfkalaaDoorTie.lean); close each card by the builder's one call (the guide's Derived/Test/ToyasCard.lean, 'card_holds'). Laid BY PROGRAM, IN A SANDBOX (cutbox-door.mjs). By AI agents, Wed Nov 11 2026. No macro, syntax, notation, axiom, sorry.
-/
import Derived.Test.YtnondemehfkalaaDoorRows
import GoSem.ClaimSeven
namespace Go.Proofs.YtnondemehfkalaaDoor
namespace Rows

/-- THE TIED CARD OF 'luminairelaw07.LexerIgnores'. -/
def lexerIgnoresCard : Claim7 := { stood := { row := lexerIgnoresRow, standIns := [], harness := (true, "c6540637b8cd162fd2253c038bf2cc4be8de84b85e95ea9f2cc6a270420ecac8"), looks := false }, kinds := [], alts := [], laidByText := true, laidKinds := [.data, .pinned, .pinned], laidTests := true, laidLooks := .later }
def LexerIgnoresCardSaid : Prop := Claim7.holds Tryd.pinned (.plain (OpenSpec.ofChange lexerIgnoresSpec)) lexerIgnoresCard

/-- THE SECOND FORM's CARD OF 'luminairelaw07.LexerIgnores'. -/
def lexerIgnoresUptoCard : Claim7 := { stood := { row := lexerIgnoresUptoRow, standIns := [], harness := (true, "c6540637b8cd162fd2253c038bf2cc4be8de84b85e95ea9f2cc6a270420ecac8"), looks := false }, kinds := [], alts := [], laidByText := true, laidKinds := [.data, .pinned, .pinned], laidTests := true, laidLooks := .later }
def LexerIgnoresUptoCardSaid : Prop := Claim7.holds Tryd.pinned (.plain (OpenSpec.upto lexerIgnoresSpec)) lexerIgnoresUptoCard
end Rows
end Go.Proofs.YtnondemehfkalaaDoor
