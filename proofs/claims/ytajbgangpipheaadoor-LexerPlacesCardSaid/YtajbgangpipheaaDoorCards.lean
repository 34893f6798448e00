/-
  DERIVED. GIVEN WITH THE SEED: THE CARDS: each row of YtajbgangpipheaaDoorRows.lean that lists a variable, with what it lists TIED to the program's text (the seventh form; the later family's looks); each row that meets fmt, with fmt's text TOLD by the authors' own Lean function (tested against real Go, not proved from fmt's source: count such statements apart). THE CARD IS WHAT COUNTS. Prove the row's statement (the work); the ties are given (YtajbgangpipheaaDoorTie.lean); close each card by the builder's one call (the guide's Derived/Test/ToyasCard.lean, 'card_holds'). Laid BY PROGRAM, IN A SANDBOX (cutbox-door.mjs). By AI agents, Wed Nov 11 2026. No macro, syntax, notation, axiom, sorry.
-/
import Derived.Test.YtajbgangpipheaaDoorRows
import GoSem.ClaimSeven
namespace Go.Proofs.YtajbgangpipheaaDoor
namespace Rows

/-- THE TIED CARD OF 'luminairelaw07.LexerIgnores'. -/
def lexerIgnoresCard : Claim7 := { stood := { row := lexerIgnoresRow, standIns := [], harness := (true, "891d37e9581dcff2d93102b226e874f736cecde48f30028d4722121293a751e9"), looks := false }, kinds := [], alts := [], laidByText := true, laidKinds := [.data, .pinned, .pinned], laidTests := true, laidLooks := .later }
def LexerIgnoresCardSaid : Prop := Claim7.holds Tryd.pinned (.plain (OpenSpec.ofChange lexerIgnoresSpec)) lexerIgnoresCard

/-- THE TIED CARD OF 'luminairelaw07.LexerPlaces'. -/
def lexerPlacesCard : Claim7 := { stood := { row := lexerPlacesRow, standIns := [], harness := (true, "891d37e9581dcff2d93102b226e874f736cecde48f30028d4722121293a751e9"), looks := false }, kinds := [], alts := [], laidByText := true, laidKinds := [.data, .pinned, .pinned], laidTests := true, laidLooks := .later }
def LexerPlacesCardSaid : Prop := Claim7.holds Tryd.pinned (.plain (OpenSpec.ofChange lexerPlacesSpec)) lexerPlacesCard

/-- THE SECOND FORM's CARD OF 'luminairelaw07.LexerIgnores'. -/
def lexerIgnoresUptoCard : Claim7 := { stood := { row := lexerIgnoresUptoRow, standIns := [], harness := (true, "891d37e9581dcff2d93102b226e874f736cecde48f30028d4722121293a751e9"), looks := false }, kinds := [], alts := [], laidByText := true, laidKinds := [.data, .pinned, .pinned], laidTests := true, laidLooks := .later }
def LexerIgnoresUptoCardSaid : Prop := Claim7.holds Tryd.pinned (.plain (OpenSpec.upto lexerIgnoresSpec)) lexerIgnoresUptoCard

/-- THE SECOND FORM's CARD OF 'luminairelaw07.LexerPlaces'. -/
def lexerPlacesUptoCard : Claim7 := { stood := { row := lexerPlacesUptoRow, standIns := [], harness := (true, "891d37e9581dcff2d93102b226e874f736cecde48f30028d4722121293a751e9"), looks := false }, kinds := [], alts := [], laidByText := true, laidKinds := [.data, .pinned, .pinned], laidTests := true, laidLooks := .later }
def LexerPlacesUptoCardSaid : Prop := Claim7.holds Tryd.pinned (.plain (OpenSpec.upto lexerPlacesSpec)) lexerPlacesUptoCard
end Rows
end Go.Proofs.YtajbgangpipheaaDoor
