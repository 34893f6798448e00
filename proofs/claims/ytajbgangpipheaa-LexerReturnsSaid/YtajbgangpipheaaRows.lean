/-
  No cell of these rows narrows 'for every input' (looked for: loops, veiled, ifaces, maps, wideKeys, modest, calm, conditions, laid).
  DERIVED. THE GIVEN ROWS OF THIS SEAT. 5 by the template 'for every input the law returns true; each argument reads behind the call as it read before'; 0 by the template 'total and deterministic' (their statements: YtajbgangpipheaaTotals.lean).
  GIVEN WITH THE SEED: the statements are not yours to turn. If you find one false, say at which input.
  Laid BY PROGRAM, IN A SANDBOX (cutbox-rows.mjs): the forced cells as the released guide's own fill.sh prints them over the translation 135d3dca442a4486… (all of the seat's roots in one cut). By AI agents, Wed Nov 11 2026. No macro, syntax, notation, axiom, sorry.
-/
import Derived.Test.YtajbgangpipheaaChecked
import GoSem.Claim
import GoSem.ClaimJoined
import GoSem.ClaimMapViews
import Derived.JoinedTies
import Derived.KernelRfl
namespace Go.Proofs.Ytajbgangpipheaa
/- THE CELL 'sum', in the pinned program and in every row, IS THE sha256 OF THE DUMP (.gsa) THAT YtajbgangpipheaaProg.lean LOADS. Nothing in Lean hashes anything: it is a label: what it is worth is what the hold of that sum in a sandbox is worth. -/
noncomputable def Try.pinned : Pinned := { name := "ytajbgangpipheaa", sum := "135d3dca442a4486cbd8021a6c5eeb6a126e54ac0d9b77de6e36735e83ccf329", checked := Try.checked }
namespace Rows
def none {H : Type} : Left H := { results := [], args := [] }

/-- 'luminairelaw07.LexerScans': WHATEVER THE INPUT: true; the input reads as it did. -/
def lexerScansSpec : ChangeSpec := { name := "lexerScans", fn := fun _ => fun
  | [d] => { results := [.lit (.bool true)], args := [d] }
  | _ => none }
def lexerScansRow : OpenClaim := { program := "ytajbgangpipheaa", sum := "135d3dca442a4486cbd8021a6c5eeb6a126e54ac0d9b77de6e36735e83ccf329", func := "luminaire/luminairelaw07.LexerScans", spec := "lexerScans", inPlace := ["internal/bytealg.IndexByteString"], unfollowed := true, recurses := true, apart := false }
def LexerScansSaid : Prop := lexerScansRow.holds Try.pinned (OpenSpec.ofChange lexerScansSpec)

/-- ITS FALSE NEIGHBOUR: 'it returns false'. Refute it at one input. -/
def lexerScansWrong : ChangeSpec := { name := "lexerScans", fn := fun _ => fun
  | [d] => { results := [.lit (.bool false)], args := [d] }
  | _ => none }
def LexerScansWrongFalsely : Prop := lexerScansRow.holds Try.pinned (OpenSpec.ofChange lexerScansWrong)

/-- 'luminairelaw07.LexerQuotes': WHATEVER THE INPUT: true; the input reads as it did. -/
def lexerQuotesSpec : ChangeSpec := { name := "lexerQuotes", fn := fun _ => fun
  | [d] => { results := [.lit (.bool true)], args := [d] }
  | _ => none }
def lexerQuotesRow : OpenClaim := { program := "ytajbgangpipheaa", sum := "135d3dca442a4486cbd8021a6c5eeb6a126e54ac0d9b77de6e36735e83ccf329", func := "luminaire/luminairelaw07.LexerQuotes", spec := "lexerQuotes", inPlace := ["internal/bytealg.IndexByteString"], unfollowed := true, recurses := true, apart := false }
def LexerQuotesSaid : Prop := lexerQuotesRow.holds Try.pinned (OpenSpec.ofChange lexerQuotesSpec)

/-- ITS FALSE NEIGHBOUR: 'it returns false'. Refute it at one input. -/
def lexerQuotesWrong : ChangeSpec := { name := "lexerQuotes", fn := fun _ => fun
  | [d] => { results := [.lit (.bool false)], args := [d] }
  | _ => none }
def LexerQuotesWrongFalsely : Prop := lexerQuotesRow.holds Try.pinned (OpenSpec.ofChange lexerQuotesWrong)

/-- 'luminairelaw07.LexerWords': WHATEVER THE INPUT: true; the input reads as it did. -/
def lexerWordsSpec : ChangeSpec := { name := "lexerWords", fn := fun _ => fun
  | [d] => { results := [.lit (.bool true)], args := [d] }
  | _ => none }
def lexerWordsRow : OpenClaim := { program := "ytajbgangpipheaa", sum := "135d3dca442a4486cbd8021a6c5eeb6a126e54ac0d9b77de6e36735e83ccf329", func := "luminaire/luminairelaw07.LexerWords", spec := "lexerWords", inPlace := ["internal/bytealg.IndexByteString"], unfollowed := true, recurses := true, apart := false }
def LexerWordsSaid : Prop := lexerWordsRow.holds Try.pinned (OpenSpec.ofChange lexerWordsSpec)

/-- ITS FALSE NEIGHBOUR: 'it returns false'. Refute it at one input. -/
def lexerWordsWrong : ChangeSpec := { name := "lexerWords", fn := fun _ => fun
  | [d] => { results := [.lit (.bool false)], args := [d] }
  | _ => none }
def LexerWordsWrongFalsely : Prop := lexerWordsRow.holds Try.pinned (OpenSpec.ofChange lexerWordsWrong)

/-- 'luminairelaw07.LexerJoins': WHATEVER THE INPUT: true; the input reads as it did. -/
def lexerJoinsSpec : ChangeSpec := { name := "lexerJoins", fn := fun _ => fun
  | [d] => { results := [.lit (.bool true)], args := [d] }
  | _ => none }
def lexerJoinsRow : OpenClaim := { program := "ytajbgangpipheaa", sum := "135d3dca442a4486cbd8021a6c5eeb6a126e54ac0d9b77de6e36735e83ccf329", func := "luminaire/luminairelaw07.LexerJoins", spec := "lexerJoins", inPlace := ["internal/bytealg.IndexByteString", "internal/abi.NoEscape", "internal/bytealg.MakeNoZero"], unfollowed := true, recurses := true, apart := false }
def LexerJoinsSaid : Prop := lexerJoinsRow.holds Try.pinned (OpenSpec.ofChange lexerJoinsSpec)

/-- ITS FALSE NEIGHBOUR: 'it returns false'. Refute it at one input. -/
def lexerJoinsWrong : ChangeSpec := { name := "lexerJoins", fn := fun _ => fun
  | [d] => { results := [.lit (.bool false)], args := [d] }
  | _ => none }
def LexerJoinsWrongFalsely : Prop := lexerJoinsRow.holds Try.pinned (OpenSpec.ofChange lexerJoinsWrong)

/-- 'luminairelaw07.LexerReturns': WHATEVER THE INPUT: true; the input reads as it did. -/
def lexerReturnsSpec : ChangeSpec := { name := "lexerReturns", fn := fun _ => fun
  | [d] => { results := [.lit (.bool true)], args := [d] }
  | _ => none }
def lexerReturnsRow : OpenClaim := { program := "ytajbgangpipheaa", sum := "135d3dca442a4486cbd8021a6c5eeb6a126e54ac0d9b77de6e36735e83ccf329", func := "luminaire/luminairelaw07.LexerReturns", spec := "lexerReturns", inPlace := ["internal/bytealg.IndexByteString", "internal/abi.NoEscape", "internal/bytealg.MakeNoZero"], unfollowed := true, recurses := true, apart := false }
def LexerReturnsSaid : Prop := lexerReturnsRow.holds Try.pinned (OpenSpec.ofChange lexerReturnsSpec)

/-- ITS FALSE NEIGHBOUR: 'it returns false'. Refute it at one input. -/
def lexerReturnsWrong : ChangeSpec := { name := "lexerReturns", fn := fun _ => fun
  | [d] => { results := [.lit (.bool false)], args := [d] }
  | _ => none }
def LexerReturnsWrongFalsely : Prop := lexerReturnsRow.holds Try.pinned (OpenSpec.ofChange lexerReturnsWrong)

/- THE SECOND FORM. 'bulk': how many values and letters a reading holds, each counted each time it is reached (what is shared counts as often as it is met; a slice's spare places count too). A statement '..UptoSaid' is the law's where the arguments, and the package variables that the reading takes, are together of bulk at most 1048576: NARROWER than '..Said'. Prove '..Said' where nothing that the law and all that it calls make is longer than what came in: it says more and counts as full. Else prove '..UptoSaid'. A law counts once. -/
mutual
def uptoBulk {H : Type} : DataW H → Nat
  | .lit (.string bytes) => bytes.length + 1
  | .lit _ => 1
  | .nil => 1
  | .ptr d => uptoBulk d + 1
  | .slice elems spare => uptoBulkAll elems + uptoBulkAll spare + 1
  | .agg parts => uptoBulkAll parts + 1
  | .iface _ d => uptoBulk d + 1
  | .map entries => uptoBulkEntries entries + 1
  | .held _ => 1
def uptoBulkAll {H : Type} : List (DataW H) → Nat
  | [] => 0
  | d :: r => uptoBulk d + uptoBulkAll r
def uptoBulkEntries {H : Type} : List (Lit × DataW H) → Nat
  | [] => 0
  | x :: r => uptoBulkEntry x + uptoBulkEntries r
def uptoBulkEntry {H : Type} : Lit × DataW H → Nat
  | (.string bytes, d) => bytes.length + uptoBulk d + 1
  | (_, d) => uptoBulk d + 1
 end
def uptoSmall : (H : Type) → List (DataW H) → Bool := fun _ ds => decide (uptoBulkAll ds ≤ 1048576)
def OpenSpec.upto (s : _root_.Go.ChangeSpec) : _root_.Go.OpenSpec := { _root_.Go.OpenSpec.ofChange s with cond := some uptoSmall }

/-- 'luminairelaw07.LexerScans', WHERE WHAT IT READS IS OF BULK AT MOST 1048576: true; the input reads as it did. -/
def lexerScansUptoRow : OpenClaim := { program := "ytajbgangpipheaa", sum := "135d3dca442a4486cbd8021a6c5eeb6a126e54ac0d9b77de6e36735e83ccf329", func := "luminaire/luminairelaw07.LexerScans", spec := "lexerScans", inPlace := ["internal/bytealg.IndexByteString"], unfollowed := true, recurses := true, apart := false, narrowed := true }
def LexerScansUptoSaid : Prop := lexerScansUptoRow.holds Try.pinned (OpenSpec.upto lexerScansSpec)

/-- 'luminairelaw07.LexerQuotes', WHERE WHAT IT READS IS OF BULK AT MOST 1048576: true; the input reads as it did. -/
def lexerQuotesUptoRow : OpenClaim := { program := "ytajbgangpipheaa", sum := "135d3dca442a4486cbd8021a6c5eeb6a126e54ac0d9b77de6e36735e83ccf329", func := "luminaire/luminairelaw07.LexerQuotes", spec := "lexerQuotes", inPlace := ["internal/bytealg.IndexByteString"], unfollowed := true, recurses := true, apart := false, narrowed := true }
def LexerQuotesUptoSaid : Prop := lexerQuotesUptoRow.holds Try.pinned (OpenSpec.upto lexerQuotesSpec)

/-- 'luminairelaw07.LexerWords', WHERE WHAT IT READS IS OF BULK AT MOST 1048576: true; the input reads as it did. -/
def lexerWordsUptoRow : OpenClaim := { program := "ytajbgangpipheaa", sum := "135d3dca442a4486cbd8021a6c5eeb6a126e54ac0d9b77de6e36735e83ccf329", func := "luminaire/luminairelaw07.LexerWords", spec := "lexerWords", inPlace := ["internal/bytealg.IndexByteString"], unfollowed := true, recurses := true, apart := false, narrowed := true }
def LexerWordsUptoSaid : Prop := lexerWordsUptoRow.holds Try.pinned (OpenSpec.upto lexerWordsSpec)

/-- 'luminairelaw07.LexerJoins', WHERE WHAT IT READS IS OF BULK AT MOST 1048576: true; the input reads as it did. -/
def lexerJoinsUptoRow : OpenClaim := { program := "ytajbgangpipheaa", sum := "135d3dca442a4486cbd8021a6c5eeb6a126e54ac0d9b77de6e36735e83ccf329", func := "luminaire/luminairelaw07.LexerJoins", spec := "lexerJoins", inPlace := ["internal/bytealg.IndexByteString", "internal/abi.NoEscape", "internal/bytealg.MakeNoZero"], unfollowed := true, recurses := true, apart := false, narrowed := true }
def LexerJoinsUptoSaid : Prop := lexerJoinsUptoRow.holds Try.pinned (OpenSpec.upto lexerJoinsSpec)

/-- 'luminairelaw07.LexerReturns', WHERE WHAT IT READS IS OF BULK AT MOST 1048576: true; the input reads as it did. -/
def lexerReturnsUptoRow : OpenClaim := { program := "ytajbgangpipheaa", sum := "135d3dca442a4486cbd8021a6c5eeb6a126e54ac0d9b77de6e36735e83ccf329", func := "luminaire/luminairelaw07.LexerReturns", spec := "lexerReturns", inPlace := ["internal/bytealg.IndexByteString", "internal/abi.NoEscape", "internal/bytealg.MakeNoZero"], unfollowed := true, recurses := true, apart := false, narrowed := true }
def LexerReturnsUptoSaid : Prop := lexerReturnsUptoRow.holds Try.pinned (OpenSpec.upto lexerReturnsSpec)

end Rows
end Go.Proofs.Ytajbgangpipheaa
