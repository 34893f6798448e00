/- Zero values of structs, as rows of cells. The compiled code of functions of this seat, printed by a program (ShaMain), and that it is the translation's: checked by the kernel. The lexer's small functions: what bytes are. What is a sign, by strings.IndexByte. The reader: is, skip. made, lower. The lexer's token. lexer.Scan. The reference's word, number, quoted, Lower. The reference's quoted, Lower. The reference's Token, Scan. slices.Equal of tokens; the chapter's examples; LexerScans. one; Quote and Unquote. Word and Number. The compiled code of functions of this seat, printed by a program (ShaMain), and that it is the translation's: checked by the kernel. DERIVED: THE SHELF's CONTRACTS AT THIS DUMP, IN PLAIN WORDS (tools/lay-plain.mjs out of 'TryzShelf.lean', which tools/lay-shelf.mjs wrote): THE SAME DECLARATIONS UNDER THE SAME NAMES: 'import', 'namespace', 'open', 'def', 'theorem' AND NOTHING ELSE: no command of the shelf's: FOR A HAND-IN. Each laying: the table of numbers ('.._ren') and one theorem, a field a fact of the dump's own or the kernel's comparison; each contract: ONE APPLICATION. The reader of commands: what its functions come to, in plain Lean; first functions. From what a card lists of the package's variables to what the walks ask of them. -/
import Derived.Test.YtnondemehfkalaaGreatDoorShaYB
import Derived.Test.YtnondemehfkalaaGreatDoorProg
import Derived.KernelRfl
import Derived.Test.YtnondemehfkalaaGreatDoorShaY
import Derived.Test.YtnondemehfkalaaGreatDoorShaV
import Derived.Shelf.Strings.Builder1
import Derived.Shelf.Strings.Builder2
import Derived.Shelf.Strings.OnBuilder
import Derived.Shelf.Strings.Trim
import Derived.Shelf.Small.Utf8
import Derived.Shelf.Small.Strs
import Derived.Shelf.Strings.BuilderF
import Derived.Shelf.Strconv.Atoi
import Derived.Shelf.Strconv.Itoa0
import Derived.Shelf.Strconv.Itoa1
import Derived.Shelf.LaysM
import Derived.Shelf.Strconv.Itoa2
import Derived.Shelf.Strconv.Itoa3
import Derived.Shelf.Strconv.AtoiErrFast
import Derived.Shelf.Strconv.ParseIntEmpty
import Derived.Shelf.Strconv.AtoiFail
import Derived.Shelf.Strconv.Clone
import Derived.Shelf.Strconv.SyntaxError
import Derived.Shelf.LaysC
import Derived.Shelf.Strconv.ToError
import Derived.Shelf.Strconv.Lower
import Derived.Shelf.Strconv.ParseUint10
import Derived.Shelf.Strconv.ParseUint10Empty
import Derived.Shelf.Strconv.ParseUint10Any
import Derived.Shelf.Strconv.ParseInt10
import Derived.Shelf.Strconv.AtoiLong
import Derived.Shelf.Strconv.AtoiInnerAll
import Derived.Shelf.Strconv.RangeError
import Derived.Shelf.Strconv.ToErrorRange
import Derived.Shelf.Strconv.AtoiAll
import Derived.Shelf.Strings.Search1
import Derived.Shelf.Strings.Search2
import Derived.Shelf.Strings.Search3
import Derived.Shelf.Strings.Cut
import Derived.Shelf.Strings.Count
import Derived.Shelf.Strings.Shaped
import Derived.Shelf.GgClosure.StringsIndexFunc
import Derived.Shelf.Strings.Prefix
import Derived.Shelf.Strings.Split
import Derived.Shelf.Strings.Fields
import Derived.Shelf.Strings.Replace
import Derived.Shelf.Strings.SplitShaped
import Derived.Shelf.Unicode.Latin
import Derived.Shelf.Strings.Runes
import Derived.Shelf.Strings.AsciiSet
import Derived.Shelf.Unicode.DecodeSlow
import Derived.Shelf.Unicode.Is16White
import Derived.Shelf.Unicode.IsSpaceAny
import Derived.Shelf.Unicode.Is16WhiteD
import Derived.Shelf.Unicode.IsSpaceAnyD
import Derived.Shelf.Strings.FieldsAny
import Derived.Shelf.Strings.FieldsFuncAny
import Derived.Shelf.Unicode.CaseLookup
import Derived.Shelf.Unicode.CaseConvert
import Derived.Shelf.Unicode.CaseTo
import Derived.Shelf.Unicode.CaseLaid
import Derived.Shelf.Unicode.Is16Any
import Derived.Shelf.Unicode.Is32Any
import Derived.Shelf.Unicode.ExclAny
import Derived.Test.YtnondemehfkalaaGreatDoorShaBB
import Derived.Test.YtnondemehfkalaaGreatDoorShaT
import Derived.Test.YtnondemehfkalaaGreatDoorRows
import Derived.Test.YtnondemehfkalaaGreatDoorShaZ
import Derived.Lib.LaidTab
import Derived.MakeChecks
import Derived.Lib.ItoaNum
set_option linter.unusedSimpArgs false
set_option linter.unusedVariables false
namespace Go.Proofs.YtnondemehfkalaaGreatDoor
open Go.Sha
abbrev Z0 : List V := [(.i 0), (.str []), (.str []), (.str []), (.i 0), .nils, (.i 0), (.i 0), (.i 0), (.i 0), (.i 0), (.i 0), (.i 0), (.str []), (.i 0), (.i 0), (.i 0), (.str []), .nils]
abbrev Z1 : List V := [(.i 0), (.i 0), (.str []), (.i 0), (.i 0), (.i 0), (.str [])]
abbrev Z2 : List V := [(.bool false), (.bool false), (.bool false), (.bool false), (.bool false), (.bool false), (.bool false), (.bool false), (.bool false), (.bool false), (.bool false), (.bool false), (.bool false), (.bool false), (.bool false), (.bool false), (.bool false), (.bool false), (.bool false), (.bool false), (.bool false), (.bool false), (.bool false), (.bool false), (.bool false), (.bool false), (.bool false), (.bool false), (.bool false), (.bool false), (.bool false), (.bool false), (.bool false), (.bool false), (.bool false), (.bool false), (.bool false), (.bool false), (.bool false), (.bool false), (.bool false), (.bool false), (.bool false), (.bool false), (.bool false), (.bool false), (.bool false), (.bool false), (.bool false), (.bool false), (.bool false), (.bool false), (.bool false), (.bool false), (.bool false), (.bool false), (.bool false), (.bool false), (.bool false), (.bool false), (.bool false), (.bool false), (.bool false), (.bool false), (.bool false), (.bool false), (.bool false), (.bool false), (.bool false), (.bool false), (.bool false), (.bool false), (.bool false), (.bool false), (.bool false), (.bool false), (.bool false), (.bool false), (.bool false), (.bool false), (.bool false), (.bool false), (.bool false), (.bool false), (.bool false), (.bool false), (.bool false), (.bool false), (.bool false), (.bool false), (.bool false), (.bool false), (.bool false), (.bool false), (.bool false), (.bool false), (.bool false), (.bool false), (.bool false), (.bool false), (.bool false), (.bool false), (.bool false), (.bool false), (.bool false), (.bool false), (.bool false), (.bool false), (.bool false), (.bool false), (.bool false), (.bool false), (.bool false), (.bool false), (.bool false), (.bool false), (.bool false), (.bool false), (.bool false), (.bool false), (.bool false), (.bool false), (.bool false), (.bool false), (.bool false), (.bool false), (.bool false), (.bool false), (.bool false), (.bool false), (.bool false), (.bool false), (.bool false), (.bool false), (.bool false), (.bool false), (.bool false), (.bool false), (.bool false), (.bool false), (.bool false), (.bool false), (.bool false), (.bool false), (.bool false), (.bool false), (.bool false), (.bool false), (.bool false), (.bool false), (.bool false), (.bool false), (.bool false), (.bool false), (.bool false), (.bool false), (.bool false), (.bool false), (.bool false), (.bool false), (.bool false), (.bool false), (.bool false), (.bool false), (.bool false), (.bool false), (.bool false), (.bool false), (.bool false), (.bool false), (.bool false), (.bool false), (.bool false), (.bool false), (.bool false), (.bool false), (.bool false), (.bool false), (.bool false), (.bool false), (.bool false), (.bool false), (.bool false), (.bool false), (.bool false), (.bool false), (.bool false), (.bool false), (.bool false), (.bool false), (.bool false), (.bool false), (.bool false), (.bool false), (.bool false), (.bool false), (.bool false), (.bool false), (.bool false), (.bool false), (.bool false), (.bool false), (.bool false), (.bool false), (.bool false), (.bool false), (.bool false), (.bool false), (.bool false), (.bool false), (.bool false), (.bool false), (.bool false), (.bool false), (.bool false), (.bool false), (.bool false), (.bool false), (.bool false), (.bool false), (.bool false), (.bool false), (.bool false), (.bool false), (.bool false), (.bool false), (.bool false), (.bool false), (.bool false), (.bool false), (.bool false), (.bool false), (.bool false), (.bool false), (.bool false), (.bool false), (.bool false), (.bool false), (.bool false), (.bool false), (.bool false), (.bool false), (.bool false), (.bool false), (.bool false), (.bool false), (.bool false), (.bool false), (.bool false), (.bool false), (.bool false), (.bool false), (.bool false), (.bool false), (.bool false), (.bool false)]
theorem mixed : Tryz.prog.follows .mixedOrders = true := by kernel_rfl
end Go.Proofs.YtnondemehfkalaaGreatDoor

namespace Go.Proofs.YtnondemehfkalaaGreatDoor
open Go.Sha
/-- luminaire/lexer.Scan -/
def F60 : FT := ⟨41, 1, [.tmp 2, .tmp 3, .tmp 4],
 [.seq 1 2,
 .reg [.s 2 (.mv (.c .nils)),
 .s 3 (.mv (.i 0)),
 .s 4 (.mv (.i 0))],
 .seq 3 10,
 .seq 4 5,
 .reg [.s 9 (.m 0),
 .s 10 (.lens (.t 9)),
 .s 11 (.bin .gtr (.t 10) (.i 4096))],
 .cond (.t 11) 6 9,
 .seq 7 8,
 .reg [.s 2 (.mv (.c .nils)),
 .s 3 (.mv (.i 0)),
 .s 4 (.mv (.i 13))],
 .ret,
 .skip,
 .seq 11 12,
 .reg [.s 12 (.m 0),
 .s 13 (.build [(.str []), (.i 0)] [(0, 1, (.t 12))]),
 .s 14 (.box 139 (.t 13)),
 .s 5 (.m 14)],
 .seq 13 14,
 .reg [.s 6 (.mv (.c .nils))],
 .block 0 15,
 .loop 16,
 .block 1 17,
 .seq 18 19,
 .reg [.s 16 (.m 5),
 .s 17 (.f 107 [(.t 16)]),
 .s 15 (.m 17),
 .s 18 (.ext 0 (.t 15)),
 .s 19 (.ext 1 (.t 15)),
 .s 7 (.alloc 111 [(.i 0), (.str []), (.i 0)]),
 .n (.store 3 (.t 7) (.t 18)),
 .s 8 (.m 19)],
 .seq 20 34,
 .block 2 21,
 .seq 22 23,
 .reg [.s 21 (.m 8),
 .s 22 (.un .not (.t 21)),
 .s 20 (.m 22)],
 .cond (.t 20) 24 27,
 .seq 25 26,
 .dreg 7 [.s 23 (.m 5),
 .s 24 (.k 23),
 .s 25 (.a 1 24),
 .s 26 (.l 25),
 .s 2 (.mv (.c .nils)),
 .s 3 (.m 26),
 .s 4 (.mv (.i 4))],
 .ret,
 .seq 28 29,
 .reg [.s 28 (.m 6),
 .s 29 (.len (.t 28)),
 .s 30 (.bin .eql (.t 29) (.i 256)),
 .s 27 (.m 30)],
 .cond (.t 27) 30 33,
 .seq 31 32,
 .dreg 5 [.s 31 (.a 2 7),
 .s 32 (.l 31),
 .s 2 (.mv (.c .nils)),
 .s 3 (.m 32),
 .s 4 (.mv (.i 5))],
 .ret,
 .skip,
 .seq 35 36,
 .reg [.s 33 (.m 6),
 .s 34 (.load (some 3) (.t 7)),
 .s 35 (.bslice 111 3 [(.t 34)]),
 .s 36 (.append 111 3 32 (.t 33) (.t 35)),
 .s 6 (.m 36)],
 .seq 37 38,
 .reg [.s 37 (.a 0 7),
 .s 38 (.l 37),
 .s 39 (.bin .eql (.t 38) (.i 3))],
 .cond (.t 39) 39 42,
 .seq 40 41,
 .reg [.s 40 (.m 6),
 .s 2 (.m 40),
 .s 3 (.mv (.i 0)),
 .s 4 (.mv (.i 0))],
 .ret,
 .skip]⟩

/-- (*luminaire/lexer.reader).token -/
def F107 : FT := ⟨124, 1, [.cell 2 (some 3), .tmp 3],
 [.seq 1 2,
 .reg [.s 1 (.box 137 (.t 0)),
 .s 2 (.alloc 111 [(.i 0), (.str []), (.i 0)]),
 .s 3 (.mv (.c (.bool false)))],
 .seq 3 4,
 .reg [.s 8 (.l 1),
 .s 9 (.f 156 [(.t 8), (.c (.fn (.func 157) [] []))])],
 .seq 5 6,
 .reg [.s 10 (.l 1),
 .s 11 (.k 10),
 .s 12 (.a 1 11),
 .s 13 (.l 12),
 .s 4 (.alloc 3 [(.i 0)]),
 .n (.store 1 (.t 4) (.t 13))],
 .seq 7 8,
 .reg [.s 14 (.mkfn (.func 158) [] [(.t 1), (.t 4)]),
 .s 5 (.m 14)],
 .seq 9 75,
 .block 0 10,
 .seq 11 12,
 .dreg 11 [.s 16 (.l 1),
 .s 17 (.k 16),
 .s 18 (.a 1 17),
 .s 19 (.l 18),
 .s 20 (.l 1),
 .s 21 (.k 20),
 .s 22 (.a 0 21),
 .s 23 (.l 22),
 .s 24 (.lens (.t 23)),
 .s 25 (.bin .eql (.t 19) (.t 24)),
 .s 15 (.m 25)],
 .cond (.t 15) 13 16,
 .seq 14 15,
 .reg [.s 26 (.m 5),
 .s 27 (.call (.t 26) [(.i 3)]),
 .s 28 (.ext 0 (.t 27)),
 .s 29 (.ext 1 (.t 27)),
 .n (.store 3 (.t 2) (.t 28)),
 .s 3 (.m 29)],
 .ret,
 .seq 17 18,
 .reg [.s 31 (.l 1),
 .s 32 (.f 159 [(.t 31), (.i 0), (.c (.fn (.func 160) [] []))]),
 .s 30 (.m 32)],
 .cond (.t 30) 19 28,
 .seq 20 21,
 .reg [.s 33 (.l 1),
 .s 34 (.f 156 [(.t 33), (.c (.fn (.func 161) [] []))])],
 .seq 22 23,
 .reg [.s 36 (.m 5),
 .s 37 (.call (.t 36) [(.i 0)]),
 .s 35 (.m 37),
 .s 38 (.ext 0 (.t 35)),
 .s 39 (.ext 1 (.t 35)),
 .s 6 (.alloc 111 [(.i 0), (.str []), (.i 0)]),
 .n (.store 3 (.t 6) (.t 38)),
 .s 7 (.m 39)],
 .seq 24 25,
 .reg [.s 40 (.a 1 6),
 .s 41 (.l 40),
 .s 42 (.f 162 [(.t 41)]),
 .s 43 (.a 1 6),
 .n (.store 1 (.t 43) (.t 42))],
 .seq 26 27,
 .reg [.s 44 (.load (some 3) (.t 6)),
 .s 45 (.m 7),
 .n (.store 3 (.t 2) (.t 44)),
 .s 3 (.m 45)],
 .ret,
 .seq 29 30,
 .dreg 11 [.s 47 (.l 1),
 .s 48 (.k 47),
 .s 49 (.a 0 48),
 .s 50 (.l 49),
 .s 51 (.l 1),
 .s 52 (.k 51),
 .s 53 (.a 1 52),
 .s 54 (.l 53),
 .s 55 (.ichr (.t 50) (.t 54)),
 .s 56 (.bin .eql (.t 55) (.c (.int .u8 34))),
 .s 46 (.m 56)],
 .cond (.t 46) 31 50,
 .seq 32 33,
 .reg [.s 57 (.l 1),
 .s 58 (.k 57),
 .s 59 (.a 1 58),
 .s 60 (.l 59),
 .s 61 (.bin .add (.t 60) (.i 1)),
 .s 62 (.k 57),
 .s 63 (.a 1 62),
 .n (.store 1 (.t 63) (.t 61))],
 .seq 34 35,
 .reg [.s 64 (.l 1),
 .s 65 (.f 156 [(.t 64), (.c (.fn (.func 163) [] []))])],
 .seq 36 45,
 .seq 37 38,
 .reg [.s 66 (.l 1),
 .s 67 (.f 159 [(.t 66), (.i 0), (.c (.fn (.func 164) [] []))]),
 .s 68 (.un .not (.t 67))],
 .cond (.t 68) 39 44,
 .seq 40 41,
 .reg [.s 69 (.l 1),
 .s 70 (.l 4),
 .s 71 (.k 69),
 .s 72 (.a 1 71),
 .n (.store 1 (.t 72) (.t 70))],
 .seq 42 43,
 .reg [.s 73 (.build [(.i 0), (.str []), (.i 0)] []),
 .n (.store 3 (.t 2) (.t 73)),
 .s 3 (.mv (.c (.bool false)))],
 .ret,
 .skip,
 .seq 46 47,
 .reg [.s 74 (.l 1),
 .s 75 (.k 74),
 .s 76 (.a 1 75),
 .s 77 (.l 76),
 .s 78 (.bin .add (.t 77) (.i 1)),
 .s 79 (.k 74),
 .s 80 (.a 1 79),
 .n (.store 1 (.t 80) (.t 78))],
 .seq 48 49,
 .reg [.s 81 (.m 5),
 .s 82 (.call (.t 81) [(.i 0)]),
 .s 83 (.ext 0 (.t 82)),
 .s 84 (.ext 1 (.t 82)),
 .n (.store 3 (.t 2) (.t 83)),
 .s 3 (.m 84)],
 .ret,
 .seq 51 52,
 .reg [.s 86 (.l 1),
 .s 87 (.f 159 [(.t 86), (.i 0), (.c (.fn (.func 165) [] []))]),
 .s 85 (.m 87)],
 .cond (.t 85) 53 66,
 .seq 54 55,
 .reg [.s 88 (.l 1),
 .s 89 (.f 156 [(.t 88), (.c (.fn (.func 165) [] []))])],
 .seq 56 63,
 .seq 57 58,
 .reg [.s 90 (.l 1),
 .s 91 (.f 159 [(.t 90), (.i 0), (.c (.fn (.func 166) [] []))]),
 .s 92 (.m 91),
 .y 93 (.l 1) 92,
 .y 94 (.f 159 [(.t 93), (.i 1), (.c (.fn (.func 165) [] []))]) 92,
 .s 95 (.pick (.t 92) (.t 94) (.c (.bool false)))],
 .cond (.t 95) 59 62,
 .seq 60 61,
 .reg [.s 96 (.l 1),
 .s 97 (.k 96),
 .s 98 (.a 1 97),
 .s 99 (.l 98),
 .s 100 (.bin .add (.t 99) (.i 1)),
 .s 101 (.k 96),
 .s 102 (.a 1 101),
 .n (.store 1 (.t 102) (.t 100))],
 .reg [.s 103 (.l 1),
 .s 104 (.f 156 [(.t 103), (.c (.fn (.func 165) [] []))])],
 .skip,
 .seq 64 65,
 .reg [.s 105 (.m 5),
 .s 106 (.call (.t 105) [(.i 1)]),
 .s 107 (.ext 0 (.t 106)),
 .s 108 (.ext 1 (.t 106)),
 .n (.store 3 (.t 2) (.t 107)),
 .s 3 (.m 108)],
 .ret,
 .seq 67 68,
 .reg [.s 110 (.l 1),
 .s 111 (.f 159 [(.t 110), (.i 0), (.c (.fn (.func 167) [] []))]),
 .s 109 (.m 111)],
 .cond (.t 109) 69 74,
 .seq 70 71,
 .reg [.s 112 (.l 1),
 .s 113 (.k 112),
 .s 114 (.a 1 113),
 .s 115 (.l 114),
 .s 116 (.bin .add (.t 115) (.i 1)),
 .s 117 (.k 112),
 .s 118 (.a 1 117),
 .n (.store 1 (.t 118) (.t 116))],
 .seq 72 73,
 .reg [.s 119 (.m 5),
 .s 120 (.call (.t 119) [(.i 2)]),
 .s 121 (.ext 0 (.t 120)),
 .s 122 (.ext 1 (.t 120)),
 .n (.store 3 (.t 2) (.t 121)),
 .s 3 (.m 122)],
 .ret,
 .skip,
 .seq 76 77,
 .reg [.s 123 (.build [(.i 0), (.str []), (.i 0)] []),
 .n (.store 3 (.t 2) (.t 123)),
 .s 3 (.mv (.c (.bool false)))],
 .ret]⟩

/-- (*luminaire/lexer.reader).skip -/
def F156 : FT := ⟨14, 2, [],
 [.block 0 1,
 .loop 2,
 .seq 3 8,
 .seq 4 5,
 .reg [.s 4 (.m 0),
 .s 5 (.m 1),
 .s 6 (.f 159 [(.t 4), (.i 0), (.t 5)])],
 .cond (.t 6) 6 7,
 .skip,
 .exit 0,
 .block 1 9,
 .reg [.s 7 (.m 0),
 .s 8 (.k 7),
 .s 9 (.a 1 8),
 .s 10 (.l 9),
 .s 11 (.bin .add (.t 10) (.i 1)),
 .s 12 (.k 7),
 .s 13 (.a 1 12),
 .n (.store 1 (.t 13) (.t 11))]]⟩

/-- (*luminaire/lexer.reader).token$1 -/
def F157 : FT := ⟨5, 1, [.tmp 2],
 [.seq 1 2,
 .reg [.s 2 (.mv (.c (.bool false)))],
 .seq 3 4,
 .reg [.s 3 (.m 0),
 .s 4 (.bin .eql (.t 3) (.c (.int .u8 32))),
 .s 2 (.m 4)],
 .ret]⟩

/-- (*luminaire/lexer.reader).token$2 -/
def F158 : FT := ⟨19, 1, [.cell 4 (some 3), .tmp 5],
 [.seq 1 2,
 .reg [.s 4 (.alloc 111 [(.i 0), (.str []), (.i 0)]),
 .s 5 (.mv (.c (.bool false)))],
 .seq 3 4,
 .dreg 13 [.s 6 (.m 0),
 .s 7 (.l 1),
 .s 8 (.k 7),
 .s 9 (.a 0 8),
 .s 10 (.l 9),
 .s 11 (.l 2),
 .s 12 (.l 1),
 .s 13 (.k 12),
 .s 14 (.a 1 13),
 .s 15 (.l 14),
 .s 16 (.slices (.t 10) (some (.t 11)) (some (.t 15))),
 .s 17 (.l 2),
 .s 18 (.build [(.i 0), (.str []), (.i 0)] [(0, 1, (.t 6)), (1, 1, (.t 16)), (2, 1, (.t 17))]),
 .n (.store 3 (.t 4) (.t 18)),
 .s 5 (.mv (.c (.bool true)))],
 .ret]⟩

/-- (*luminaire/lexer.reader).is -/
def F159 : FT := ⟨34, 3, [.tmp 6],
 [.seq 1 2,
 .reg [.s 6 (.mv (.c (.bool false)))],
 .seq 3 4,
 .dreg 28 [.s 7 (.m 0),
 .s 8 (.k 7),
 .s 9 (.a 1 8),
 .s 10 (.l 9),
 .s 11 (.m 1),
 .s 12 (.bin .add (.t 10) (.t 11)),
 .s 13 (.m 0),
 .s 14 (.k 13),
 .s 15 (.a 0 14),
 .s 16 (.l 15),
 .s 17 (.lens (.t 16)),
 .s 18 (.bin .lss (.t 12) (.t 17)),
 .s 19 (.m 18),
 .y 20 (.m 2) 19,
 .y 21 (.m 0) 19,
 .y 22 (.k 21) 19,
 .y 23 (.a 0 22) 19,
 .y 24 (.l 23) 19,
 .y 25 (.m 0) 19,
 .y 26 (.k 25) 19,
 .y 27 (.a 1 26) 19,
 .y 28 (.l 27) 19,
 .y 29 (.m 1) 19,
 .y 30 (.bin .add (.t 28) (.t 29)) 19,
 .y 31 (.ichr (.t 24) (.t 30)) 19,
 .y 32 (.call (.t 20) [(.t 31)]) 19,
 .s 33 (.pick (.t 19) (.t 32) (.c (.bool false))),
 .s 6 (.m 33)],
 .ret]⟩

/-- luminaire/lexer.isLetter -/
def F160 : FT := ⟨17, 1, [.tmp 2],
 [.seq 1 2,
 .reg [.s 2 (.mv (.c (.bool false)))],
 .seq 3 4,
 .reg [.s 3 (.m 0),
 .s 4 (.bin .geq (.t 3) (.c (.int .u8 97))),
 .s 5 (.m 4),
 .y 6 (.m 0) 5,
 .y 7 (.bin .leq (.t 6) (.c (.int .u8 122))) 5,
 .s 8 (.pick (.t 5) (.t 7) (.c (.bool false))),
 .s 9 (.m 8),
 .x 10 (.m 0) 9,
 .x 11 (.bin .geq (.t 10) (.c (.int .u8 65))) 9,
 .x 12 (.m 11) 9,
 .y 13 (.m 0) 12,
 .y 14 (.bin .leq (.t 13) (.c (.int .u8 90))) 12,
 .x 15 (.pick (.t 12) (.t 14) (.c (.bool false))) 9,
 .s 16 (.pick (.t 9) (.c (.bool true)) (.t 15)),
 .s 2 (.m 16)],
 .ret]⟩

/-- luminaire/lexer.isWord -/
def F161 : FT := ⟨13, 1, [.tmp 2],
 [.seq 1 2,
 .reg [.s 2 (.mv (.c (.bool false)))],
 .seq 3 4,
 .reg [.s 3 (.m 0),
 .s 4 (.f 160 [(.t 3)]),
 .s 5 (.m 4),
 .x 6 (.m 0) 5,
 .x 7 (.f 165 [(.t 6)]) 5,
 .s 8 (.pick (.t 5) (.c (.bool true)) (.t 7)),
 .s 9 (.m 8),
 .x 10 (.m 0) 9,
 .x 11 (.bin .eql (.t 10) (.c (.int .u8 95))) 9,
 .s 12 (.pick (.t 9) (.c (.bool true)) (.t 11)),
 .s 2 (.m 12)],
 .ret]⟩

/-- luminaire/lexer.lower -/
def F162 : FT := ⟨30, 1, [.tmp 2],
 [.seq 1 2,
 .reg [.s 2 (.mv (.w []))],
 .seq 3 4,
 .reg [.s 6 (.m 0),
 .s 7 (.cvsb 5 (.t 6)),
 .s 3 (.m 7)],
 .seq 5 25,
 .seq 6 7,
 .reg [.s 8 (.m 3),
 .s 9 (.len (.t 8)),
 .s 10 (.mv (.i 0))],
 .block 0 8,
 .loop 9,
 .seq 10 11,
 .reg [.s 11 (.bin .lss (.t 10) (.t 9))],
 .seq 12 15,
 .cond (.t 11) 13 14,
 .skip,
 .exit 0,
 .seq 16 24,
 .block 1 17,
 .seq 18 19,
 .reg [.s 12 (.m 10),
 .s 13 (.iadr 1 (.t 8) (.t 10)),
 .s 14 (.l 13),
 .s 4 (.m 12),
 .s 5 (.m 14)],
 .seq 20 21,
 .reg [.s 15 (.m 5),
 .s 16 (.bin .geq (.t 15) (.c (.int .u8 65))),
 .s 17 (.m 16),
 .y 18 (.m 5) 17,
 .y 19 (.bin .leq (.t 18) (.c (.int .u8 90))) 17,
 .s 20 (.pick (.t 17) (.t 19) (.c (.bool false)))],
 .cond (.t 20) 22 23,
 .reg [.s 21 (.m 3),
 .s 22 (.m 4),
 .s 23 (.m 5),
 .s 24 (.bin .add (.t 23) (.c (.int .u8 97))),
 .s 25 (.bin .sub (.t 24) (.c (.int .u8 65))),
 .s 26 (.iadr 1 (.t 21) (.t 22)),
 .n (.store 1 (.t 26) (.t 25))],
 .skip,
 .reg [.s 27 (.bin .add (.t 10) (.i 1)),
 .s 10 (.m 27)],
 .seq 26 27,
 .reg [.s 28 (.m 3),
 .s 29 (.cvbs (.t 28)),
 .s 2 (.m 29)],
 .ret]⟩

/-- luminaire/lexer.isPlain -/
def F163 : FT := ⟨13, 1, [.tmp 2],
 [.seq 1 2,
 .reg [.s 2 (.mv (.c (.bool false)))],
 .seq 3 4,
 .reg [.s 3 (.m 0),
 .s 4 (.bin .geq (.t 3) (.c (.int .u8 32))),
 .s 5 (.m 4),
 .y 6 (.m 0) 5,
 .y 7 (.bin .leq (.t 6) (.c (.int .u8 126))) 5,
 .s 8 (.pick (.t 5) (.t 7) (.c (.bool false))),
 .s 9 (.m 8),
 .y 10 (.m 0) 9,
 .y 11 (.bin .neq (.t 10) (.c (.int .u8 34))) 9,
 .s 12 (.pick (.t 9) (.t 11) (.c (.bool false))),
 .s 2 (.m 12)],
 .ret]⟩

/-- (*luminaire/lexer.reader).token$3 -/
def F164 : FT := ⟨5, 1, [.tmp 2],
 [.seq 1 2,
 .reg [.s 2 (.mv (.c (.bool false)))],
 .seq 3 4,
 .reg [.s 3 (.m 0),
 .s 4 (.bin .eql (.t 3) (.c (.int .u8 34))),
 .s 2 (.m 4)],
 .ret]⟩

/-- luminaire/lexer.isDigit -/
def F165 : FT := ⟨9, 1, [.tmp 2],
 [.seq 1 2,
 .reg [.s 2 (.mv (.c (.bool false)))],
 .seq 3 4,
 .reg [.s 3 (.m 0),
 .s 4 (.bin .geq (.t 3) (.c (.int .u8 48))),
 .s 5 (.m 4),
 .y 6 (.m 0) 5,
 .y 7 (.bin .leq (.t 6) (.c (.int .u8 57))) 5,
 .s 8 (.pick (.t 5) (.t 7) (.c (.bool false))),
 .s 2 (.m 8)],
 .ret]⟩

/-- (*luminaire/lexer.reader).token$4 -/
def F166 : FT := ⟨5, 1, [.tmp 2],
 [.seq 1 2,
 .reg [.s 2 (.mv (.c (.bool false)))],
 .seq 3 4,
 .reg [.s 3 (.m 0),
 .s 4 (.bin .eql (.t 3) (.c (.int .u8 46))),
 .s 2 (.m 4)],
 .ret]⟩

/-- luminaire/lexer.isSign -/
def F167 : FT := ⟨6, 1, [.tmp 2],
 [.seq 1 2,
 .reg [.s 2 (.mv (.c (.bool false)))],
 .seq 3 4,
 .reg [.s 3 (.m 0),
 .s 4 (.f 198 [(.w [43, 45, 47, 46, 44, 64, 58, 61, 37, 40, 41]), (.t 3)]),
 .s 5 (.bin .geq (.t 4) (.i 0)),
 .s 2 (.m 5)],
 .ret]⟩

/-- internal/stringslite.IndexByte -/
def F145 : FT := ⟨8, 2, [.tmp 4],
 [.seq 1 2,
 .reg [.s 4 (.mv (.i 0))],
 .seq 3 4,
 .reg [.s 5 (.m 0),
 .s 6 (.m 1),
 .s 7 (.f 200 [(.t 5), (.t 6)]),
 .s 4 (.m 7)],
 .ret]⟩

/-- strings.IndexByte -/
def F198 : FT := ⟨8, 2, [.tmp 4],
 [.seq 1 2,
 .reg [.s 4 (.mv (.i 0))],
 .seq 3 4,
 .reg [.s 5 (.m 0),
 .s 6 (.m 1),
 .s 7 (.f 145 [(.t 5), (.t 6)]),
 .s 4 (.m 7)],
 .ret]⟩

/-- luminaire/lexer.one -/
def F221 : FT := ⟨36, 1, [.cell 2 (some 3), .tmp 3],
 [.seq 1 2,
 .reg [.s 2 (.alloc 111 [(.i 0), (.str []), (.i 0)]),
 .s 3 (.mv (.c (.bool false)))],
 .seq 3 4,
 .reg [.s 7 (.m 0),
 .s 8 (.build [(.str []), (.i 0)] [(0, 1, (.t 7))]),
 .s 9 (.box 139 (.t 8)),
 .s 4 (.m 9)],
 .seq 5 6,
 .reg [.s 11 (.m 4),
 .s 12 (.f 107 [(.t 11)]),
 .s 10 (.m 12),
 .s 13 (.ext 0 (.t 10)),
 .s 14 (.ext 1 (.t 10)),
 .s 5 (.alloc 111 [(.i 0), (.str []), (.i 0)]),
 .n (.store 3 (.t 5) (.t 13)),
 .s 6 (.m 14)],
 .seq 7 8,
 .sreg 21 [.s 15 (.load (some 3) (.t 5)),
 .s 16 (.m 6),
 .s 17 (.m 16),
 .y 18 (.a 2 5) 17,
 .y 19 (.l 18) 17,
 .y 20 (.bin .eql (.t 19) (.i 0)) 17,
 .s 21 (.pick (.t 17) (.t 20) (.c (.bool false))),
 .s 22 (.m 21),
 .y 23 (.m 4) 22,
 .y 24 (.k 23) 22,
 .y 25 (.a 1 24) 22,
 .y 26 (.l 25) 22,
 .y 27 (.m 0) 22,
 .y 28 (.lens (.t 27)) 22,
 .y 29 (.bin .eql (.t 26) (.t 28)) 22,
 .s 30 (.pick (.t 22) (.t 29) (.c (.bool false))),
 .s 31 (.m 30),
 .y 32 (.a 0 5) 31,
 .y 33 (.l 32) 31,
 .y 34 (.bin .neq (.t 33) (.i 3)) 31,
 .s 35 (.pick (.t 31) (.t 34) (.c (.bool false))),
 .n (.store 3 (.t 2) (.t 15)),
 .s 3 (.m 35)],
 .ret]⟩

/-- luminaire/lexer.Word -/
def F207 : FT := ⟨31, 1, [.tmp 2],
 [.seq 1 2,
 .reg [.s 2 (.mv (.i 0))],
 .seq 3 4,
 .reg [.s 6 (.m 0),
 .s 7 (.f 221 [(.t 6)]),
 .s 5 (.m 7),
 .s 8 (.ext 0 (.t 5)),
 .s 9 (.ext 1 (.t 5)),
 .s 3 (.alloc 111 [(.i 0), (.str []), (.i 0)]),
 .n (.store 3 (.t 3) (.t 8)),
 .s 4 (.m 9)],
 .seq 5 12,
 .seq 6 7,
 .reg [.s 10 (.m 4),
 .s 11 (.un .not (.t 10)),
 .s 12 (.m 11),
 .x 13 (.a 0 3) 12,
 .x 14 (.l 13) 12,
 .x 15 (.bin .neq (.t 14) (.i 0)) 12,
 .s 16 (.pick (.t 12) (.c (.bool true)) (.t 15)),
 .s 17 (.m 16),
 .x 18 (.a 1 3) 17,
 .x 19 (.l 18) 17,
 .x 20 (.m 0) 17,
 .x 21 (.bin .neq (.t 19) (.t 20)) 17,
 .s 22 (.pick (.t 17) (.c (.bool true)) (.t 21)),
 .s 23 (.m 22),
 .x 24 (.m 0) 23,
 .x 25 (.ichr (.t 24) (.i 0)) 23,
 .x 26 (.bin .eql (.t 25) (.c (.int .u8 34))) 23,
 .s 27 (.pick (.t 23) (.c (.bool true)) (.t 26))],
 .cond (.t 27) 8 11,
 .seq 9 10,
 .reg [.s 2 (.mv (.i 8))],
 .ret,
 .skip,
 .seq 13 20,
 .seq 14 15,
 .reg [.s 28 (.m 0),
 .s 29 (.lens (.t 28)),
 .s 30 (.bin .gtr (.t 29) (.i 24))],
 .cond (.t 30) 16 19,
 .seq 17 18,
 .reg [.s 2 (.mv (.i 13))],
 .ret,
 .skip,
 .seq 21 22,
 .reg [.s 2 (.mv (.i 0))],
 .ret]⟩

/-- luminaire/luminaireref07.Scan -/
def F67 : FT := ⟨50, 1, [.tmp 2, .tmp 3, .tmp 4],
 [.seq 1 2,
 .reg [.s 2 (.mv (.c .nils)),
 .s 3 (.mv (.i 0)),
 .s 4 (.mv (.i 0))],
 .seq 3 10,
 .seq 4 5,
 .reg [.s 9 (.m 0),
 .s 10 (.lens (.t 9)),
 .s 11 (.bin .gtr (.t 10) (.i 4096))],
 .cond (.t 11) 6 9,
 .seq 7 8,
 .reg [.s 2 (.mv (.c .nils)),
 .s 3 (.mv (.i 0)),
 .s 4 (.mv (.i 13))],
 .ret,
 .skip,
 .seq 11 12,
 .reg [.s 5 (.mv (.c .nils))],
 .seq 13 64,
 .seq 14 15,
 .reg [.s 6 (.mv (.i 0))],
 .block 0 16,
 .loop 17,
 .seq 18 23,
 .seq 19 20,
 .reg [.s 12 (.m 6),
 .s 13 (.m 0),
 .s 14 (.lens (.t 13)),
 .s 15 (.bin .leq (.t 12) (.t 14))],
 .cond (.t 15) 21 22,
 .skip,
 .exit 0,
 .block 1 24,
 .seq 25 35,
 .block 2 26,
 .loop 27,
 .seq 28 33,
 .seq 29 30,
 .reg [.s 16 (.m 6),
 .s 17 (.m 0),
 .s 18 (.lens (.t 17)),
 .s 19 (.bin .lss (.t 16) (.t 18)),
 .s 20 (.m 19),
 .y 21 (.m 0) 20,
 .y 22 (.m 6) 20,
 .y 23 (.ichr (.t 21) (.t 22)) 20,
 .y 24 (.bin .eql (.t 23) (.c (.int .u8 32))) 20,
 .s 25 (.pick (.t 20) (.t 24) (.c (.bool false)))],
 .cond (.t 25) 31 32,
 .skip,
 .exit 2,
 .block 3 34,
 .reg [.s 26 (.m 6),
 .s 27 (.bin .add (.t 26) (.i 1)),
 .s 6 (.m 27)],
 .seq 36 37,
 .reg [.s 29 (.m 0),
 .s 30 (.m 6),
 .s 31 (.f 125 [(.t 29), (.t 30)]),
 .s 28 (.m 31),
 .s 32 (.ext 0 (.t 28)),
 .s 33 (.ext 1 (.t 28)),
 .s 7 (.alloc 111 [(.i 0), (.str []), (.i 0)]),
 .n (.store 3 (.t 7) (.t 32)),
 .s 8 (.m 33)],
 .seq 38 45,
 .seq 39 40,
 .reg [.s 34 (.m 8),
 .s 35 (.bin .lss (.t 34) (.i 0))],
 .cond (.t 35) 41 44,
 .seq 42 43,
 .reg [.s 36 (.m 6),
 .s 2 (.mv (.c .nils)),
 .s 3 (.m 36),
 .s 4 (.mv (.i 4))],
 .ret,
 .skip,
 .seq 46 53,
 .seq 47 48,
 .reg [.s 37 (.m 5),
 .s 38 (.len (.t 37)),
 .s 39 (.bin .eql (.t 38) (.i 256))],
 .cond (.t 39) 49 52,
 .seq 50 51,
 .reg [.s 40 (.m 6),
 .s 2 (.mv (.c .nils)),
 .s 3 (.m 40),
 .s 4 (.mv (.i 5))],
 .ret,
 .skip,
 .seq 54 55,
 .reg [.s 41 (.m 5),
 .s 42 (.load (some 3) (.t 7)),
 .s 43 (.bslice 111 3 [(.t 42)]),
 .s 44 (.append 111 3 32 (.t 41) (.t 43)),
 .s 5 (.m 44)],
 .seq 56 63,
 .seq 57 58,
 .reg [.s 45 (.a 0 7),
 .s 46 (.l 45),
 .s 47 (.bin .eql (.t 46) (.i 3))],
 .cond (.t 47) 59 62,
 .seq 60 61,
 .reg [.s 48 (.m 5),
 .s 2 (.m 48),
 .s 3 (.mv (.i 0)),
 .s 4 (.mv (.i 0))],
 .ret,
 .skip,
 .reg [.s 49 (.m 8),
 .s 6 (.m 49)],
 .seq 65 66,
 .reg [.s 2 (.mv (.c .nils)),
 .s 3 (.mv (.i 0)),
 .s 4 (.mv (.i 4))],
 .ret]⟩

/-- luminaire/luminaireref07.Token -/
def F125 : FT := ⟨66, 2, [.cell 4 (some 3), .tmp 5],
 [.seq 1 2,
 .reg [.s 4 (.alloc 111 [(.i 0), (.str []), (.i 0)]),
 .s 5 (.mv (.i 0))],
 .seq 3 10,
 .seq 4 5,
 .reg [.s 8 (.m 1),
 .s 9 (.m 0),
 .s 10 (.lens (.t 9)),
 .s 11 (.bin .eql (.t 8) (.t 10))],
 .cond (.t 11) 6 9,
 .seq 7 8,
 .reg [.s 12 (.m 1),
 .s 13 (.build [(.i 0), (.str []), (.i 0)] [(0, 1, (.i 3)), (2, 1, (.t 12))]),
 .s 14 (.m 1),
 .n (.store 3 (.t 4) (.t 13)),
 .s 5 (.m 14)],
 .ret,
 .skip,
 .seq 11 12,
 .reg [.s 6 (.mv (.i (-1))),
 .s 7 (.mv (.i 0))],
 .seq 13 35,
 .block 0 14,
 .seq 15 16,
 .reg [.s 16 (.m 0),
 .s 17 (.m 1),
 .s 18 (.ichr (.t 16) (.t 17)),
 .s 19 (.f 176 [(.t 18)]),
 .s 15 (.m 19)],
 .cond (.t 15) 17 22,
 .seq 18 19,
 .reg [.s 20 (.m 0),
 .s 21 (.m 1),
 .s 22 (.f 177 [(.t 20), (.t 21)]),
 .s 6 (.m 22)],
 .seq 20 21,
 .reg [.s 23 (.m 7),
 .s 24 (.m 0),
 .s 25 (.m 1),
 .s 26 (.m 6),
 .s 27 (.slices (.t 24) (some (.t 25)) (some (.t 26))),
 .s 28 (.f 178 [(.t 27)]),
 .s 29 (.m 1),
 .s 30 (.build [(.i 0), (.str []), (.i 0)] [(0, 1, (.t 23)), (1, 1, (.t 28)), (2, 1, (.t 29))]),
 .s 31 (.m 6),
 .n (.store 3 (.t 4) (.t 30)),
 .s 5 (.m 31)],
 .ret,
 .seq 23 24,
 .reg [.s 33 (.m 0),
 .s 34 (.m 1),
 .s 35 (.ichr (.t 33) (.t 34)),
 .s 36 (.bin .eql (.t 35) (.c (.int .u8 34))),
 .s 32 (.m 36)],
 .cond (.t 32) 25 26,
 .reg [.s 37 (.m 0),
 .s 38 (.m 1),
 .s 39 (.f 179 [(.t 37), (.t 38)]),
 .s 6 (.m 39)],
 .seq 27 28,
 .reg [.s 41 (.m 0),
 .s 42 (.m 1),
 .s 43 (.ichr (.t 41) (.t 42)),
 .s 44 (.f 180 [(.t 43)]),
 .s 40 (.m 44)],
 .cond (.t 40) 29 30,
 .reg [.s 45 (.m 0),
 .s 46 (.m 1),
 .s 47 (.f 181 [(.t 45), (.t 46)]),
 .s 6 (.m 47),
 .s 7 (.mv (.i 1))],
 .seq 31 32,
 .reg [.s 49 (.m 0),
 .s 50 (.m 1),
 .s 51 (.ichr (.t 49) (.t 50)),
 .s 52 (.f 182 [(.t 51)]),
 .s 48 (.m 52)],
 .cond (.t 48) 33 34,
 .reg [.s 53 (.m 1),
 .s 54 (.bin .add (.t 53) (.i 1)),
 .s 6 (.m 54),
 .s 7 (.mv (.i 2))],
 .skip,
 .seq 36 43,
 .seq 37 38,
 .reg [.s 55 (.m 6),
 .s 56 (.bin .lss (.t 55) (.i 0))],
 .cond (.t 56) 39 42,
 .seq 40 41,
 .reg [.s 57 (.build [(.i 0), (.str []), (.i 0)] []),
 .n (.store 3 (.t 4) (.t 57)),
 .s 5 (.mv (.i (-1)))],
 .ret,
 .skip,
 .seq 44 45,
 .reg [.s 58 (.m 7),
 .s 59 (.m 0),
 .s 60 (.m 1),
 .s 61 (.m 6),
 .s 62 (.slices (.t 59) (some (.t 60)) (some (.t 61))),
 .s 63 (.m 1),
 .s 64 (.build [(.i 0), (.str []), (.i 0)] [(0, 1, (.t 58)), (1, 1, (.t 62)), (2, 1, (.t 63))]),
 .s 65 (.m 6),
 .n (.store 3 (.t 4) (.t 64)),
 .s 5 (.m 65)],
 .ret]⟩

/-- luminaire/luminaireref07.letter -/
def F176 : FT := ⟨17, 1, [.tmp 2],
 [.seq 1 2,
 .reg [.s 2 (.mv (.c (.bool false)))],
 .seq 3 4,
 .reg [.s 3 (.m 0),
 .s 4 (.bin .geq (.t 3) (.c (.int .u8 97))),
 .s 5 (.m 4),
 .y 6 (.m 0) 5,
 .y 7 (.bin .leq (.t 6) (.c (.int .u8 122))) 5,
 .s 8 (.pick (.t 5) (.t 7) (.c (.bool false))),
 .s 9 (.m 8),
 .x 10 (.m 0) 9,
 .x 11 (.bin .geq (.t 10) (.c (.int .u8 65))) 9,
 .x 12 (.m 11) 9,
 .y 13 (.m 0) 12,
 .y 14 (.bin .leq (.t 13) (.c (.int .u8 90))) 12,
 .x 15 (.pick (.t 12) (.t 14) (.c (.bool false))) 9,
 .s 16 (.pick (.t 9) (.c (.bool true)) (.t 15)),
 .s 2 (.m 16)],
 .ret]⟩

/-- luminaire/luminaireref07.word -/
def F177 : FT := ⟨30, 2, [.tmp 4],
 [.seq 1 2,
 .reg [.s 4 (.mv (.i 0))],
 .seq 3 13,
 .block 0 4,
 .loop 5,
 .seq 6 11,
 .seq 7 8,
 .reg [.s 5 (.m 1),
 .s 6 (.m 0),
 .s 7 (.lens (.t 6)),
 .s 8 (.bin .lss (.t 5) (.t 7)),
 .s 9 (.m 8),
 .y 10 (.m 0) 9,
 .y 11 (.m 1) 9,
 .y 12 (.ichr (.t 10) (.t 11)) 9,
 .y 13 (.f 176 [(.t 12)]) 9,
 .y 14 (.m 13) 9,
 .x 15 (.m 0) 14,
 .x 16 (.m 1) 14,
 .x 17 (.ichr (.t 15) (.t 16)) 14,
 .x 18 (.f 180 [(.t 17)]) 14,
 .y 19 (.pick (.t 14) (.c (.bool true)) (.t 18)) 9,
 .y 20 (.m 19) 9,
 .x 21 (.m 0) 20,
 .x 22 (.m 1) 20,
 .x 23 (.ichr (.t 21) (.t 22)) 20,
 .x 24 (.bin .eql (.t 23) (.c (.int .u8 95))) 20,
 .y 25 (.pick (.t 20) (.c (.bool true)) (.t 24)) 9,
 .s 26 (.pick (.t 9) (.t 25) (.c (.bool false)))],
 .cond (.t 26) 9 10,
 .skip,
 .exit 0,
 .block 1 12,
 .reg [.s 27 (.m 1),
 .s 28 (.bin .add (.t 27) (.i 1)),
 .s 1 (.m 28)],
 .seq 14 15,
 .reg [.s 29 (.m 1),
 .s 4 (.m 29)],
 .ret]⟩

/-- luminaire/luminaireref07.Lower -/
def F178 : FT := ⟨30, 1, [.tmp 2],
 [.seq 1 2,
 .reg [.s 2 (.mv (.w []))],
 .seq 3 4,
 .reg [.s 3 (.mv (.w []))],
 .seq 5 27,
 .seq 6 7,
 .reg [.s 4 (.mv (.i 0))],
 .block 0 8,
 .loop 9,
 .seq 10 15,
 .seq 11 12,
 .reg [.s 6 (.m 4),
 .s 7 (.m 0),
 .s 8 (.lens (.t 7)),
 .s 9 (.bin .lss (.t 6) (.t 8))],
 .cond (.t 9) 13 14,
 .skip,
 .exit 0,
 .seq 16 26,
 .block 1 17,
 .seq 18 19,
 .reg [.s 12 (.m 0),
 .s 13 (.m 4),
 .s 14 (.ichr (.t 12) (.t 13)),
 .s 5 (.m 14)],
 .seq 20 25,
 .seq 21 22,
 .reg [.s 15 (.m 5),
 .s 16 (.bin .geq (.t 15) (.c (.int .u8 65))),
 .s 17 (.m 16),
 .y 18 (.m 5) 17,
 .y 19 (.bin .leq (.t 18) (.c (.int .u8 90))) 17,
 .s 20 (.pick (.t 17) (.t 19) (.c (.bool false)))],
 .cond (.t 20) 23 24,
 .reg [.s 21 (.m 5),
 .s 22 (.bin .sub (.t 21) (.c (.int .u8 65))),
 .s 23 (.bin .add (.t 22) (.c (.int .u8 97))),
 .s 5 (.m 23)],
 .skip,
 .reg [.s 24 (.m 3),
 .s 25 (.m 5),
 .s 26 (.cvi .i32 (.t 25)),
 .s 27 (.cvis (.t 26)),
 .s 28 (.bin .add (.t 24) (.t 27)),
 .s 3 (.m 28)],
 .reg [.s 10 (.m 4),
 .s 11 (.bin .add (.t 10) (.i 1)),
 .s 4 (.m 11)],
 .seq 28 29,
 .reg [.s 29 (.m 3),
 .s 2 (.m 29)],
 .ret]⟩

/-- luminaire/luminaireref07.quoted -/
def F179 : FT := ⟨32, 2, [.tmp 4],
 [.seq 1 2,
 .reg [.s 4 (.mv (.i 0))],
 .seq 3 4,
 .reg [.s 6 (.m 1),
 .s 7 (.bin .add (.t 6) (.i 1)),
 .s 5 (.m 7)],
 .seq 5 15,
 .block 0 6,
 .loop 7,
 .seq 8 13,
 .seq 9 10,
 .reg [.s 8 (.m 5),
 .s 9 (.m 0),
 .s 10 (.lens (.t 9)),
 .s 11 (.bin .lss (.t 8) (.t 10)),
 .s 12 (.m 11),
 .y 13 (.m 0) 12,
 .y 14 (.m 5) 12,
 .y 15 (.ichr (.t 13) (.t 14)) 12,
 .y 16 (.f 209 [(.t 15)]) 12,
 .s 17 (.pick (.t 12) (.t 16) (.c (.bool false)))],
 .cond (.t 17) 11 12,
 .skip,
 .exit 0,
 .block 1 14,
 .reg [.s 18 (.m 5),
 .s 19 (.bin .add (.t 18) (.i 1)),
 .s 5 (.m 19)],
 .seq 16 23,
 .seq 17 18,
 .reg [.s 20 (.m 5),
 .s 21 (.m 0),
 .s 22 (.lens (.t 21)),
 .s 23 (.bin .eql (.t 20) (.t 22)),
 .s 24 (.m 23),
 .x 25 (.m 0) 24,
 .x 26 (.m 5) 24,
 .x 27 (.ichr (.t 25) (.t 26)) 24,
 .x 28 (.bin .neq (.t 27) (.c (.int .u8 34))) 24,
 .s 29 (.pick (.t 24) (.c (.bool true)) (.t 28))],
 .cond (.t 29) 19 22,
 .seq 20 21,
 .reg [.s 4 (.mv (.i (-1)))],
 .ret,
 .skip,
 .seq 24 25,
 .reg [.s 30 (.m 5),
 .s 31 (.bin .add (.t 30) (.i 1)),
 .s 4 (.m 31)],
 .ret]⟩

/-- luminaire/luminaireref07.digit -/
def F180 : FT := ⟨9, 1, [.tmp 2],
 [.seq 1 2,
 .reg [.s 2 (.mv (.c (.bool false)))],
 .seq 3 4,
 .reg [.s 3 (.m 0),
 .s 4 (.bin .geq (.t 3) (.c (.int .u8 48))),
 .s 5 (.m 4),
 .y 6 (.m 0) 5,
 .y 7 (.bin .leq (.t 6) (.c (.int .u8 57))) 5,
 .s 8 (.pick (.t 5) (.t 7) (.c (.bool false))),
 .s 2 (.m 8)],
 .ret]⟩

/-- luminaire/luminaireref07.number -/
def F181 : FT := ⟨50, 2, [.tmp 4],
 [.seq 1 2,
 .reg [.s 4 (.mv (.i 0))],
 .seq 3 13,
 .block 0 4,
 .loop 5,
 .seq 6 11,
 .seq 7 8,
 .reg [.s 5 (.m 1),
 .s 6 (.m 0),
 .s 7 (.lens (.t 6)),
 .s 8 (.bin .lss (.t 5) (.t 7)),
 .s 9 (.m 8),
 .y 10 (.m 0) 9,
 .y 11 (.m 1) 9,
 .y 12 (.ichr (.t 10) (.t 11)) 9,
 .y 13 (.f 180 [(.t 12)]) 9,
 .s 14 (.pick (.t 9) (.t 13) (.c (.bool false)))],
 .cond (.t 14) 9 10,
 .skip,
 .exit 0,
 .block 1 12,
 .reg [.s 15 (.m 1),
 .s 16 (.bin .add (.t 15) (.i 1)),
 .s 1 (.m 16)],
 .seq 14 30,
 .seq 15 16,
 .reg [.s 17 (.m 1),
 .s 18 (.bin .add (.t 17) (.i 1)),
 .s 19 (.m 0),
 .s 20 (.lens (.t 19)),
 .s 21 (.bin .lss (.t 18) (.t 20)),
 .s 22 (.m 21),
 .y 23 (.m 0) 22,
 .y 24 (.m 1) 22,
 .y 25 (.ichr (.t 23) (.t 24)) 22,
 .y 26 (.bin .eql (.t 25) (.c (.int .u8 46))) 22,
 .s 27 (.pick (.t 22) (.t 26) (.c (.bool false))),
 .s 28 (.m 27),
 .y 29 (.m 0) 28,
 .y 30 (.m 1) 28,
 .y 31 (.bin .add (.t 30) (.i 1)) 28,
 .y 32 (.ichr (.t 29) (.t 31)) 28,
 .y 33 (.f 180 [(.t 32)]) 28,
 .s 34 (.pick (.t 28) (.t 33) (.c (.bool false)))],
 .cond (.t 34) 17 29,
 .seq 18 19,
 .reg [.s 35 (.m 1),
 .s 36 (.bin .add (.t 35) (.i 1)),
 .s 1 (.m 36)],
 .block 2 20,
 .loop 21,
 .seq 22 27,
 .seq 23 24,
 .reg [.s 37 (.m 1),
 .s 38 (.m 0),
 .s 39 (.lens (.t 38)),
 .s 40 (.bin .lss (.t 37) (.t 39)),
 .s 41 (.m 40),
 .y 42 (.m 0) 41,
 .y 43 (.m 1) 41,
 .y 44 (.ichr (.t 42) (.t 43)) 41,
 .y 45 (.f 180 [(.t 44)]) 41,
 .s 46 (.pick (.t 41) (.t 45) (.c (.bool false)))],
 .cond (.t 46) 25 26,
 .skip,
 .exit 2,
 .block 3 28,
 .reg [.s 47 (.m 1),
 .s 48 (.bin .add (.t 47) (.i 1)),
 .s 1 (.m 48)],
 .skip,
 .seq 31 32,
 .reg [.s 49 (.m 1),
 .s 4 (.m 49)],
 .ret]⟩

/-- luminaire/luminaireref07.sign -/
def F182 : FT := ⟨12, 1, [.tmp 2],
 [.seq 1 2,
 .reg [.s 2 (.mv (.c (.bool false)))],
 .seq 3 23,
 .seq 4 5,
 .reg [.s 3 (.mv (.i 0))],
 .block 0 6,
 .loop 7,
 .seq 8 13,
 .seq 9 10,
 .reg [.s 4 (.m 3),
 .s 5 (.bin .lss (.t 4) (.i 11))],
 .cond (.t 5) 11 12,
 .skip,
 .exit 0,
 .seq 14 22,
 .block 1 15,
 .seq 16 17,
 .reg [.s 8 (.m 3),
 .s 9 (.ichr (.w [43, 45, 47, 46, 44, 64, 58, 61, 37, 40, 41]) (.t 8)),
 .s 10 (.m 0),
 .s 11 (.bin .eql (.t 9) (.t 10))],
 .cond (.t 11) 18 21,
 .seq 19 20,
 .reg [.s 2 (.mv (.c (.bool true)))],
 .ret,
 .skip,
 .reg [.s 6 (.m 3),
 .s 7 (.bin .add (.t 6) (.i 1)),
 .s 3 (.m 7)],
 .seq 24 25,
 .reg [.s 2 (.mv (.c (.bool false)))],
 .ret]⟩

/-- luminaire/luminaireref07.Word -/
def F185 : FT := ⟨27, 1, [.tmp 2],
 [.seq 1 2,
 .reg [.s 2 (.mv (.i 0))],
 .seq 3 10,
 .seq 4 5,
 .reg [.s 3 (.m 0),
 .s 4 (.bin .eql (.t 3) (.w [])),
 .s 5 (.m 4),
 .x 6 (.m 0) 5,
 .x 7 (.ichr (.t 6) (.i 0)) 5,
 .x 8 (.f 176 [(.t 7)]) 5,
 .x 9 (.un .not (.t 8)) 5,
 .s 10 (.pick (.t 5) (.c (.bool true)) (.t 9)),
 .s 11 (.m 10),
 .x 12 (.m 0) 11,
 .x 13 (.f 177 [(.t 12), (.i 0)]) 11,
 .x 14 (.m 0) 11,
 .x 15 (.lens (.t 14)) 11,
 .x 16 (.bin .neq (.t 13) (.t 15)) 11,
 .s 17 (.pick (.t 11) (.c (.bool true)) (.t 16)),
 .s 18 (.m 17),
 .x 19 (.m 0) 18,
 .x 20 (.f 178 [(.t 19)]) 18,
 .x 21 (.m 0) 18,
 .x 22 (.bin .neq (.t 20) (.t 21)) 18,
 .s 23 (.pick (.t 18) (.c (.bool true)) (.t 22))],
 .cond (.t 23) 6 9,
 .seq 7 8,
 .reg [.s 2 (.mv (.i 8))],
 .ret,
 .skip,
 .seq 11 18,
 .seq 12 13,
 .reg [.s 24 (.m 0),
 .s 25 (.lens (.t 24)),
 .s 26 (.bin .gtr (.t 25) (.i 24))],
 .cond (.t 26) 14 17,
 .seq 15 16,
 .reg [.s 2 (.mv (.i 13))],
 .ret,
 .skip,
 .seq 19 20,
 .reg [.s 2 (.mv (.i 0))],
 .ret]⟩

/-- luminaire/luminaireref07.plain -/
def F209 : FT := ⟨13, 1, [.tmp 2],
 [.seq 1 2,
 .reg [.s 2 (.mv (.c (.bool false)))],
 .seq 3 4,
 .reg [.s 3 (.m 0),
 .s 4 (.bin .geq (.t 3) (.c (.int .u8 32))),
 .s 5 (.m 4),
 .y 6 (.m 0) 5,
 .y 7 (.bin .leq (.t 6) (.c (.int .u8 126))) 5,
 .s 8 (.pick (.t 5) (.t 7) (.c (.bool false))),
 .s 9 (.m 8),
 .y 10 (.m 0) 9,
 .y 11 (.bin .neq (.t 10) (.c (.int .u8 34))) 9,
 .s 12 (.pick (.t 9) (.t 11) (.c (.bool false))),
 .s 2 (.m 12)],
 .ret]⟩

theorem F60_ok : compFn Tryz.prog 60 = some F60 := by kernel_rfl
theorem F107_ok : compFn Tryz.prog 107 = some F107 := by kernel_rfl
theorem F156_ok : compFn Tryz.prog 156 = some F156 := by kernel_rfl
theorem F157_ok : compFn Tryz.prog 157 = some F157 := by kernel_rfl
theorem F158_ok : compFn Tryz.prog 158 = some F158 := by kernel_rfl
theorem F159_ok : compFn Tryz.prog 159 = some F159 := by kernel_rfl
theorem F160_ok : compFn Tryz.prog 160 = some F160 := by kernel_rfl
theorem F161_ok : compFn Tryz.prog 161 = some F161 := by kernel_rfl
theorem F162_ok : compFn Tryz.prog 162 = some F162 := by kernel_rfl
theorem F163_ok : compFn Tryz.prog 163 = some F163 := by kernel_rfl
theorem F164_ok : compFn Tryz.prog 164 = some F164 := by kernel_rfl
theorem F165_ok : compFn Tryz.prog 165 = some F165 := by kernel_rfl
theorem F166_ok : compFn Tryz.prog 166 = some F166 := by kernel_rfl
theorem F167_ok : compFn Tryz.prog 167 = some F167 := by kernel_rfl
theorem F145_ok : compFn Tryz.prog 145 = some F145 := by kernel_rfl
theorem F198_ok : compFn Tryz.prog 198 = some F198 := by kernel_rfl
theorem F221_ok : compFn Tryz.prog 221 = some F221 := by kernel_rfl
theorem F207_ok : compFn Tryz.prog 207 = some F207 := by kernel_rfl
theorem F67_ok : compFn Tryz.prog 67 = some F67 := by kernel_rfl
theorem F125_ok : compFn Tryz.prog 125 = some F125 := by kernel_rfl
theorem F176_ok : compFn Tryz.prog 176 = some F176 := by kernel_rfl
theorem F177_ok : compFn Tryz.prog 177 = some F177 := by kernel_rfl
theorem F178_ok : compFn Tryz.prog 178 = some F178 := by kernel_rfl
theorem F179_ok : compFn Tryz.prog 179 = some F179 := by kernel_rfl
theorem F180_ok : compFn Tryz.prog 180 = some F180 := by kernel_rfl
theorem F181_ok : compFn Tryz.prog 181 = some F181 := by kernel_rfl
theorem F182_ok : compFn Tryz.prog 182 = some F182 := by kernel_rfl
theorem F185_ok : compFn Tryz.prog 185 = some F185 := by kernel_rfl
theorem F209_ok : compFn Tryz.prog 209 = some F209 := by kernel_rfl
end Go.Proofs.YtnondemehfkalaaGreatDoor

set_option maxRecDepth 10000
namespace Go.Proofs.YtnondemehfkalaaGreatDoor
open Go.Sha

def isDig (c : Int) : Bool := decide (48 ≤ c) && decide (c ≤ 57)
def isLet (c : Int) : Bool := decide (97 ≤ c) && decide (c ≤ 122) || decide (65 ≤ c) && decide (c ≤ 90)
def isWrd (c : Int) : Bool := isLet c || isDig c || c == 95
def isPln (c : Int) : Bool := decide (32 ≤ c) && decide (c ≤ 126) && c != 34
def signs : List UInt8 := [43, 45, 47, 46, 44, 64, 58, 61, 37, 40, 41]
def isSgn (c : Int) : Bool := signs.any fun b => (b.toNat : Int) == c

theorem isDigit_v (c : Int) (st : St) : VRet Tryz.prog 165 [.int .u8 c] st (.bool (isDig c)) st := by
  refine VCalls_of F165_ok mixed (Nat.le_of_ble_eq_true rfl) (fun hwf => ?_)
  (repeat' first | ((first | refine go rfl rfl ?_ | (refine Fk.by_ ?_ ?_ <;> intro hc <;> try simp only [hc]) | refine storeK_eq rfl ?_ | with_reducible refine And.intro ?_ ?_ | fail) <;> try simp only [push_cast, reduceIte, Nat.reduceEqDiff, reduceCtorEq, Nat.reduceAdd, Nat.reduceLeDiff, Nat.reduceBEq]))
  all_goals exact finRet0 hwf rfl (by simp [resOne, isDig, hc]) rfl
theorem digit_v (c : Int) (st : St) : VRet Tryz.prog 180 [.int .u8 c] st (.bool (isDig c)) st := by
  refine VCalls_of F180_ok mixed (Nat.le_of_ble_eq_true rfl) (fun hwf => ?_)
  (repeat' first | ((first | refine go rfl rfl ?_ | (refine Fk.by_ ?_ ?_ <;> intro hc <;> try simp only [hc]) | refine storeK_eq rfl ?_ | with_reducible refine And.intro ?_ ?_ | fail) <;> try simp only [push_cast, reduceIte, Nat.reduceEqDiff, reduceCtorEq, Nat.reduceAdd, Nat.reduceLeDiff, Nat.reduceBEq]))
  all_goals exact finRet0 hwf rfl (by simp [resOne, isDig, hc]) rfl
theorem isLetter_v (c : Int) (st : St) : VRet Tryz.prog 160 [.int .u8 c] st (.bool (isLet c)) st := by
  refine VCalls_of F160_ok mixed (Nat.le_of_ble_eq_true rfl) (fun hwf => ?_)
  (repeat' first | ((first | refine go rfl rfl ?_ | (refine Fk.by_ ?_ ?_ <;> intro hc <;> try simp only [hc]) | refine storeK_eq rfl ?_ | with_reducible refine And.intro ?_ ?_ | fail) <;> try simp only [push_cast, reduceIte, Nat.reduceEqDiff, reduceCtorEq, Nat.reduceAdd, Nat.reduceLeDiff, Nat.reduceBEq]))
  all_goals exact finRet0 hwf rfl (by simp [resOne, isLet, *] ) rfl
theorem letter_v (c : Int) (st : St) : VRet Tryz.prog 176 [.int .u8 c] st (.bool (isLet c)) st := by
  refine VCalls_of F176_ok mixed (Nat.le_of_ble_eq_true rfl) (fun hwf => ?_)
  (repeat' first | ((first | refine go rfl rfl ?_ | (refine Fk.by_ ?_ ?_ <;> intro hc <;> try simp only [hc]) | refine storeK_eq rfl ?_ | with_reducible refine And.intro ?_ ?_ | fail) <;> try simp only [push_cast, reduceIte, Nat.reduceEqDiff, reduceCtorEq, Nat.reduceAdd, Nat.reduceLeDiff, Nat.reduceBEq]))
  all_goals exact finRet0 hwf rfl (by simp [resOne, isLet, *] ) rfl
theorem isPlain_v (c : Int) (st : St) : VRet Tryz.prog 163 [.int .u8 c] st (.bool (isPln c)) st := by
  refine VCalls_of F163_ok mixed (Nat.le_of_ble_eq_true rfl) (fun hwf => ?_)
  (repeat' first | ((first | refine go rfl rfl ?_ | (refine Fk.by_ ?_ ?_ <;> intro hc <;> try simp only [hc]) | refine storeK_eq rfl ?_ | with_reducible refine And.intro ?_ ?_ | fail) <;> try simp only [push_cast, reduceIte, Nat.reduceEqDiff, reduceCtorEq, Nat.reduceAdd, Nat.reduceLeDiff, Nat.reduceBEq]))
  all_goals exact finRet0 hwf rfl (by simp [resOne, isPln, *] ) rfl
theorem plain_v (c : Int) (st : St) : VRet Tryz.prog 209 [.int .u8 c] st (.bool (isPln c)) st := by
  refine VCalls_of F209_ok mixed (Nat.le_of_ble_eq_true rfl) (fun hwf => ?_)
  (repeat' first | ((first | refine go rfl rfl ?_ | (refine Fk.by_ ?_ ?_ <;> intro hc <;> try simp only [hc]) | refine storeK_eq rfl ?_ | with_reducible refine And.intro ?_ ?_ | fail) <;> try simp only [push_cast, reduceIte, Nat.reduceEqDiff, reduceCtorEq, Nat.reduceAdd, Nat.reduceLeDiff, Nat.reduceBEq]))
  all_goals exact finRet0 hwf rfl (by simp [resOne, isPln, *] ) rfl
theorem isWord_v (c : Int) (st : St) : VRet Tryz.prog 161 [.int .u8 c] st (.bool (isWrd c)) st := by
  refine VCalls_of F161_ok mixed (Nat.le_of_ble_eq_true rfl) (fun hwf => ?_)
  (repeat' first | ((first | refine go rfl rfl ?_ | refine Cl.by_ (by (first | refine isLetter_v _ _ | refine isDigit_v _ _)) ?_ | (refine Fk.by_ ?_ ?_ <;> intro hc <;> try simp only [hc]) | refine storeK_eq rfl ?_ | with_reducible refine And.intro ?_ ?_ | fail) <;> try simp only [push_cast, reduceIte, Nat.reduceEqDiff, reduceCtorEq, Nat.reduceAdd, Nat.reduceLeDiff, Nat.reduceBEq]))
  all_goals exact finRet0 hwf rfl (by simp [resOne, isWrd, *] ) rfl
theorem blank_v (c : Int) (st : St) : VRet Tryz.prog 157 [.int .u8 c] st (.bool (c == 32)) st := by
  refine VCalls_of F157_ok mixed (Nat.le_of_ble_eq_true rfl) (fun hwf => ?_)
  (repeat' first | ((first | refine go rfl rfl ?_ | (refine Fk.by_ ?_ ?_ <;> intro hc <;> try simp only [hc]) | refine storeK_eq rfl ?_ | with_reducible refine And.intro ?_ ?_ | fail) <;> try simp only [push_cast, reduceIte, Nat.reduceEqDiff, reduceCtorEq, Nat.reduceAdd, Nat.reduceLeDiff, Nat.reduceBEq]))
  all_goals exact finRet0 hwf rfl rfl rfl
theorem quote_v (c : Int) (st : St) : VRet Tryz.prog 164 [.int .u8 c] st (.bool (c == 34)) st := by
  refine VCalls_of F164_ok mixed (Nat.le_of_ble_eq_true rfl) (fun hwf => ?_)
  (repeat' first | ((first | refine go rfl rfl ?_ | (refine Fk.by_ ?_ ?_ <;> intro hc <;> try simp only [hc]) | refine storeK_eq rfl ?_ | with_reducible refine And.intro ?_ ?_ | fail) <;> try simp only [push_cast, reduceIte, Nat.reduceEqDiff, reduceCtorEq, Nat.reduceAdd, Nat.reduceLeDiff, Nat.reduceBEq]))
  all_goals exact finRet0 hwf rfl rfl rfl
theorem dot_v (c : Int) (st : St) : VRet Tryz.prog 166 [.int .u8 c] st (.bool (c == 46)) st := by
  refine VCalls_of F166_ok mixed (Nat.le_of_ble_eq_true rfl) (fun hwf => ?_)
  (repeat' first | ((first | refine go rfl rfl ?_ | (refine Fk.by_ ?_ ?_ <;> intro hc <;> try simp only [hc]) | refine storeK_eq rfl ?_ | with_reducible refine And.intro ?_ ?_ | fail) <;> try simp only [push_cast, reduceIte, Nat.reduceEqDiff, reduceCtorEq, Nat.reduceAdd, Nat.reduceLeDiff, Nat.reduceBEq]))
  all_goals exact finRet0 hwf rfl rfl rfl

theorem sign_v (c : Int) (st : St) : VRet Tryz.prog 182 [.int .u8 c] st (.bool (isSgn c)) st := by
  refine VCalls_of F182_ok mixed (Nat.le_of_ble_eq_true rfl) (fun hwf => ?_)
  (repeat' first | ((first | refine go rfl rfl ?_ | (refine Fk.by_ ?_ ?_ <;> intro hc <;> try simp only [hc]) | refine storeK_eq rfl ?_ | with_reducible refine And.intro ?_ ?_ | fail) <;> try simp only [push_cast, reduceIte, Nat.reduceEqDiff, reduceCtorEq, Nat.reduceAdd, Nat.reduceLeDiff, Nat.reduceBEq]))
  refine WT_loop rfl (fun n e s => ∃ i : Nat, n = 11 - i ∧ i ≤ 11 ∧ (signs.take i).any (fun b => (b.toNat : Int) == c) = false ∧ e = [(3, .int .i64 i), (0, .int .u8 c)] ∧ s = st) st.nx (Nat.le_refl _) (by rintro _ _ _ ⟨i, _, _, _, _, rfl⟩; rfl)
    ⟨11, _, _, ⟨0, rfl, by omega, rfl, rfl, rfl⟩, .cons rfl rfl (.cons rfl rfl .nil), .refl hwf⟩ ?_
  rintro n e s ⟨i, rfl, hi, hno, rfl, rfl⟩
  (repeat' first | ((first | refine go rfl rfl ?_ | (refine Fk.by_ ?_ ?_ <;> intro hc <;> try simp only [hc]) | refine storeK_eq rfl ?_ | with_reducible refine And.intro ?_ ?_ | fail) <;> try simp only [push_cast, reduceIte, Nat.reduceEqDiff, reduceCtorEq, Nat.reduceAdd, Nat.reduceLeDiff, Nat.reduceBEq]))
  · have hi' : i < 11 := by have : (i : Int) < 11 := by simpa using hc
                            omega
    obtain ⟨b, hb⟩ : ∃ b, signs[i]? = some b := ⟨_, List.getElem?_eq_getElem (by simpa [signs] using hi')⟩
    refine afterE_map hb ?_
    simp only [push_cast, reduceIte, Nat.reduceEqDiff, reduceCtorEq, Nat.reduceAdd, Nat.reduceLeDiff, Nat.reduceBEq]
    (repeat' first | ((first | refine go rfl rfl ?_ | (refine Fk.by_ ?_ ?_ <;> intro hc <;> try simp only [hc]) | refine storeK_eq rfl ?_ | with_reducible refine And.intro ?_ ?_ | fail) <;> try simp only [push_cast, reduceIte, Nat.reduceEqDiff, reduceCtorEq, Nat.reduceAdd, Nat.reduceLeDiff, Nat.reduceBEq]))
    · refine finRet0 hwf rfl ?_ rfl
      have : isSgn c = true := List.any_eq_true.2 ⟨b, List.mem_of_getElem? hb, hc⟩
      simp [resOne, this]
    · rw [wrap64 (by omega) (by omega)]
      refine ⟨_, _, _, ?_, ⟨i + 1, rfl, by omega, ?_, rfl, rfl⟩, .cons rfl rfl (.cons rfl rfl .nil), .refl hwf⟩
      · omega
      · rw [List.take_add_one, hb]; simp [hno, hc]
  · have hi' : i = 11 := by have : ¬ ((i : Int) < 11) := by simpa using hc
                            omega
    subst hi'
    refine finRet0 hwf rfl ?_ rfl
    have : isSgn c = false := hno
    simp [resOne, this]
end Go.Proofs.YtnondemehfkalaaGreatDoor

set_option maxRecDepth 10000
namespace Go.Proofs.YtnondemehfkalaaGreatDoor
open Go.Sha

theorem f60 (s : List UInt8) (c : Int) (st : St) : VRet Tryz.prog 200 [.str s, .int .u8 c] st (.int .i64 (Lib.indexByte s c.toNat.toUInt8)) st :=
  indexByteString_v Tryz.func200 (by kernel_rfl) (by kernel_rfl) (by kernel_rfl) (by kernel_rfl) s c st
theorem f57 (s : List UInt8) (c : Int) (st : St) : VRet Tryz.prog 145 [.str s, .int .u8 c] st (.int .i64 (Lib.indexByte s c.toNat.toUInt8)) st := by
  refine VCalls_of F145_ok mixed (Nat.le_of_ble_eq_true rfl) (fun hwf => ?_)
  (repeat' first | ((first | refine go rfl rfl ?_ | refine Cl.by_ (by (first | refine f60 _ _ _)) ?_ | (refine Fk.by_ ?_ ?_ <;> intro hc <;> try simp only [hc]) | refine storeK_eq rfl ?_ | with_reducible refine And.intro ?_ ?_ | fail) <;> try simp only [push_cast, reduceIte, Nat.reduceEqDiff, reduceCtorEq, Nat.reduceAdd, Nat.reduceLeDiff, Nat.reduceBEq]))
  all_goals exact finRet0 hwf rfl rfl rfl
theorem f54 (s : List UInt8) (c : Int) (st : St) : VRet Tryz.prog 198 [.str s, .int .u8 c] st (.int .i64 (Lib.indexByte s c.toNat.toUInt8)) st := by
  refine VCalls_of F198_ok mixed (Nat.le_of_ble_eq_true rfl) (fun hwf => ?_)
  (repeat' first | ((first | refine go rfl rfl ?_ | refine Cl.by_ (by (first | refine f57 _ _ _)) ?_ | (refine Fk.by_ ?_ ?_ <;> intro hc <;> try simp only [hc]) | refine storeK_eq rfl ?_ | with_reducible refine And.intro ?_ ?_ | fail) <;> try simp only [push_cast, reduceIte, Nat.reduceEqDiff, reduceCtorEq, Nat.reduceAdd, Nat.reduceLeDiff, Nat.reduceBEq]))
  all_goals exact finRet0 hwf rfl rfl rfl

theorem indexByte_any (l : List UInt8) (c : UInt8) : decide (0 ≤ Lib.indexByte l c) = l.any fun b => (b.toNat : Int) == (c.toNat : Int) := by
  induction l with
  | nil => rfl
  | cons b l ih =>
    have hb : (b == c) = ((b.toNat : Int) == (c.toNat : Int)) := by
      rw [Bool.eq_iff_iff]
      simp only [beq_iff_eq]
      constructor
      · rintro rfl; rfl
      · intro h; exact UInt8.toNat_inj.1 (by omega)
    have hg := Lib.indexByte_ge l c
    rw [List.any_cons, ← hb, ← ih]
    by_cases h : (b == c) = true
    · simp [Lib.indexByte, h]
    · have h' : (b == c) = false := by simpa using h
      rw [h', Bool.false_or]
      apply decide_eq_decide.2
      have e : Lib.indexByte (b :: l) c = if (b == c) = true then 0 else if (Lib.indexByte l c == -1) = true then -1 else Lib.indexByte l c + 1 := rfl
      rw [e, if_neg h]
      split
      · rename_i h; have : Lib.indexByte l c = -1 := by simpa using h
        omega
      · rename_i h; have : Lib.indexByte l c ≠ -1 := by simpa using h
        omega

theorem isSign_v (b : UInt8) (st : St) : VRet Tryz.prog 167 [.int .u8 b.toNat] st (.bool (isSgn b.toNat)) st := by
  refine VCalls_of F167_ok mixed (Nat.le_of_ble_eq_true rfl) (fun hwf => ?_)
  (repeat' first | ((first | refine go rfl rfl ?_ | refine Cl.by_ (by (first | refine f54 _ _ _)) ?_ | (refine Fk.by_ ?_ ?_ <;> intro hc <;> try simp only [hc]) | refine storeK_eq rfl ?_ | with_reducible refine And.intro ?_ ?_ | fail) <;> try simp only [push_cast, reduceIte, Nat.reduceEqDiff, reduceCtorEq, Nat.reduceAdd, Nat.reduceLeDiff, Nat.reduceBEq]))
  refine finRet0 hwf rfl ?_ rfl
  have : ((b.toNat : Int).toNat).toUInt8 = b := by simp
  simp only [resOne, isSgn, ← indexByte_any, this]
  rfl
end Go.Proofs.YtnondemehfkalaaGreatDoor

set_option maxRecDepth 10000
namespace Go.Proofs.YtnondemehfkalaaGreatDoor
open Go.Sha

def atIs (ok : UInt8 → Bool) (s : List UInt8) (i : Nat) : Bool := match s[i]? with
  | some b => ok b
  | none => false

theorem is_v {k : FuncId} {ok : UInt8 → Bool} (hk : ∀ (b : UInt8) (st : St), VRet Tryz.prog k [.int .u8 b.toNat] st (.bool (ok b)) st) {st : St} {id : Nat} {s : List UInt8} {i n : Nat}
    (hm : Sha.look st.mem id = some [.str s, .int .i64 (i : Int)]) (hn : i + n < 4611686018427387904) :
    VRet Tryz.prog 159 [.ptr id 0, .int .i64 (n : Int), .fn (.func k) [] []] st (.bool (atIs ok s (i + n))) st := by
  refine VCalls_of F159_ok mixed (Nat.le_of_ble_eq_true rfl) (fun hwf => ?_)
  have hw : IntKind.i64.wrap ((i : Int) + (n : Int)) = (i : Int) + (n : Int) := wrap64 (by omega) (by omega)
  cases hb : s[i + n]? with
  | none =>
    have hlt : decide ((i : Int) + (n : Int) < (s.length : Int)) = false := by
      have := List.getElem?_eq_none_iff.1 hb
      simp; omega
    (repeat' first | ((first | refine go rfl rfl ?_ | (refine Fk.by_ ?_ ?_ <;> intro hc <;> try simp only [hc]) | refine storeK_eq rfl ?_ | with_reducible refine And.intro ?_ ?_ | fail) <;> try simp only [hm, hw, hlt, push_cast, reduceIte, Nat.reduceEqDiff, reduceCtorEq, Nat.reduceAdd, Nat.reduceLeDiff, Nat.reduceBEq]))
    exact finRet0 hwf rfl (by simp [resOne, atIs, hb]) rfl
  | some b =>
    have hlt : decide ((i : Int) + (n : Int) < (s.length : Int)) = true := by
      have := (List.getElem?_eq_some_iff.1 hb).1
      simp; omega
    (repeat' first | ((first | refine go rfl rfl ?_ | refine Cl.by_ (by (first | refine hk _ _)) ?_ | (refine Fk.by_ ?_ ?_ <;> intro hc <;> try simp only [hc]) | refine storeK_eq rfl ?_ | with_reducible refine And.intro ?_ ?_ | fail) <;> try simp only [hm, hw, hlt, hb, push_cast, reduceIte, Nat.reduceEqDiff, reduceCtorEq, Nat.reduceAdd, Nat.reduceLeDiff, Nat.reduceBEq]))
    exact finRet0 hwf rfl (by simp [resOne, atIs, hb]) rfl

/-- The place behind all bytes of a class from a place on. -/
def runTo (ok : UInt8 → Bool) (s : List UInt8) (i : Nat) : Nat := i + ((s.drop i).takeWhile ok).length

theorem runTo_stop {ok : UInt8 → Bool} {s : List UInt8} {i : Nat} (h : atIs ok s i = false) : runTo ok s i = i := by
  unfold runTo
  unfold atIs at h
  cases hb : s[i]? with
  | none => rw [List.drop_eq_nil_of_le (List.getElem?_eq_none_iff.1 hb)]; rfl
  | some b =>
    rw [hb] at h
    obtain ⟨hlt, e⟩ := List.getElem?_eq_some_iff.1 hb
    rw [List.drop_eq_getElem_cons hlt, e, List.takeWhile_cons, if_neg (by simpa using h)]; rfl

theorem runTo_go {ok : UInt8 → Bool} {s : List UInt8} {i : Nat} (h : atIs ok s i = true) : runTo ok s (i + 1) = runTo ok s i ∧ i < s.length := by
  unfold runTo
  unfold atIs at h
  cases hb : s[i]? with
  | none => rw [hb] at h; cases h
  | some b =>
    rw [hb] at h
    obtain ⟨hlt, e⟩ := List.getElem?_eq_some_iff.1 hb
    refine ⟨?_, hlt⟩
    rw [List.drop_eq_getElem_cons hlt, e, List.takeWhile_cons, if_pos (by simpa using h), List.length_cons]; omega

theorem runTo_le {ok : UInt8 → Bool} {s : List UInt8} {i : Nat} (h : i ≤ s.length) : runTo ok s i ≤ s.length := by
  unfold runTo
  have := (List.takeWhile_sublist ok (l := s.drop i)).length_le
  rw [List.length_drop] at this; omega

theorem skip_v {k : FuncId} {ok : UInt8 → Bool} (hk : ∀ (b : UInt8) (st : St), VRet Tryz.prog k [.int .u8 b.toNat] st (.bool (ok b)) st) {st : St} {id : Nat} {s : List UInt8} {i : Nat}
    (hm : Sha.look st.mem id = some [.str s, .int .i64 (i : Int)]) (hi : i ≤ s.length) (hs : s.length < 2305843009213693952) :
    VRet Tryz.prog 156 [.ptr id 0, .fn (.func k) [] []] st (.tup []) (st.put id [.str s, .int .i64 (runTo ok s i : Nat)]) := by
  refine VCalls_of F156_ok mixed (Nat.le_of_ble_eq_true rfl) (fun hwf => ?_)
  have hid := (hwf.mem _ _ hm).1
  (repeat' first | ((first | refine go rfl rfl ?_ | (refine Fk.by_ ?_ ?_ <;> intro hc <;> try simp only [hc]) | refine storeK_eq rfl ?_ | with_reducible refine And.intro ?_ ?_ | fail) <;> try simp only [push_cast, reduceIte, Nat.reduceEqDiff, reduceCtorEq, Nat.reduceAdd, Nat.reduceLeDiff, Nat.reduceBEq]))
  refine WT_loop rfl (fun n e z => ∃ j : Nat, n = s.length - j ∧ j ≤ s.length ∧ runTo ok s j = runTo ok s i ∧ e = [(0, .ptr id 0), (1, .fn (.func k) [] [])] ∧ z = st.put id [.str s, .int .i64 (j : Int)]) st.nx (Nat.le_refl _) (by rintro _ _ _ ⟨j, _, _, _, _, rfl⟩; rfl)
    ⟨_, _, _, ⟨i, rfl, hi, rfl, rfl, rfl⟩, .cons (by simpa [V.bd] using hid) rfl (.cons rfl rfl .nil), by rw [put_self hm]; exact .refl hwf⟩ ?_
  rintro n e z ⟨j, rfl, hj, hr, rfl, rfl⟩
  have hm' : Sha.look (updM st.mem id [.str s, .int .i64 (j : Int)]) id = some [.str s, .int .i64 (j : Int)] := look_upd hm
  have hw : j < s.length → IntKind.i64.wrap ((j : Int) + 1) = (j : Int) + 1 := fun h => wrap64 (by omega) (by omega)
  (repeat' first | ((first | refine go rfl rfl ?_ | refine Cl.by_ (by (first | refine is_v (n := 0) hk hm' (by omega))) ?_ | (refine Fk.by_ ?_ ?_ <;> intro hc <;> try simp only [hc]) | refine storeK_eq rfl ?_ | with_reducible refine And.intro ?_ ?_ | fail) <;> try simp only [hm', push_cast, reduceIte, Nat.reduceEqDiff, reduceCtorEq, Nat.reduceAdd, Nat.reduceLeDiff, Nat.reduceBEq]))
  · obtain ⟨g1, g2⟩ := runTo_go hc
    rw [hw g2]
    exact ⟨_, _, _, by omega, ⟨j + 1, rfl, by omega, by rw [g1, hr], rfl, rfl⟩, .cons (by simpa [V.bd] using hid) rfl (.cons rfl rfl .nil), .refl (hwf.put rfl)⟩
  · refine (finAt (vs := []) (r := .tup []) (hwf.put rfl) (Nat.le_refl _) ?_ rfl rfl rfl).1
    rw [← hr, runTo_stop hc]; rfl
end Go.Proofs.YtnondemehfkalaaGreatDoor

set_option maxRecDepth 10000
namespace Go.Proofs.YtnondemehfkalaaGreatDoor
open Go.Sha

/-- A token. -/
structure Tok where
  k : Int
  t : List UInt8
  a : Int
  deriving DecidableEq

def tkV (x : Tok) : V := .agg [.int .i64 x.k, .str x.t, .int .i64 x.a]
theorem cells_tkV {x : Tok} : (tkV x).cells = [.int .i64 x.k, .str x.t, .int .i64 x.a] := @_root_.id (_ = _) rfl
theorem bdL_tk {n : Nat} {l : List Tok} : V.bdL n (l.map tkV) = true := bdL_map fun _ _ => rfl
theorem all_tk {l : List Tok} : (l.map tkV).all (fun x => x.cells.length == 3) = true := by simp [tkV, V.cells]

def tokV (k : Int) (t : List UInt8) (a : Nat) : V := .agg [.int .i64 k, .str t, .int .i64 (a : Int)]
theorem app_tk {l : List Tok} {k : Int} {t : List UInt8} {a : Int} : l.map tkV ++ [.agg [.int .i64 k, .str t, .int .i64 a]] = (l ++ [Tok.mk k t a]).map tkV := by simp [tkV]

theorem made_v {st : St} {p q id : Nat} {s : List UInt8} {a i : Nat} (k : Int) (hp : Sha.look st.mem p = some [.ptr id 0]) (hq : Sha.look st.mem q = some [.int .i64 (a : Int)]) (hm : Sha.look st.mem id = some [.str s, .int .i64 (i : Int)]) (ha : a ≤ i) (hi : i ≤ s.length) :
    VRet Tryz.prog 158 [.int .i64 k, .ptr p 0, .ptr q 0] st (.tup [tokV k ((s.take i).drop a) a, .bool true]) st := by
  refine VCalls_of F158_ok mixed (Nat.le_of_ble_eq_true rfl) (fun hwf => ?_)
  have hp' := (hwf.mem _ _ hp).1
  have hq' := (hwf.mem _ _ hq).1
  have hm' := (hwf.mem _ _ hm).1
  have e1 : (st.nx = p) = False := eq_false (by omega)
  have e2 : (st.nx = q) = False := eq_false (by omega)
  have e3 : (st.nx = id) = False := eq_false (by omega)
  (repeat' first | ((first | refine go rfl rfl ?_ | (refine Fk.by_ ?_ ?_ <;> intro hc <;> try simp only [hc]) | refine storeK_eq rfl ?_ | with_reducible refine And.intro ?_ ?_ | fail) <;> try simp only [hp, hq, hm, e1, e2, e3, ha, hi, push_cast, reduceIte, Nat.reduceEqDiff, reduceCtorEq, Nat.reduceAdd, Nat.reduceLeDiff, Nat.reduceBEq]))
  refine finB (hwf) (by simp only [F158, push_cast, reduceIte, Nat.reduceEqDiff, reduceCtorEq, Nat.reduceAdd, Nat.reduceLeDiff, Nat.reduceBEq]; exact rfl) (by first | exact .inl rfl | (right; simp only [F158, push_cast, reduceIte, Nat.reduceEqDiff, reduceCtorEq, Nat.reduceAdd, Nat.reduceLeDiff, Nat.reduceBEq]; try rfl)) (by first | rfl | assumption) (by simp) (by simp) (by (repeat first | exact (hwf).subm | exact (hwf).suba | refine Sub.drop (by simp) ?_)) (by (repeat first | exact (hwf).subm | exact (hwf).suba | refine Sub.drop (by simp) ?_)) (by (repeat first | exact (hwf).subx | refine ExSub.dropt (by simp) ?_ | refine ExSub.drop (by simp) ?_))

def lowB (b : UInt8) : UInt8 := if 65 ≤ b.toNat ∧ b.toNat ≤ 90 then b + 32 else b
def lowN (s : List UInt8) (j : Nat) : List UInt8 := (s.take j).map lowB ++ s.drop j
theorem lowN_length {s : List UInt8} {j : Nat} : (lowN s j).length = s.length := by simp [lowN]; omega
theorem lowN_get {s : List UInt8} {j : Nat} (h : j < s.length) : (lowN s j)[j]? = s[j]? := by
  unfold lowN
  have e : ((s.take j).map lowB).length = j := by simp; omega
  rw [List.getElem?_append_right (by omega), e]
  simp
theorem lowN_set {s : List UInt8} {j : Nat} {b : UInt8} (h : s[j]? = some b) : lowN s (j + 1) = (lowN s j).set j (lowB b) := by
  obtain ⟨hlt, e⟩ := List.getElem?_eq_some_iff.1 h
  unfold lowN
  have e1 : ((s.take j).map lowB).length = j := by simp; omega
  rw [List.take_add_one, h, List.set_append_right _ _ (by omega), e1, List.drop_eq_getElem_cons hlt]
  simp only [Option.toList_some, List.map_append, List.map_cons, List.map_nil, Nat.sub_self, List.set_cons_zero, List.append_assoc, List.singleton_append]
theorem set_self {α : Type} {l : List α} {i : Nat} {a : α} (h : l[i]? = some a) : l.set i a = l := by
  obtain ⟨hl, rfl⟩ := List.getElem?_eq_some_iff.1 h
  exact List.set_getElem_self hl
theorem lowN_zero {s : List UInt8} : lowN s 0 = s := by simp [lowN]
theorem lowN_all {s : List UInt8} : lowN s s.length = s.map lowB := by simp [lowN]
theorem lowB_up {b : UInt8} (h1 : 65 ≤ b.toNat) (h2 : b.toNat ≤ 90) : bV (lowB b) = .int .u8 (IntKind.u8.wrap (IntKind.u8.wrap ((b.toNat : Int) + 97) - 65)) := by
  have e : lowB b = b + 32 := if_pos ⟨h1, h2⟩
  rw [e, bV]
  congr 1
  simp only [IntKind.wrap, IntKind.bits, IntKind.signed, UInt8.toNat_add]
  simp
  omega
theorem lowB_no {b : UInt8} (h : ¬ (65 ≤ b.toNat ∧ b.toNat ≤ 90)) : lowB b = b := if_neg h

theorem lower_v (s : List UInt8) (st : St) (hs : s.length ≤ 140737488355328) : VRet Tryz.prog 162 [.str s] st (.str (s.map lowB)) st := by
  refine VCalls_of F162_ok mixed (Nat.le_of_ble_eq_true rfl) (fun hwf => ?_)
  have hml : (s.length ≤ maxLen) = True := eq_true (by unfold maxLen; omega)
  (repeat' first | ((first | refine go rfl rfl ?_ | (refine Fk.by_ ?_ ?_ <;> intro hc <;> try simp only [hc]) | refine storeK_eq rfl ?_ | with_reducible refine And.intro ?_ ?_ | fail) <;> try simp only [hml, push_cast, reduceIte, Nat.reduceEqDiff, reduceCtorEq, Nat.reduceAdd, Nat.reduceLeDiff, Nat.reduceBEq]))
  refine WT_loop rfl (fun n e z => ∃ j : Nat, n = s.length - j ∧ j ≤ s.length ∧ e = [(10, .int .i64 (j : Int)), (9, .int .i64 (s.length : Int)), (8, .osl st.nx s.length), (3, .osl st.nx s.length)] ∧
      z = ⟨st.nx + 1, st.mem, (st.nx, ⟨5, 1, (lowN s j).map bV, true, true⟩) :: st.arr, st.x⟩) (st.nx + 1) (Nat.le_refl _) (by rintro _ _ _ ⟨j, _, _, _, rfl⟩; rfl)
    ⟨_, _, _, ⟨0, rfl, Nat.zero_le _, rfl, rfl⟩, ?_, ?_⟩ ?_
  · simp only [Int.ofNat_zero]
    refine .cons rfl rfl (.cons rfl rfl (.cons ?_ rfl (.cons ?_ rfl .nil))) <;> simp [V.bd]
  · rw [lowN_zero]; exact .refl (hwf.newA bdL_bV)
  rintro n e z ⟨j, rfl, hj, rfl, rfl⟩
  have hw : j < s.length → IntKind.i64.wrap ((j : Int) + 1) = (j : Int) + 1 := fun h => wrap64 (by omega) (by omega)
  rcases Nat.lt_or_ge j s.length with hlt | hge
  · obtain ⟨b, hb⟩ : ∃ b, s[j]? = some b := ⟨_, List.getElem?_eq_getElem hlt⟩
    have h1 : decide ((j : Int) < (s.length : Int)) = true := by simp; omega
    have hg : (lowN s j)[j]? = some b := by rw [lowN_get hlt, hb]
    (repeat' first | ((first | refine go rfl rfl ?_ | (refine Fk.by_ ?_ ?_ <;> intro hc <;> try simp only [hc]) | refine storeK_eq rfl ?_ | with_reducible refine And.intro ?_ ?_ | fail) <;> try simp only [h1, hg, hlt, hw hlt, lowN_length, push_cast, reduceIte, Nat.reduceEqDiff, reduceCtorEq, Nat.reduceAdd, Nat.reduceLeDiff, Nat.reduceBEq]))
    case refine_1.refine_1 hc1 =>
      have e : (List.map bV (lowN s j)).set j (.int .u8 (IntKind.u8.wrap (IntKind.u8.wrap ((b.toNat : Int) + 97) - 65))) = (lowN s (j + 1)).map bV := by
        rw [lowN_set hb, List.map_set, lowB_up (by have := of_decide_eq_true hc1; omega) (by have := of_decide_eq_true hc; omega)]
      rw [e]
      exact ⟨_, _, _, by omega, ⟨j + 1, rfl, by omega, rfl, rfl⟩, (by repeat first | exact .nil | refine .cons (by first | rfl | (simp [V.bd, V.bdL]; try first | omega | assumption)) (by first | rfl | simp only [push_cast, reduceIte, Nat.reduceEqDiff, reduceCtorEq, Nat.reduceAdd, Nat.reduceLeDiff, Nat.reduceBEq]) ?_), .refl (hwf.newA bdL_bV)⟩
    all_goals
      have e : (List.map bV (lowN s j)) = (lowN s (j + 1)).map bV := by
        rw [lowN_set hb, lowB_no (by have := of_decide_eq_false ‹_›; omega)]
        congr 1
        exact (set_self hg).symm
      rw [e]
      exact ⟨_, _, _, by omega, ⟨j + 1, rfl, by omega, rfl, rfl⟩, (by repeat first | exact .nil | refine .cons (by first | rfl | (simp [V.bd, V.bdL]; try first | omega | assumption)) (by first | rfl | simp only [push_cast, reduceIte, Nat.reduceEqDiff, reduceCtorEq, Nat.reduceAdd, Nat.reduceLeDiff, Nat.reduceBEq]) ?_), .refl (hwf.newA bdL_bV)⟩
  · have h1 : decide ((j : Int) < (s.length : Int)) = false := by simp; omega
    have hj' : j = s.length := by omega
    subst hj'
    rw [lowN_all]
    (repeat' first | ((first | refine go rfl rfl ?_ | (refine Fk.by_ ?_ ?_ <;> intro hc <;> try simp only [hc]) | refine storeK_eq rfl ?_ | with_reducible refine And.intro ?_ ?_ | fail) <;> try simp only [h1, push_cast, reduceIte, Nat.reduceEqDiff, reduceCtorEq, Nat.reduceAdd, Nat.reduceLeDiff, Nat.reduceBEq]))
    refine finB (hwf) (by simp only [F162, push_cast, reduceIte, Nat.reduceEqDiff, reduceCtorEq, Nat.reduceAdd, Nat.reduceLeDiff, Nat.reduceBEq]; exact rfl) (by first | exact .inl rfl | (right; simp only [F162, push_cast, reduceIte, Nat.reduceEqDiff, reduceCtorEq, Nat.reduceAdd, Nat.reduceLeDiff, Nat.reduceBEq]; try rfl)) (by first | rfl | assumption) (by simp) (by simp) (by (repeat first | exact (hwf).subm | exact (hwf).suba | refine Sub.drop (by simp) ?_)) (by (repeat first | exact (hwf).subm | exact (hwf).suba | refine Sub.drop (by simp) ?_)) (by (repeat first | exact (hwf).subx | refine ExSub.dropt (by simp) ?_ | refine ExSub.drop (by simp) ?_))
end Go.Proofs.YtnondemehfkalaaGreatDoor

set_option maxRecDepth 10000
namespace Go.Proofs.YtnondemehfkalaaGreatDoor
open Go.Sha

def letB (b : UInt8) : Bool := isLet b.toNat
def digB (b : UInt8) : Bool := isDig b.toNat
def wrdB (b : UInt8) : Bool := isWrd b.toNat
def plnB (b : UInt8) : Bool := isPln b.toNat
def sgnB (b : UInt8) : Bool := isSgn b.toNat
def isB (n : Int) (b : UInt8) : Bool := (b.toNat : Int) == n
theorem c42 (b : UInt8) (st : St) : VRet Tryz.prog 160 [.int .u8 b.toNat] st (.bool (letB b)) st := isLetter_v _ _
theorem c43 (b : UInt8) (st : St) : VRet Tryz.prog 161 [.int .u8 b.toNat] st (.bool (wrdB b)) st := isWord_v _ _
theorem c46 (b : UInt8) (st : St) : VRet Tryz.prog 165 [.int .u8 b.toNat] st (.bool (digB b)) st := isDigit_v _ _
theorem c27 (b : UInt8) (st : St) : VRet Tryz.prog 163 [.int .u8 b.toNat] st (.bool (plnB b)) st := isPlain_v _ _
theorem c48 (b : UInt8) (st : St) : VRet Tryz.prog 167 [.int .u8 b.toNat] st (.bool (sgnB b)) st := isSign_v _ _
theorem c39 (b : UInt8) (st : St) : VRet Tryz.prog 157 [.int .u8 b.toNat] st (.bool (isB 32 b)) st := blank_v _ _
theorem c45 (b : UInt8) (st : St) : VRet Tryz.prog 164 [.int .u8 b.toNat] st (.bool (isB 34 b)) st := quote_v _ _
theorem c47 (b : UInt8) (st : St) : VRet Tryz.prog 166 [.int .u8 b.toNat] st (.bool (isB 46 b)) st := dot_v _ _

theorem le_runTo {ok : UInt8 → Bool} {s : List UInt8} {i : Nat} : i ≤ runTo ok s i := Nat.le_add_right _ _
theorem atIs_lt {ok : UInt8 → Bool} {s : List UInt8} {i : Nat} (h : atIs ok s i = true) : i < s.length := by
  unfold atIs at h
  cases e : s[i]? with
  | none => rw [e] at h; cases h
  | some b => exact (List.getElem?_eq_some_iff.1 e).1

/-- The token that begins at a: its kind, its text, its end. -/
def lexAt (s : List UInt8) (a : Nat) : Option (Int × List UInt8 × Nat) :=
  if a = s.length then some (3, [], a)
  else if atIs letB s a then some (0, ((s.take (runTo wrdB s a)).drop a).map lowB, runTo wrdB s a)
  else if atIs (isB 34) s a then
    if atIs (isB 34) s (runTo plnB s (a + 1)) then some (0, (s.take (runTo plnB s (a + 1) + 1)).drop a, runTo plnB s (a + 1) + 1) else none
  else if atIs digB s a then
    if atIs (isB 46) s (runTo digB s a) && atIs digB s (runTo digB s a + 1) then some (1, (s.take (runTo digB s (runTo digB s a + 1))).drop a, runTo digB s (runTo digB s a + 1))
    else some (1, (s.take (runTo digB s a)).drop a, runTo digB s a)
  else if atIs sgnB s a then some (2, (s.take (a + 1)).drop a, a + 1)
  else none

def tokR (s : List UInt8) (i : Nat) : V × Nat := match lexAt s (runTo (isB 32) s i) with
  | some (k, t, e) => (.tup [tokV k t (runTo (isB 32) s i), .bool true], e)
  | none => (.tup [tokV 0 [] 0, .bool false], runTo (isB 32) s i)

theorem cells_tokV {k : Int} {t : List UInt8} {a : Nat} : (tokV k t a).cells = [.int .i64 k, .str t, .int .i64 (a : Int)] := @_root_.id (_ = _) rfl

theorem token_v {st : St} {id : Nat} {s : List UInt8} {i : Nat} (hm : Sha.look st.mem id = some [.str s, .int .i64 (i : Int)]) (hi : i ≤ s.length) (hs : s.length < 140737488355328) :
    VRet Tryz.prog 107 [.ptr id 0] st (tokR s i).1 (st.put id [.str s, .int .i64 (((tokR s i).2 : Nat) : Int)]) := by
  refine VCalls_of F107_ok mixed (Nat.le_of_ble_eq_true rfl) (fun hwf => ?_)
  have hid := (hwf.mem _ _ hm).1
  have e3 : ∀ n, (st.nx + n = id) = False := fun n => eq_false (by omega)
  have e4 : (st.nx = id) = False := eq_false (by omega)
  obtain ⟨R, hR⟩ : ∃ R, tokR s i = R := ⟨_, rfl⟩
  rw [hR]
  obtain ⟨a, ha⟩ : ∃ a, runTo (isB 32) s i = a := ⟨_, rfl⟩
  have hal : a ≤ s.length := by rw [← ha]; exact runTo_le hi
  have hN : lexAt s a = none → R = (.tup [tokV 0 [] 0, .bool false], a) := fun h => by rw [← hR, tokR, ha, h]
  have hS : ∀ k t e, lexAt s a = some (k, t, e) → R = (.tup [tokV k t a, .bool true], e) := fun k t e h => by rw [← hR, tokR, ha, h]
  unfold lexAt at hN hS
  obtain ⟨a1, ha1⟩ : ∃ a1, a + 1 = a1 := ⟨_, rfl⟩
  obtain ⟨b, hb⟩ : ∃ b, runTo wrdB s a = b := ⟨_, rfl⟩
  have hbl : b ≤ s.length := by rw [← hb]; exact runTo_le hal
  have hab : a ≤ b := by rw [← hb]; exact le_runTo
  obtain ⟨q, hq⟩ : ∃ q, runTo plnB s a1 = q := ⟨_, rfl⟩
  obtain ⟨q1, hq1⟩ : ∃ q1, q + 1 = q1 := ⟨_, rfl⟩
  have haq : a1 ≤ q := by rw [← hq]; exact le_runTo
  obtain ⟨d, hd⟩ : ∃ d, runTo digB s a = d := ⟨_, rfl⟩
  obtain ⟨d1, hd1⟩ : ∃ d1, d + 1 = d1 := ⟨_, rfl⟩
  have hdl : d ≤ s.length := by rw [← hd]; exact runTo_le hal
  have had : a ≤ d := by rw [← hd]; exact le_runTo
  obtain ⟨c, hdc⟩ : ∃ c, runTo digB s d1 = c := ⟨_, rfl⟩
  have hdc1 : d1 ≤ c := by rw [← hdc]; exact le_runTo
  rw [hb, ha1, hq, hq1, hd, hd1, hdc] at hN hS
  have hlk : ∀ n : Int, Sha.look (updM st.mem id [.str s, .int .i64 n]) id = some [.str s, .int .i64 n] := fun n => look_upd hm
  rcases Nat.lt_or_ge a s.length with hlt | hge
  · obtain ⟨x, hx⟩ : ∃ x, s[a]? = some x := ⟨_, List.getElem?_eq_getElem hlt⟩
    rw [if_neg (by omega)] at hN hS
    have h0 : ((a : Int) == (s.length : Int)) = false := by simp; omega
    have hql : q ≤ s.length := by rw [← hq]; exact runTo_le (by omega)
    have hdc2 : d < s.length → c ≤ s.length := fun h => by rw [← hdc]; exact runTo_le (by omega)
    have hw1 : IntKind.i64.wrap ((a : Int) + 1) = (a1 : Int) := by rw [wrap64 (by omega) (by omega)]; omega
    have hw2 : IntKind.i64.wrap ((q : Int) + 1) = (q1 : Int) := by rw [wrap64 (by omega) (by omega)]; omega
    have hw3 : IntKind.i64.wrap ((d : Int) + 1) = (d1 : Int) := by rw [wrap64 (by omega) (by omega)]; omega
    have hll : ∀ x y, ((s.take x).drop y).length ≤ 140737488355328 := fun x y => by simp only [List.length_drop, List.length_take]; omega
    have hx2 : ((x.toNat : Int) == 34) = atIs (isB 34) s a := by simp [atIs, hx, isB]
    (repeat' first | ((first | refine go rfl rfl ?_ | refine Cl.by_ (by (first | apply skip_v c39 | apply is_v (n := 0) c42 | apply is_v (n := 0) c45 | apply is_v (n := 0) c46 | apply is_v (n := 0) c47 | apply is_v (n := 0) c48 | apply is_v (n := 1) c46 | apply skip_v c43 | apply skip_v c27 | apply skip_v c46 | apply made_v _ | refine lower_v _ _ (hll _ _)) <;> first | omega | (have h9 := atIs_lt hc; omega) | (simp only [cells_tokV, hm, ha, hb, hq, hd, hd1, hdc, e3, e4, hlk, h0, hx, hw1, hw2, hw3, hx2, push_cast, reduceIte, Nat.reduceEqDiff, reduceCtorEq, Nat.reduceAdd, Nat.reduceLeDiff, Nat.reduceBEq]; done) | (simp only [cells_tokV, hm, ha, hb, hq, hd, hd1, hdc, e3, e4, hlk, h0, hx, hw1, hw2, hw3, hx2, push_cast, reduceIte, Nat.reduceEqDiff, reduceCtorEq, Nat.reduceAdd, Nat.reduceLeDiff, Nat.reduceBEq]; exact rfl) | fail) ?_ | (refine Fk.by_ ?_ ?_ <;> intro hc <;> try simp only [hc]) | refine storeK_eq rfl ?_ | with_reducible refine And.intro ?_ ?_ | fail) <;> try simp only [cells_tokV, hm, ha, hb, hq, hd, hd1, hdc, e3, e4, hlk, h0, hx, hw1, hw2, hw3, hx2, push_cast, reduceIte, Nat.reduceEqDiff, reduceCtorEq, Nat.reduceAdd, Nat.reduceLeDiff, Nat.reduceBEq]))
    all_goals
      simp [*, -List.map_take, -List.map_drop] at hS hN
      try rw [hS]
      try rw [hN]
      refine finB ((hwf.put rfl)) (by simp only [F107, cells_tokV, e3, e4, hlk, push_cast, reduceIte, Nat.reduceEqDiff, reduceCtorEq, Nat.reduceAdd, Nat.reduceLeDiff, Nat.reduceBEq]; exact rfl) (by first | exact .inl rfl | (right; simp only [F107, cells_tokV, e3, e4, hlk, push_cast, reduceIte, Nat.reduceEqDiff, reduceCtorEq, Nat.reduceAdd, Nat.reduceLeDiff, Nat.reduceBEq]; try rfl)) (by first | rfl | assumption) (by simp) (by simp) (by (repeat first | exact ((hwf.put rfl)).subm | exact ((hwf.put rfl)).suba | refine Sub.drop (by simp) ?_)) (by (repeat first | exact ((hwf.put rfl)).subm | exact ((hwf.put rfl)).suba | refine Sub.drop (by simp) ?_)) (by (repeat first | exact ((hwf.put rfl)).subx | refine ExSub.dropt (by simp) ?_ | refine ExSub.drop (by simp) ?_))
  · have hae : a = s.length := by omega
    have h0 : ((a : Int) == (s.length : Int)) = true := by simp [hae]
    have hR2 : R = (.tup [tokV 3 [] a, .bool true], a) := hS _ _ _ (if_pos hae)
    rw [hR2]
    have hem : (s.take a).drop a = [] := List.drop_eq_nil_of_le (by simp; omega)
    (repeat' first | ((first | refine go rfl rfl ?_ | refine Cl.by_ (by (first | apply skip_v c39 | apply made_v _) <;> first | omega | (simp only [cells_tokV, hm, ha, e3, e4, hlk, h0, hem, push_cast, reduceIte, Nat.reduceEqDiff, reduceCtorEq, Nat.reduceAdd, Nat.reduceLeDiff, Nat.reduceBEq]; done) | (simp only [cells_tokV, hm, ha, e3, e4, hlk, h0, hem, push_cast, reduceIte, Nat.reduceEqDiff, reduceCtorEq, Nat.reduceAdd, Nat.reduceLeDiff, Nat.reduceBEq]; exact rfl) | fail) ?_ | (refine Fk.by_ ?_ ?_ <;> intro hc <;> try simp only [hc]) | refine storeK_eq rfl ?_ | with_reducible refine And.intro ?_ ?_ | fail) <;> try simp only [cells_tokV, hm, ha, e3, e4, hlk, h0, hem, push_cast, reduceIte, Nat.reduceEqDiff, reduceCtorEq, Nat.reduceAdd, Nat.reduceLeDiff, Nat.reduceBEq]))
    refine finB ((hwf.put rfl)) (by simp only [F107, cells_tokV, e3, e4, hlk, push_cast, reduceIte, Nat.reduceEqDiff, reduceCtorEq, Nat.reduceAdd, Nat.reduceLeDiff, Nat.reduceBEq]; exact rfl) (by first | exact .inl rfl | (right; simp only [F107, cells_tokV, e3, e4, hlk, push_cast, reduceIte, Nat.reduceEqDiff, reduceCtorEq, Nat.reduceAdd, Nat.reduceLeDiff, Nat.reduceBEq]; try rfl)) (by first | rfl | assumption) (by simp) (by simp) (by (repeat first | exact ((hwf.put rfl)).subm | exact ((hwf.put rfl)).suba | refine Sub.drop (by simp) ?_)) (by (repeat first | exact ((hwf.put rfl)).subm | exact ((hwf.put rfl)).suba | refine Sub.drop (by simp) ?_)) (by (repeat first | exact ((hwf.put rfl)).subx | refine ExSub.dropt (by simp) ?_ | refine ExSub.drop (by simp) ?_))
end Go.Proofs.YtnondemehfkalaaGreatDoor

set_option maxRecDepth 10000
namespace Go.Proofs.YtnondemehfkalaaGreatDoor
open Go.Sha

theorem runTo_bd {ok : UInt8 → Bool} {s : List UInt8} {i : Nat} (h : i ≤ s.length) : i ≤ runTo ok s i ∧ runTo ok s i ≤ s.length := ⟨le_runTo, runTo_le h⟩
theorem runTo_lt {ok : UInt8 → Bool} {s : List UInt8} {i : Nat} (h : atIs ok s i = true) : i < runTo ok s i := by
  have := (runTo_go h).1
  have := le_runTo (ok := ok) (s := s) (i := i + 1)
  omega
theorem letB_wrdB {s : List UInt8} {i : Nat} (h : atIs letB s i = true) : atIs wrdB s i = true := by
  unfold atIs at h ⊢
  cases hb : s[i]? with
  | none => rw [hb] at h; exact h
  | some b =>
    rw [hb] at h
    simp only [letB, wrdB, isWrd] at h ⊢
    rw [h]; rfl

theorem lexAt_bd {s : List UInt8} {a : Nat} (ha : a ≤ s.length) {k : Int} {t : List UInt8} {e : Nat} (h : lexAt s a = some (k, t, e)) : a ≤ e ∧ e ≤ s.length ∧ (k ≠ 3 → a < e) := by
  unfold lexAt at h
  split at h
  · cases h; exact ⟨Nat.le_refl _, ha, fun h => absurd rfl h⟩
  · split at h
    · rename_i h1 h2
      cases h
      have := runTo_bd (ok := wrdB) ha
      exact ⟨this.1, this.2, fun _ => runTo_lt (letB_wrdB h2)⟩
    · split at h
      · rename_i h1 h2 h3
        have hl := atIs_lt h3
        have := runTo_bd (ok := plnB) (s := s) (i := a + 1) (by omega)
        split at h
        · rename_i h4
          have := atIs_lt h4
          cases h
          exact ⟨by omega, by omega, fun _ => by omega⟩
        · cases h
      · split at h
        · rename_i h1 h2 h3 h4
          have := runTo_bd (ok := digB) ha
          have := runTo_lt h4
          split at h
          · rename_i h5
            simp only [Bool.and_eq_true] at h5
            have h6 := atIs_lt h5.2
            have := runTo_bd (ok := digB) (s := s) (i := runTo digB s a + 1) (by omega)
            cases h
            exact ⟨by omega, by omega, fun _ => by omega⟩
          · cases h
            exact ⟨by omega, by omega, fun _ => by omega⟩
        · split at h
          · rename_i h5
            have := atIs_lt h5
            cases h
            exact ⟨by omega, by omega, fun _ => by omega⟩
          · cases h

/-- The tokens from a place on, behind others: all of them, or the place and the number of the error. -/
def scanG : Nat → List UInt8 → Nat → List Tok → List Tok × Nat × Int
  | 0, _, _, _ => ([], 0, 4)
  | f + 1, s, i, acc => match lexAt s (runTo (isB 32) s i) with
    | none => ([], runTo (isB 32) s i, 4)
    | some (k, t, e) => if acc.length = 256 then ([], runTo (isB 32) s i, 5)
      else if k = 3 then (acc ++ [⟨k, t, (runTo (isB 32) s i : Nat)⟩], 0, 0)
      else scanG f s e (acc ++ [⟨k, t, (runTo (isB 32) s i : Nat)⟩])

def scanR (s : List UInt8) : List Tok × Nat × Int := if 4096 < s.length then ([], 0, 13) else scanG (s.length + 1) s 0 []
def scanV (r : List Tok × Nat × Int) : V := .tup [.sl (r.1.map tkV), .int .i64 (r.2.1 : Int), .int .i64 r.2.2]

theorem scan_v (s : List UInt8) (st : St) : VRet Tryz.prog 60 [.str s] st (scanV (scanR s)) st := by
  refine VCalls_of F60_ok mixed (Nat.le_of_ble_eq_true rfl) (fun hwf => ?_)
  by_cases hl : 4096 < s.length
  · have hR : scanR s = ([], 0, 13) := if_pos hl
    have h0 : decide ((4096 : Int) < (s.length : Int)) = true := by simp; omega
    rw [hR]
    (repeat' first | ((first | refine go rfl rfl ?_ | (refine Fk.by_ ?_ ?_ <;> intro hc <;> try simp only [hc]) | refine storeK_eq rfl ?_ | with_reducible refine And.intro ?_ ?_ | fail) <;> try simp only [h0, push_cast, reduceIte, Nat.reduceEqDiff, reduceCtorEq, Nat.reduceAdd, Nat.reduceLeDiff, Nat.reduceBEq]))
    refine finB (hwf) (by simp only [F60, scanV, push_cast, reduceIte, Nat.reduceEqDiff, reduceCtorEq, Nat.reduceAdd, Nat.reduceLeDiff, Nat.reduceBEq]; exact rfl) (by first | exact .inl rfl | (right; simp only [F60, scanV, push_cast, reduceIte, Nat.reduceEqDiff, reduceCtorEq, Nat.reduceAdd, Nat.reduceLeDiff, Nat.reduceBEq]; try rfl)) (by first | rfl | assumption) (by simp) (by simp) (by (repeat first | exact (hwf).subm | exact (hwf).suba | refine Sub.drop (by simp) ?_)) (by (repeat first | exact (hwf).subm | exact (hwf).suba | refine Sub.drop (by simp) ?_)) (by (repeat first | exact (hwf).subx | refine ExSub.dropt (by simp) ?_ | refine ExSub.drop (by simp) ?_))
  · have hR : scanR s = scanG (s.length + 1) s 0 [] := if_neg hl
    have hs : s.length < 140737488355328 := by omega
    have h0 : decide ((4096 : Int) < (s.length : Int)) = false := by simp; omega
    obtain ⟨R, hRR⟩ : ∃ R, scanR s = R := ⟨_, rfl⟩
    rw [hRR]
    rw [hRR] at hR
    (repeat' first | ((first | refine go rfl rfl ?_ | (refine Fk.by_ ?_ ?_ <;> intro hc <;> try simp only [hc]) | refine storeK_eq rfl ?_ | with_reducible refine And.intro ?_ ?_ | fail) <;> try simp only [h0, push_cast, reduceIte, Nat.reduceEqDiff, reduceCtorEq, Nat.reduceAdd, Nat.reduceLeDiff, Nat.reduceBEq]))
    refine WT_own 111 3 (t := 6) rfl ?_
    refine WT_loop rfl (fun n e z => ∃ f i acc, n = s.length - i ∧ i ≤ s.length ∧ s.length - i < f ∧ acc.length ≤ 256 ∧ R = scanG f s i acc ∧ e = [(5, .ptr st.nx 0), (6, .osl (st.nx + 1) acc.length)] ∧
      z = ⟨st.nx + 2, (st.nx, [.str s, .int .i64 (i : Int)]) :: st.mem, (st.nx + 1, ⟨111, 3, acc.map tkV, false, false⟩) :: st.arr, st.x⟩) (st.nx + 2) (Nat.le_refl _) (by rintro _ _ _ ⟨_, _, _, _, _, _, _, _, _, rfl⟩; rfl)
      ⟨_, _, _, ⟨s.length + 1, 0, [], rfl, Nat.zero_le _, by omega, by simp, hR, rfl, rfl⟩, (by repeat first | exact .nil | refine .cons (by first | rfl | (simp [V.bd, V.bdL]; try first | omega | assumption)) (by first | rfl | simp only [push_cast, reduceIte, Nat.reduceEqDiff, reduceCtorEq, Nat.reduceAdd, Nat.reduceLeDiff, Nat.reduceBEq]) ?_), .refl ((hwf.new rfl).newA rfl)⟩ ?_
    rintro n e z ⟨f, i, acc, rfl, hi, hf, hac, hR, rfl, rfl⟩
    cases f with
    | zero => omega
    | succ f =>
    rw [scanG] at hR
    obtain ⟨a, ha⟩ : ∃ a, runTo (isB 32) s i = a := ⟨_, rfl⟩
    have hal : a ≤ s.length := by rw [← ha]; exact runTo_le hi
    rw [ha] at hR
    have hm : Sha.look ((st.nx, [V.str s, .int .i64 (i : Int)]) :: st.mem) st.nx = some [.str s, .int .i64 (i : Int)] := by simp [Sha.look]
    cases h : lexAt s a with
    | none =>
      have ht : tokR s i = (.tup [tokV 0 [] 0, .bool false], a) := by rw [tokR, ha, h]
      rw [h] at hR
      subst hR
      (repeat' first | ((first | refine go rfl rfl ?_ | refine Cl.by_ (by (first | refine token_v (i := i) hm hi hs)) ?_ | (refine Fk.by_ ?_ ?_ <;> intro hc <;> try simp only [hc]) | refine storeK_eq rfl ?_ | with_reducible refine And.intro ?_ ?_ | fail) <;> try simp only [ht, cells_tokV, push_cast, reduceIte, Nat.reduceEqDiff, reduceCtorEq, Nat.reduceAdd, Nat.reduceLeDiff, Nat.reduceBEq]))
      refine finB (hwf) (by simp only [F60, scanV, push_cast, reduceIte, Nat.reduceEqDiff, reduceCtorEq, Nat.reduceAdd, Nat.reduceLeDiff, Nat.reduceBEq]; exact rfl) (by first | exact .inl rfl | (right; simp only [F60, scanV, push_cast, reduceIte, Nat.reduceEqDiff, reduceCtorEq, Nat.reduceAdd, Nat.reduceLeDiff, Nat.reduceBEq]; try rfl)) (by first | rfl | assumption) (by simp) (by simp) (by (repeat first | exact (hwf).subm | exact (hwf).suba | refine Sub.drop (by simp) ?_)) (by (repeat first | exact (hwf).subm | exact (hwf).suba | refine Sub.drop (by simp) ?_)) (by (repeat first | exact (hwf).subx | refine ExSub.dropt (by simp) ?_ | refine ExSub.drop (by simp) ?_))
    | some r =>
      obtain ⟨k, t, e⟩ := r
      have ht : tokR s i = (.tup [tokV k t a, .bool true], e) := by rw [tokR, ha, h]
      simp only [h] at hR
      by_cases hn : acc.length = 256
      · rw [if_pos hn] at hR
        subst hR
        have h1 : ((acc.length : Int) == 256) = true := by simp; omega
        (repeat' first | ((first | refine go rfl rfl ?_ | refine Cl.by_ (by (first | refine token_v (i := i) hm hi hs)) ?_ | (refine Fk.by_ ?_ ?_ <;> intro hc <;> try simp only [hc]) | refine storeK_eq rfl ?_ | with_reducible refine And.intro ?_ ?_ | fail) <;> try simp only [ht, cells_tokV, h1, push_cast, reduceIte, Nat.reduceEqDiff, reduceCtorEq, Nat.reduceAdd, Nat.reduceLeDiff, Nat.reduceBEq]))
        refine finB (hwf) (by simp only [F60, scanV, push_cast, reduceIte, Nat.reduceEqDiff, reduceCtorEq, Nat.reduceAdd, Nat.reduceLeDiff, Nat.reduceBEq]; exact rfl) (by first | exact .inl rfl | (right; simp only [F60, scanV, push_cast, reduceIte, Nat.reduceEqDiff, reduceCtorEq, Nat.reduceAdd, Nat.reduceLeDiff, Nat.reduceBEq]; try rfl)) (by first | rfl | assumption) (by simp) (by simp) (by (repeat first | exact (hwf).subm | exact (hwf).suba | refine Sub.drop (by simp) ?_)) (by (repeat first | exact (hwf).subm | exact (hwf).suba | refine Sub.drop (by simp) ?_)) (by (repeat first | exact (hwf).subx | refine ExSub.dropt (by simp) ?_ | refine ExSub.drop (by simp) ?_))
      · rw [if_neg hn] at hR
        have h1 : ((acc.length : Int) == 256) = false := by simp; omega
        by_cases hk : k = 3
        · rw [if_pos hk] at hR
          subst hR
          have h2 : (k == 3) = true := by simp [hk]
          have hrm : roomV (acc.length + 1) 32 = true := by simp [roomV, maxLen]; omega
          have hbr : V.bd st.nx (scanV (acc ++ [⟨k, t, (a : Int)⟩], 0, 0)) = true := by
            simp only [scanV, V.bd, V.bdL, bdL_tk]; rfl
          (repeat' first | ((first | refine go rfl rfl ?_ | refine Cl.by_ (by (first | refine token_v (i := i) hm hi hs)) ?_ | (refine Fk.by_ ?_ ?_ <;> intro hc <;> try simp only [hc]) | refine storeK_eq rfl ?_ | with_reducible refine And.intro ?_ ?_ | fail) <;> try simp only [ht, cells_tokV, app_tk, h1, h2, hrm, push_cast, reduceIte, Nat.reduceEqDiff, reduceCtorEq, Nat.reduceAdd, Nat.reduceLeDiff, Nat.reduceBEq]))
          refine finB (hwf) (by simp only [F60, scanV, push_cast, reduceIte, Nat.reduceEqDiff, reduceCtorEq, Nat.reduceAdd, Nat.reduceLeDiff, Nat.reduceBEq]; exact rfl) (by first | exact .inl rfl | (right; simp only [F60, scanV, push_cast, reduceIte, Nat.reduceEqDiff, reduceCtorEq, Nat.reduceAdd, Nat.reduceLeDiff, Nat.reduceBEq]; try rfl)) (by first | rfl | assumption) (by simp) (by simp) (by (repeat first | exact (hwf).subm | exact (hwf).suba | refine Sub.drop (by simp) ?_)) (by (repeat first | exact (hwf).subm | exact (hwf).suba | refine Sub.drop (by simp) ?_)) (by (repeat first | exact (hwf).subx | refine ExSub.dropt (by simp) ?_ | refine ExSub.drop (by simp) ?_))
        · rw [if_neg hk] at hR
          have h2 : (k == 3) = false := by simp [hk]
          have hrm : roomV (acc.length + 1) 32 = true := by simp [roomV, maxLen]; omega
          (repeat' first | ((first | refine go rfl rfl ?_ | refine Cl.by_ (by (first | refine token_v (i := i) hm hi hs)) ?_ | (refine Fk.by_ ?_ ?_ <;> intro hc <;> try simp only [hc]) | refine storeK_eq rfl ?_ | with_reducible refine And.intro ?_ ?_ | fail) <;> try simp only [ht, cells_tokV, app_tk, h1, h2, hrm, push_cast, reduceIte, Nat.reduceEqDiff, reduceCtorEq, Nat.reduceAdd, Nat.reduceLeDiff, Nat.reduceBEq]))
          obtain ⟨g1, g2, g3⟩ := lexAt_bd hal h
          have := g3 hk
          have := le_runTo (ok := isB 32) (s := s) (i := i)
          refine ⟨_, _, _, by omega, ⟨f, e, acc ++ [⟨k, t, (a : Int)⟩], rfl, by omega, by omega, by simp; omega, hR, rfl, rfl⟩, (by repeat first | exact .nil | refine .cons (by first | rfl | (simp [V.bd, V.bdL]; try first | omega | assumption)) (by first | rfl | simp only [push_cast, reduceIte, Nat.reduceEqDiff, reduceCtorEq, Nat.reduceAdd, Nat.reduceLeDiff, Nat.reduceBEq]) ?_), Weak.wf rfl (by simp) (by (repeat first | exact ((hwf.new rfl).newA (bdL_tk)).subm | exact ((hwf.new rfl).newA (bdL_tk)).suba | refine Sub.drop (by simp) ?_)) (by (repeat first | exact ((hwf.new rfl).newA (bdL_tk)).subm | exact ((hwf.new rfl).newA (bdL_tk)).suba | refine Sub.drop (by simp) ?_)) (by (repeat first | exact ((hwf.new rfl).newA (bdL_tk)).subx | refine ExSub.dropt (by simp) ?_ | refine ExSub.drop (by simp) ?_)) ((hwf.new rfl).newA (bdL_tk))⟩
end Go.Proofs.YtnondemehfkalaaGreatDoor

set_option maxRecDepth 10000
namespace Go.Proofs.YtnondemehfkalaaGreatDoor
open Go.Sha

theorem atIs_some {ok : UInt8 → Bool} {s : List UInt8} {i : Nat} {b : UInt8} (h : s[i]? = some b) : atIs ok s i = ok b := by simp [atIs, h]
theorem atIs_none {ok : UInt8 → Bool} {s : List UInt8} {i : Nat} (h : s.length ≤ i) : atIs ok s i = false := by simp [atIs, List.getElem?_eq_none h]

theorem word_v {s : List UInt8} {i : Nat} (st : St) (hi : i ≤ s.length) (hs : s.length < 140737488355328) : VRet Tryz.prog 177 [.str s, .int .i64 (i : Int)] st (.int .i64 (runTo wrdB s i : Nat)) st := by
  refine VCalls_of F177_ok mixed (Nat.le_of_ble_eq_true rfl) (fun hwf => ?_)
  (repeat' first | ((first | refine go rfl rfl ?_ | (refine Fk.by_ ?_ ?_ <;> intro hc <;> try simp only [hc]) | refine storeK_eq rfl ?_ | with_reducible refine And.intro ?_ ?_ | fail) <;> try simp only [push_cast, reduceIte, Nat.reduceEqDiff, reduceCtorEq, Nat.reduceAdd, Nat.reduceLeDiff, Nat.reduceBEq]))
  refine WT_loop rfl (fun n e z => ∃ j : Nat, n = s.length - j ∧ j ≤ s.length ∧ runTo wrdB s j = runTo wrdB s i ∧ e = [(1, .int .i64 (j : Int)), (0, .str s)] ∧ z = st) st.nx (Nat.le_refl _) (by rintro _ _ _ ⟨j, _, _, _, _, rfl⟩; rfl)
    ⟨_, _, _, ⟨i, rfl, hi, rfl, rfl, rfl⟩, (by repeat first | exact .nil | refine .cons (by first | rfl | (simp [V.bd, V.bdL]; try first | omega | assumption)) (by first | rfl | simp only [push_cast, reduceIte, Nat.reduceEqDiff, reduceCtorEq, Nat.reduceAdd, Nat.reduceLeDiff, Nat.reduceBEq]) ?_), .refl hwf⟩ ?_
  rintro n e z ⟨j, rfl, hj, hr, rfl, rfl⟩
  rcases Nat.lt_or_ge j s.length with hlt | hge
  · obtain ⟨b, hb⟩ : ∃ b, s[j]? = some b := ⟨_, List.getElem?_eq_getElem hlt⟩
    have h1 : decide ((j : Int) < (s.length : Int)) = true := by simp; omega
    have hw : IntKind.i64.wrap ((j : Int) + 1) = (j : Int) + 1 := wrap64 (by omega) (by omega)
    have h5 : ∀ x, isWrd b.toNat = x → atIs wrdB s j = x := fun x h => by rw [atIs_some hb]; exact h
    (repeat' first | ((first | refine go rfl rfl ?_ | refine Cl.by_ (by (first | refine letter_v _ _ | refine digit_v _ _)) ?_ | (refine Fk.by_ ?_ ?_ <;> intro hc <;> try simp only [hc]) | refine storeK_eq rfl ?_ | with_reducible refine And.intro ?_ ?_ | fail) <;> try simp only [h1, hb, hw, push_cast, reduceIte, Nat.reduceEqDiff, reduceCtorEq, Nat.reduceAdd, Nat.reduceLeDiff, Nat.reduceBEq]))
    all_goals first
      | exact ⟨_, _, _, by omega, ⟨j + 1, rfl, by omega, by rw [(runTo_go (h5 true (by simp [isWrd, *]))).1, hr], rfl, rfl⟩, (by repeat first | exact .nil | refine .cons (by first | rfl | (simp [V.bd, V.bdL]; try first | omega | assumption)) (by first | rfl | simp only [push_cast, reduceIte, Nat.reduceEqDiff, reduceCtorEq, Nat.reduceAdd, Nat.reduceLeDiff, Nat.reduceBEq]) ?_), .refl hwf⟩
      | (rw [← hr, runTo_stop (h5 false (by simp [isWrd, *]))]; refine finB (hwf) (by simp only [F177, push_cast, reduceIte, Nat.reduceEqDiff, reduceCtorEq, Nat.reduceAdd, Nat.reduceLeDiff, Nat.reduceBEq]; exact rfl) (by first | exact .inl rfl | (right; simp only [F177, push_cast, reduceIte, Nat.reduceEqDiff, reduceCtorEq, Nat.reduceAdd, Nat.reduceLeDiff, Nat.reduceBEq]; try rfl)) (by first | rfl | assumption) (by simp) (by simp) (by (repeat first | exact (hwf).subm | exact (hwf).suba | refine Sub.drop (by simp) ?_)) (by (repeat first | exact (hwf).subm | exact (hwf).suba | refine Sub.drop (by simp) ?_)) (by (repeat first | exact (hwf).subx | refine ExSub.dropt (by simp) ?_ | refine ExSub.drop (by simp) ?_)))
  · have h1 : decide ((j : Int) < (s.length : Int)) = false := by simp; omega
    (repeat' first | ((first | refine go rfl rfl ?_ | (refine Fk.by_ ?_ ?_ <;> intro hc <;> try simp only [hc]) | refine storeK_eq rfl ?_ | with_reducible refine And.intro ?_ ?_ | fail) <;> try simp only [h1, push_cast, reduceIte, Nat.reduceEqDiff, reduceCtorEq, Nat.reduceAdd, Nat.reduceLeDiff, Nat.reduceBEq]))
    rw [← hr, runTo_stop (atIs_none hge)]
    refine finB (hwf) (by simp only [F177, push_cast, reduceIte, Nat.reduceEqDiff, reduceCtorEq, Nat.reduceAdd, Nat.reduceLeDiff, Nat.reduceBEq]; exact rfl) (by first | exact .inl rfl | (right; simp only [F177, push_cast, reduceIte, Nat.reduceEqDiff, reduceCtorEq, Nat.reduceAdd, Nat.reduceLeDiff, Nat.reduceBEq]; try rfl)) (by first | rfl | assumption) (by simp) (by simp) (by (repeat first | exact (hwf).subm | exact (hwf).suba | refine Sub.drop (by simp) ?_)) (by (repeat first | exact (hwf).subm | exact (hwf).suba | refine Sub.drop (by simp) ?_)) (by (repeat first | exact (hwf).subx | refine ExSub.dropt (by simp) ?_ | refine ExSub.drop (by simp) ?_))

def numEnd (s : List UInt8) (i : Nat) : Nat := if atIs (isB 46) s (runTo digB s i) && atIs digB s (runTo digB s i + 1) then runTo digB s (runTo digB s i + 1) else runTo digB s i

theorem number_v {s : List UInt8} {i : Nat} (st : St) (hi : i ≤ s.length) (hs : s.length < 140737488355328) : VRet Tryz.prog 181 [.str s, .int .i64 (i : Int)] st (.int .i64 (numEnd s i : Nat)) st := by
  refine VCalls_of F181_ok mixed (Nat.le_of_ble_eq_true rfl) (fun hwf => ?_)
  unfold numEnd
  obtain ⟨d, hd⟩ : ∃ d, runTo digB s i = d := ⟨_, rfl⟩
  have hdl : d ≤ s.length := by rw [← hd]; exact runTo_le hi
  obtain ⟨c, hdc⟩ : ∃ c, runTo digB s (d + 1) = c := ⟨_, rfl⟩
  rw [hd, hdc]
  have key : ∀ j : Nat, j = d → WT Tryz.prog F181.N F181.T 14 [(1, .int .i64 (j : Int)), (0, .str s)] st (seqT Tryz.prog F181.N F181.T 30 (finQ F181.res st.nx fun x z => x = .ret (.int .i64 ((if (atIs (isB 46) s d && atIs digB s (d + 1)) = true then c else d : Nat) : Int)) ∧ z = st)) := by
    intro j ej
    rw [ej]
    clear ej
    have hw : IntKind.i64.wrap ((d : Int) + 1) = (d : Int) + 1 := wrap64 (by omega) (by omega)
    rcases Nat.lt_or_ge (d + 1) s.length with hlt | hge
    · obtain ⟨b, hb⟩ : ∃ b, s[d]? = some b := ⟨_, List.getElem?_eq_getElem (by omega)⟩
      obtain ⟨b2, hb2⟩ : ∃ b, s[d + 1]? = some b := ⟨_, List.getElem?_eq_getElem (by omega)⟩
      have h1 : decide ((d : Int) + 1 < (s.length : Int)) = true := by simp; omega
      rw [atIs_some hb, atIs_some hb2]
      (repeat' first | ((first | refine go rfl rfl ?_ | refine Cl.by_ (by (first | refine digit_v _ _)) ?_ | (refine Fk.by_ ?_ ?_ <;> intro hc <;> try simp only [hc]) | refine storeK_eq rfl ?_ | with_reducible refine And.intro ?_ ?_ | fail) <;> try simp only [h1, hb, hb2, hw, push_cast, reduceIte, Nat.reduceEqDiff, reduceCtorEq, Nat.reduceAdd, Nat.reduceLeDiff, Nat.reduceBEq]))
      · have hc2 : ((isB 46 b && digB b2) = true) = True := by simp [isB, digB, *]
        simp only [hc2, if_true]
        refine WT_loop rfl (fun n e z => ∃ j : Nat, n = s.length - j ∧ j ≤ s.length ∧ runTo digB s j = c ∧ e = [(1, .int .i64 (j : Int)), (0, .str s)] ∧ z = st) st.nx (Nat.le_refl _) (by rintro _ _ _ ⟨j, _, _, _, _, rfl⟩; rfl)
          ⟨_, _, _, ⟨d + 1, rfl, by omega, hdc, rfl, rfl⟩, (by repeat first | exact .nil | refine .cons (by first | rfl | (simp [V.bd, V.bdL]; try first | omega | assumption)) (by first | rfl | simp only [push_cast, reduceIte, Nat.reduceEqDiff, reduceCtorEq, Nat.reduceAdd, Nat.reduceLeDiff, Nat.reduceBEq]) ?_), .refl hwf⟩ ?_
        rintro n e z ⟨j, rfl, hj, hr, rfl, rfl⟩
        rcases Nat.lt_or_ge j s.length with hlt | hge
        · obtain ⟨b, hb⟩ : ∃ b, s[j]? = some b := ⟨_, List.getElem?_eq_getElem hlt⟩
          have h1 : decide ((j : Int) < (s.length : Int)) = true := by simp; omega
          have hw : IntKind.i64.wrap ((j : Int) + 1) = (j : Int) + 1 := wrap64 (by omega) (by omega)
          have h5 : ∀ x, isDig b.toNat = x → atIs digB s j = x := fun x h => by rw [atIs_some hb]; exact h
          (repeat' first | ((first | refine go rfl rfl ?_ | refine Cl.by_ (by (first | refine digit_v _ _)) ?_ | (refine Fk.by_ ?_ ?_ <;> intro hc <;> try simp only [hc]) | refine storeK_eq rfl ?_ | with_reducible refine And.intro ?_ ?_ | fail) <;> try simp only [h1, hb, hw, push_cast, reduceIte, Nat.reduceEqDiff, reduceCtorEq, Nat.reduceAdd, Nat.reduceLeDiff, Nat.reduceBEq]))
          · exact ⟨_, _, _, by omega, ⟨j + 1, rfl, by omega, by rw [(runTo_go (h5 true hc)).1, hr], rfl, rfl⟩, (by repeat first | exact .nil | refine .cons (by first | rfl | (simp [V.bd, V.bdL]; try first | omega | assumption)) (by first | rfl | simp only [push_cast, reduceIte, Nat.reduceEqDiff, reduceCtorEq, Nat.reduceAdd, Nat.reduceLeDiff, Nat.reduceBEq]) ?_), .refl hwf⟩
          · rw [← hr, runTo_stop (h5 false hc)]
            refine finB (hwf) (by simp only [F181, push_cast, reduceIte, Nat.reduceEqDiff, reduceCtorEq, Nat.reduceAdd, Nat.reduceLeDiff, Nat.reduceBEq]; exact rfl) (by first | exact .inl rfl | (right; simp only [F181, push_cast, reduceIte, Nat.reduceEqDiff, reduceCtorEq, Nat.reduceAdd, Nat.reduceLeDiff, Nat.reduceBEq]; try rfl)) (by first | rfl | assumption) (by simp) (by simp) (by (repeat first | exact (hwf).subm | exact (hwf).suba | refine Sub.drop (by simp) ?_)) (by (repeat first | exact (hwf).subm | exact (hwf).suba | refine Sub.drop (by simp) ?_)) (by (repeat first | exact (hwf).subx | refine ExSub.dropt (by simp) ?_ | refine ExSub.drop (by simp) ?_))
        · have h1 : decide ((j : Int) < (s.length : Int)) = false := by simp; omega
          (repeat' first | ((first | refine go rfl rfl ?_ | (refine Fk.by_ ?_ ?_ <;> intro hc <;> try simp only [hc]) | refine storeK_eq rfl ?_ | with_reducible refine And.intro ?_ ?_ | fail) <;> try simp only [h1, push_cast, reduceIte, Nat.reduceEqDiff, reduceCtorEq, Nat.reduceAdd, Nat.reduceLeDiff, Nat.reduceBEq]))
          rw [← hr, runTo_stop (atIs_none hge)]
          refine finB (hwf) (by simp only [F181, push_cast, reduceIte, Nat.reduceEqDiff, reduceCtorEq, Nat.reduceAdd, Nat.reduceLeDiff, Nat.reduceBEq]; exact rfl) (by first | exact .inl rfl | (right; simp only [F181, push_cast, reduceIte, Nat.reduceEqDiff, reduceCtorEq, Nat.reduceAdd, Nat.reduceLeDiff, Nat.reduceBEq]; try rfl)) (by first | rfl | assumption) (by simp) (by simp) (by (repeat first | exact (hwf).subm | exact (hwf).suba | refine Sub.drop (by simp) ?_)) (by (repeat first | exact (hwf).subm | exact (hwf).suba | refine Sub.drop (by simp) ?_)) (by (repeat first | exact (hwf).subx | refine ExSub.dropt (by simp) ?_ | refine ExSub.drop (by simp) ?_))
      all_goals
        have hc2 : ((isB 46 b && digB b2) = true) = False := by simp [isB, digB, *]
        simp only [hc2, if_false]
        refine finB (hwf) (by simp only [F181, push_cast, reduceIte, Nat.reduceEqDiff, reduceCtorEq, Nat.reduceAdd, Nat.reduceLeDiff, Nat.reduceBEq]; exact rfl) (by first | exact .inl rfl | (right; simp only [F181, push_cast, reduceIte, Nat.reduceEqDiff, reduceCtorEq, Nat.reduceAdd, Nat.reduceLeDiff, Nat.reduceBEq]; try rfl)) (by first | rfl | assumption) (by simp) (by simp) (by (repeat first | exact (hwf).subm | exact (hwf).suba | refine Sub.drop (by simp) ?_)) (by (repeat first | exact (hwf).subm | exact (hwf).suba | refine Sub.drop (by simp) ?_)) (by (repeat first | exact (hwf).subx | refine ExSub.dropt (by simp) ?_ | refine ExSub.drop (by simp) ?_))
    · have h1 : decide ((d : Int) + 1 < (s.length : Int)) = false := by simp; omega
      rw [atIs_none (i := d + 1) (by omega)]
      simp only [Bool.and_false, Bool.false_eq_true, if_false]
      (repeat' first | ((first | refine go rfl rfl ?_ | (refine Fk.by_ ?_ ?_ <;> intro hc <;> try simp only [hc]) | refine storeK_eq rfl ?_ | with_reducible refine And.intro ?_ ?_ | fail) <;> try simp only [h1, hw, push_cast, reduceIte, Nat.reduceEqDiff, reduceCtorEq, Nat.reduceAdd, Nat.reduceLeDiff, Nat.reduceBEq]))
      refine finB (hwf) (by simp only [F181, push_cast, reduceIte, Nat.reduceEqDiff, reduceCtorEq, Nat.reduceAdd, Nat.reduceLeDiff, Nat.reduceBEq]; exact rfl) (by first | exact .inl rfl | (right; simp only [F181, push_cast, reduceIte, Nat.reduceEqDiff, reduceCtorEq, Nat.reduceAdd, Nat.reduceLeDiff, Nat.reduceBEq]; try rfl)) (by first | rfl | assumption) (by simp) (by simp) (by (repeat first | exact (hwf).subm | exact (hwf).suba | refine Sub.drop (by simp) ?_)) (by (repeat first | exact (hwf).subm | exact (hwf).suba | refine Sub.drop (by simp) ?_)) (by (repeat first | exact (hwf).subx | refine ExSub.dropt (by simp) ?_ | refine ExSub.drop (by simp) ?_))
  (repeat' first | ((first | refine go rfl rfl ?_ | (refine Fk.by_ ?_ ?_ <;> intro hc <;> try simp only [hc]) | refine storeK_eq rfl ?_ | with_reducible refine And.intro ?_ ?_ | fail) <;> try simp only [push_cast, reduceIte, Nat.reduceEqDiff, reduceCtorEq, Nat.reduceAdd, Nat.reduceLeDiff, Nat.reduceBEq]))
  refine WT_loop rfl (fun n e z => ∃ j : Nat, n = s.length - j ∧ j ≤ s.length ∧ runTo digB s j = d ∧ e = [(1, .int .i64 (j : Int)), (0, .str s)] ∧ z = st) st.nx (Nat.le_refl _) (by rintro _ _ _ ⟨j, _, _, _, _, rfl⟩; rfl)
    ⟨_, _, _, ⟨i, rfl, hi, hd, rfl, rfl⟩, (by repeat first | exact .nil | refine .cons (by first | rfl | (simp [V.bd, V.bdL]; try first | omega | assumption)) (by first | rfl | simp only [push_cast, reduceIte, Nat.reduceEqDiff, reduceCtorEq, Nat.reduceAdd, Nat.reduceLeDiff, Nat.reduceBEq]) ?_), .refl hwf⟩ ?_
  rintro n e z ⟨j, rfl, hj, hr, rfl, rfl⟩
  rcases Nat.lt_or_ge j s.length with hlt | hge
  · obtain ⟨b, hb⟩ : ∃ b, s[j]? = some b := ⟨_, List.getElem?_eq_getElem hlt⟩
    have h1 : decide ((j : Int) < (s.length : Int)) = true := by simp; omega
    have hw : IntKind.i64.wrap ((j : Int) + 1) = (j : Int) + 1 := wrap64 (by omega) (by omega)
    have h5 : ∀ x, isDig b.toNat = x → atIs digB s j = x := fun x h => by rw [atIs_some hb]; exact h
    (repeat' first | exact WT_env (by repeat first | exact .nil | refine .cons (by first | rfl | simp only [push_cast, reduceIte, Nat.reduceEqDiff, reduceCtorEq, Nat.reduceAdd, Nat.reduceLeDiff, Nat.reduceBEq]) ?_) (key j (by rw [← hr, runTo_stop (h5 false hc)])) | ((first | refine go rfl rfl ?_ | refine Cl.by_ (by (first | refine digit_v _ _)) ?_ | (refine Fk.by_ ?_ ?_ <;> intro hc <;> try simp only [hc]) | refine storeK_eq rfl ?_ | with_reducible refine And.intro ?_ ?_ | fail) <;> try simp only [h1, hb, hw, push_cast, reduceIte, Nat.reduceEqDiff, reduceCtorEq, Nat.reduceAdd, Nat.reduceLeDiff, Nat.reduceBEq]))
    exact ⟨_, _, _, by omega, ⟨j + 1, rfl, by omega, by rw [(runTo_go (h5 true hc)).1, hr], rfl, rfl⟩, (by repeat first | exact .nil | refine .cons (by first | rfl | (simp [V.bd, V.bdL]; try first | omega | assumption)) (by first | rfl | simp only [push_cast, reduceIte, Nat.reduceEqDiff, reduceCtorEq, Nat.reduceAdd, Nat.reduceLeDiff, Nat.reduceBEq]) ?_), .refl hwf⟩
  · have h1 : decide ((j : Int) < (s.length : Int)) = false := by simp; omega
    (repeat' first | exact WT_env (by repeat first | exact .nil | refine .cons (by first | rfl | simp only [push_cast, reduceIte, Nat.reduceEqDiff, reduceCtorEq, Nat.reduceAdd, Nat.reduceLeDiff, Nat.reduceBEq]) ?_) (key j (by rw [← hr, runTo_stop (atIs_none hge)])) | ((first | refine go rfl rfl ?_ | (refine Fk.by_ ?_ ?_ <;> intro hc <;> try simp only [hc]) | refine storeK_eq rfl ?_ | with_reducible refine And.intro ?_ ?_ | fail) <;> try simp only [h1, push_cast, reduceIte, Nat.reduceEqDiff, reduceCtorEq, Nat.reduceAdd, Nat.reduceLeDiff, Nat.reduceBEq]))
end Go.Proofs.YtnondemehfkalaaGreatDoor

set_option maxRecDepth 10000
namespace Go.Proofs.YtnondemehfkalaaGreatDoor
open Go.Sha

def quoEnd (s : List UInt8) (i : Nat) : Int := if atIs (isB 34) s (runTo plnB s (i + 1)) then (runTo plnB s (i + 1) : Nat) + 1 else -1

theorem quoted_v {s : List UInt8} {i : Nat} (st : St) (hi : i < s.length) (hs : s.length < 140737488355328) : VRet Tryz.prog 179 [.str s, .int .i64 (i : Int)] st (.int .i64 (quoEnd s i)) st := by
  refine VCalls_of F179_ok mixed (Nat.le_of_ble_eq_true rfl) (fun hwf => ?_)
  unfold quoEnd
  have hw0 : IntKind.i64.wrap ((i : Int) + 1) = (i : Int) + 1 := wrap64 (by omega) (by omega)
  obtain ⟨d, hd⟩ : ∃ d, runTo plnB s (i + 1) = d := ⟨_, rfl⟩
  have hdl : d ≤ s.length := by rw [← hd]; exact runTo_le hi
  rw [hd]
  have key : ∀ j : Nat, j = d → WT Tryz.prog F179.N F179.T 15 [(5, .int .i64 (j : Int)), (0, .str s)] st (finQ F179.res st.nx fun x z => x = .ret (.int .i64 (if atIs (isB 34) s d = true then (d : Int) + 1 else -1)) ∧ z = st) := by
    intro j ej
    rw [ej]
    clear ej
    have hw : IntKind.i64.wrap ((d : Int) + 1) = (d : Int) + 1 := wrap64 (by omega) (by omega)
    rcases Nat.lt_or_ge d s.length with hlt | hge
    · obtain ⟨b, hb⟩ : ∃ b, s[d]? = some b := ⟨_, List.getElem?_eq_getElem (by omega)⟩
      have h1 : ((d : Int) == (s.length : Int)) = false := by simp; omega
      rw [atIs_some hb]
      have h2 : ((b.toNat : Int) != 34) = !(isB 34 b) := by simp [isB, bne]
      (repeat' first | ((first | refine go rfl rfl ?_ | (refine Fk.by_ ?_ ?_ <;> intro hc <;> try simp only [hc]) | refine storeK_eq rfl ?_ | with_reducible refine And.intro ?_ ?_ | fail) <;> try simp only [h1, hb, hw, h2, push_cast, reduceIte, Nat.reduceEqDiff, reduceCtorEq, Nat.reduceAdd, Nat.reduceLeDiff, Nat.reduceBEq]))
      all_goals refine finB (hwf) (by simp only [F179, push_cast, reduceIte, Nat.reduceEqDiff, reduceCtorEq, Nat.reduceAdd, Nat.reduceLeDiff, Nat.reduceBEq]; exact rfl) (by first | exact .inl rfl | (right; simp only [F179, push_cast, reduceIte, Nat.reduceEqDiff, reduceCtorEq, Nat.reduceAdd, Nat.reduceLeDiff, Nat.reduceBEq]; try rfl)) (by first | rfl | assumption) (by simp) (by simp) (by (repeat first | exact (hwf).subm | exact (hwf).suba | refine Sub.drop (by simp) ?_)) (by (repeat first | exact (hwf).subm | exact (hwf).suba | refine Sub.drop (by simp) ?_)) (by (repeat first | exact (hwf).subx | refine ExSub.dropt (by simp) ?_ | refine ExSub.drop (by simp) ?_))
    · have h1 : ((d : Int) == (s.length : Int)) = true := by simp; omega
      rw [atIs_none hge, if_neg Bool.false_ne_true]
      (repeat' first | ((first | refine go rfl rfl ?_ | (refine Fk.by_ ?_ ?_ <;> intro hc <;> try simp only [hc]) | refine storeK_eq rfl ?_ | with_reducible refine And.intro ?_ ?_ | fail) <;> try simp only [h1, push_cast, reduceIte, Nat.reduceEqDiff, reduceCtorEq, Nat.reduceAdd, Nat.reduceLeDiff, Nat.reduceBEq]))
      refine finB (hwf) (by simp only [F179, push_cast, reduceIte, Nat.reduceEqDiff, reduceCtorEq, Nat.reduceAdd, Nat.reduceLeDiff, Nat.reduceBEq]; exact rfl) (by first | exact .inl rfl | (right; simp only [F179, push_cast, reduceIte, Nat.reduceEqDiff, reduceCtorEq, Nat.reduceAdd, Nat.reduceLeDiff, Nat.reduceBEq]; try rfl)) (by first | rfl | assumption) (by simp) (by simp) (by (repeat first | exact (hwf).subm | exact (hwf).suba | refine Sub.drop (by simp) ?_)) (by (repeat first | exact (hwf).subm | exact (hwf).suba | refine Sub.drop (by simp) ?_)) (by (repeat first | exact (hwf).subx | refine ExSub.dropt (by simp) ?_ | refine ExSub.drop (by simp) ?_))
  (repeat' first | ((first | refine go rfl rfl ?_ | (refine Fk.by_ ?_ ?_ <;> intro hc <;> try simp only [hc]) | refine storeK_eq rfl ?_ | with_reducible refine And.intro ?_ ?_ | fail) <;> try simp only [hw0, push_cast, reduceIte, Nat.reduceEqDiff, reduceCtorEq, Nat.reduceAdd, Nat.reduceLeDiff, Nat.reduceBEq]))
  refine WT_loop rfl (fun n e z => ∃ j : Nat, n = s.length - j ∧ j ≤ s.length ∧ runTo plnB s j = d ∧ e = [(5, .int .i64 (j : Int)), (0, .str s)] ∧ z = st) st.nx (Nat.le_refl _) (by rintro _ _ _ ⟨j, _, _, _, _, rfl⟩; rfl)
    ⟨_, _, _, ⟨i + 1, rfl, hi, hd, rfl, rfl⟩, (by repeat first | exact .nil | refine .cons (by first | rfl | (simp [V.bd, V.bdL]; try first | omega | assumption)) (by first | rfl | simp only [push_cast, reduceIte, Nat.reduceEqDiff, reduceCtorEq, Nat.reduceAdd, Nat.reduceLeDiff, Nat.reduceBEq]) ?_), .refl hwf⟩ ?_
  rintro n e z ⟨j, rfl, hj, hr, rfl, rfl⟩
  rcases Nat.lt_or_ge j s.length with hlt | hge
  · obtain ⟨b, hb⟩ : ∃ b, s[j]? = some b := ⟨_, List.getElem?_eq_getElem hlt⟩
    have h1 : decide ((j : Int) < (s.length : Int)) = true := by simp; omega
    have hw : IntKind.i64.wrap ((j : Int) + 1) = (j : Int) + 1 := wrap64 (by omega) (by omega)
    have h5 : ∀ x, isPln b.toNat = x → atIs plnB s j = x := fun x h => by rw [atIs_some hb]; exact h
    (repeat' first | exact WT_env (by repeat first | exact .nil | refine .cons (by first | rfl | simp only [push_cast, reduceIte, Nat.reduceEqDiff, reduceCtorEq, Nat.reduceAdd, Nat.reduceLeDiff, Nat.reduceBEq]) ?_) (key j (by rw [← hr, runTo_stop (h5 false hc)])) | ((first | refine go rfl rfl ?_ | refine Cl.by_ (by (first | refine plain_v _ _)) ?_ | (refine Fk.by_ ?_ ?_ <;> intro hc <;> try simp only [hc]) | refine storeK_eq rfl ?_ | with_reducible refine And.intro ?_ ?_ | fail) <;> try simp only [h1, hb, hw, push_cast, reduceIte, Nat.reduceEqDiff, reduceCtorEq, Nat.reduceAdd, Nat.reduceLeDiff, Nat.reduceBEq]))
    exact ⟨_, _, _, by omega, ⟨j + 1, rfl, by omega, by rw [(runTo_go (h5 true hc)).1, hr], rfl, rfl⟩, (by repeat first | exact .nil | refine .cons (by first | rfl | (simp [V.bd, V.bdL]; try first | omega | assumption)) (by first | rfl | simp only [push_cast, reduceIte, Nat.reduceEqDiff, reduceCtorEq, Nat.reduceAdd, Nat.reduceLeDiff, Nat.reduceBEq]) ?_), .refl hwf⟩
  · have h1 : decide ((j : Int) < (s.length : Int)) = false := by simp; omega
    (repeat' first | exact WT_env (by repeat first | exact .nil | refine .cons (by first | rfl | simp only [push_cast, reduceIte, Nat.reduceEqDiff, reduceCtorEq, Nat.reduceAdd, Nat.reduceLeDiff, Nat.reduceBEq]) ?_) (key j (by rw [← hr, runTo_stop (atIs_none hge)])) | ((first | refine go rfl rfl ?_ | (refine Fk.by_ ?_ ?_ <;> intro hc <;> try simp only [hc]) | refine storeK_eq rfl ?_ | with_reducible refine And.intro ?_ ?_ | fail) <;> try simp only [h1, push_cast, reduceIte, Nat.reduceEqDiff, reduceCtorEq, Nat.reduceAdd, Nat.reduceLeDiff, Nat.reduceBEq]))

theorem enc_ascii {b : UInt8} (h : b.toNat < 128) : (Utf8.encode (b.toNat : Int)).data.toList = [b] := by
  have hv : Utf8.valid (b.toNat : Int) = true := by simp [Utf8.valid]; omega
  have e : ((b.toNat : Int)).toNat = b.toNat := by simp
  simp only [Utf8.encode, hv, if_true, e, h]
  simp

theorem lowB_up2 {b : UInt8} (h1 : 65 ≤ b.toNat) (h2 : b.toNat ≤ 90) : IntKind.u8.wrap (IntKind.u8.wrap ((b.toNat : Int) - 65) + 97) = ((lowB b).toNat : Int) := by
  have e : lowB b = b + 32 := if_pos ⟨h1, h2⟩
  rw [e]
  simp only [IntKind.wrap, IntKind.bits, IntKind.signed, UInt8.toNat_add]
  simp
  omega
theorem lowB_lt {b : UInt8} (h : b.toNat < 128) : (lowB b).toNat < 128 := by
  unfold lowB
  split
  · rw [UInt8.toNat_add]; simp; omega
  · exact h
theorem wrap32_byte (b : UInt8) : IntKind.i32.wrap (b.toNat : Int) = (b.toNat : Int) := by
  have := b.toNat_lt
  simp only [IntKind.wrap, IntKind.bits, IntKind.signed]
  simp
  omega

theorem Lower_v {s : List UInt8} (st : St) (ha : ∀ b ∈ s, b.toNat < 128) (hs : s.length < 140737488355328) : VRet Tryz.prog 178 [.str s] st (.str (s.map lowB)) st := by
  refine VCalls_of F178_ok mixed (Nat.le_of_ble_eq_true rfl) (fun hwf => ?_)
  (repeat' first | ((first | refine go rfl rfl ?_ | (refine Fk.by_ ?_ ?_ <;> intro hc <;> try simp only [hc]) | refine storeK_eq rfl ?_ | with_reducible refine And.intro ?_ ?_ | fail) <;> try simp only [push_cast, reduceIte, Nat.reduceEqDiff, reduceCtorEq, Nat.reduceAdd, Nat.reduceLeDiff, Nat.reduceBEq]))
  refine WT_loop rfl (fun n e z => ∃ j : Nat, n = s.length - j ∧ j ≤ s.length ∧ e = [(4, .int .i64 (j : Int)), (3, .str ((s.take j).map lowB)), (0, .str s)] ∧ z = st) st.nx (Nat.le_refl _) (by rintro _ _ _ ⟨j, _, _, _, rfl⟩; rfl)
    ⟨_, _, _, ⟨0, rfl, Nat.zero_le _, rfl, rfl⟩, (by repeat first | exact .nil | refine .cons (by first | rfl | (simp [V.bd, V.bdL]; try first | omega | assumption)) (by first | rfl | simp only [push_cast, reduceIte, Nat.reduceEqDiff, reduceCtorEq, Nat.reduceAdd, Nat.reduceLeDiff, Nat.reduceBEq]) ?_), .refl hwf⟩ ?_
  rintro n e z ⟨j, rfl, hj, rfl, rfl⟩
  rcases Nat.lt_or_ge j s.length with hlt | hge
  · obtain ⟨b, hb⟩ : ∃ b, s[j]? = some b := ⟨_, List.getElem?_eq_getElem hlt⟩
    have hb8 := ha b (List.mem_of_getElem? hb)
    have h1 : decide ((j : Int) < (s.length : Int)) = true := by simp; omega
    have hw : IntKind.i64.wrap ((j : Int) + 1) = (j : Int) + 1 := wrap64 (by omega) (by omega)
    have hcat : (s.take j).length ≤ 9223372036854775806 := by simp; omega
    have hnext : (s.take j).map lowB ++ [lowB b] = (s.take (j + 1)).map lowB := by rw [List.take_add_one, hb]; simp
    by_cases hup : 65 ≤ b.toNat ∧ b.toNat ≤ 90
    · have h3 : decide ((65 : Int) ≤ (b.toNat : Int)) = true := by simp; omega
      have h4 : decide ((b.toNat : Int) ≤ 90) = true := by simp; omega
      (repeat' first | ((first | refine go rfl rfl ?_ | (refine Fk.by_ ?_ ?_ <;> intro hc <;> try simp only [hc]) | refine storeK_eq rfl ?_ | with_reducible refine And.intro ?_ ?_ | fail) <;> try simp only [h1, hb, hw, h3, h4, lowB_up2 hup.1 hup.2, wrap32_byte, enc_ascii (lowB_lt hb8), hcat, hnext, push_cast, reduceIte, Nat.reduceEqDiff, reduceCtorEq, Nat.reduceAdd, Nat.reduceLeDiff, Nat.reduceBEq]))
      exact ⟨_, _, _, by omega, ⟨j + 1, rfl, by omega, rfl, rfl⟩, (by repeat first | exact .nil | refine .cons (by first | rfl | (simp [V.bd, V.bdL]; try first | omega | assumption)) (by first | rfl | simp only [push_cast, reduceIte, Nat.reduceEqDiff, reduceCtorEq, Nat.reduceAdd, Nat.reduceLeDiff, Nat.reduceBEq]) ?_), .refl hwf⟩
    · have hlow := lowB_no hup
      rw [hlow] at hnext
      (repeat' first | ((first | refine go rfl rfl ?_ | (refine Fk.by_ ?_ ?_ <;> intro hc <;> try simp only [hc]) | refine storeK_eq rfl ?_ | with_reducible refine And.intro ?_ ?_ | fail) <;> try simp only [h1, hb, hw, wrap32_byte, enc_ascii hb8, hcat, hnext, push_cast, reduceIte, Nat.reduceEqDiff, reduceCtorEq, Nat.reduceAdd, Nat.reduceLeDiff, Nat.reduceBEq]))
      all_goals first
        | exact absurd ⟨by have := of_decide_eq_true ‹decide ((65 : Int) ≤ _) = true›; omega, by have := of_decide_eq_true hc; omega⟩ hup
        | exact ⟨_, _, _, by omega, ⟨j + 1, rfl, by omega, rfl, rfl⟩, (by repeat first | exact .nil | refine .cons (by first | rfl | (simp [V.bd, V.bdL]; try first | omega | assumption)) (by first | rfl | simp only [push_cast, reduceIte, Nat.reduceEqDiff, reduceCtorEq, Nat.reduceAdd, Nat.reduceLeDiff, Nat.reduceBEq]) ?_), .refl hwf⟩
  · have h1 : decide ((j : Int) < (s.length : Int)) = false := by simp; omega
    have ej : j = s.length := by omega
    subst ej
    rw [List.take_length]
    (repeat' first | ((first | refine go rfl rfl ?_ | (refine Fk.by_ ?_ ?_ <;> intro hc <;> try simp only [hc]) | refine storeK_eq rfl ?_ | with_reducible refine And.intro ?_ ?_ | fail) <;> try simp only [h1, push_cast, reduceIte, Nat.reduceEqDiff, reduceCtorEq, Nat.reduceAdd, Nat.reduceLeDiff, Nat.reduceBEq]))
    refine finB (hwf) (by simp only [F178, push_cast, reduceIte, Nat.reduceEqDiff, reduceCtorEq, Nat.reduceAdd, Nat.reduceLeDiff, Nat.reduceBEq]; exact rfl) (by first | exact .inl rfl | (right; simp only [F178, push_cast, reduceIte, Nat.reduceEqDiff, reduceCtorEq, Nat.reduceAdd, Nat.reduceLeDiff, Nat.reduceBEq]; try rfl)) (by first | rfl | assumption) (by simp) (by simp) (by (repeat first | exact (hwf).subm | exact (hwf).suba | refine Sub.drop (by simp) ?_)) (by (repeat first | exact (hwf).subm | exact (hwf).suba | refine Sub.drop (by simp) ?_)) (by (repeat first | exact (hwf).subx | refine ExSub.dropt (by simp) ?_ | refine ExSub.drop (by simp) ?_))
end Go.Proofs.YtnondemehfkalaaGreatDoor

set_option maxRecDepth 10000
namespace Go.Proofs.YtnondemehfkalaaGreatDoor
open Go.Sha

theorem run_ascii {s : List UInt8} {a e : Nat} (h : ∀ i, a ≤ i → i < e → atIs wrdB s i = true) : ∀ b ∈ (s.take e).drop a, b.toNat < 128 := by
  intro b hb
  obtain ⟨i, hi⟩ := List.mem_iff_getElem?.1 hb
  rw [List.getElem?_drop, List.getElem?_take] at hi
  split at hi
  · rename_i hlt
    have := h (a + i) (by omega) hlt
    rw [atIs_some hi] at this
    have hl := b.toNat_lt
    simp only [wrdB, isWrd, isLet, isDig, Bool.or_eq_true, Bool.and_eq_true, decide_eq_true_eq, beq_iff_eq] at this
    omega
  · cases hi

theorem runTo_all {ok : UInt8 → Bool} {s : List UInt8} : ∀ (n i : Nat), s.length - i = n → ∀ k, i ≤ k → k < runTo ok s i → atIs ok s k = true := by
  intro n
  induction n with
  | zero =>
    intro i hn k h1 h2
    rw [runTo_stop (atIs_none (by omega))] at h2; omega
  | succ n ih =>
    intro i hn k h1 h2
    cases h : atIs ok s i with
    | false => rw [runTo_stop h] at h2; omega
    | true =>
      rcases Nat.eq_or_lt_of_le h1 with e | e
      · subst e; exact h
      · obtain ⟨g1, g2⟩ := runTo_go h
        exact ih (i + 1) (by omega) k e (by rw [g1]; exact h2)

def refTok (s : List UInt8) (a : Nat) : V := match lexAt s a with
  | some (k, t, e) => .tup [tokV k t a, .int .i64 (e : Int)]
  | none => .tup [tokV 0 [] 0, .int .i64 (-1)]

theorem Token_v {s : List UInt8} {a : Nat} (st : St) (ha : a ≤ s.length) (hs : s.length < 140737488355328) : VRet Tryz.prog 125 [.str s, .int .i64 (a : Int)] st (refTok s a) st := by
  refine VCalls_of F125_ok mixed (Nat.le_of_ble_eq_true rfl) (fun hwf => ?_)
  have hN : lexAt s a = none → refTok s a = .tup [tokV 0 [] 0, .int .i64 (-1)] := fun h => by rw [refTok, h]
  have hS : ∀ k t e, lexAt s a = some (k, t, e) → refTok s a = .tup [tokV k t a, .int .i64 (e : Int)] := fun k t e h => by rw [refTok, h]
  generalize refTok s a = R at hN hS
  unfold lexAt at hN hS
  rcases Nat.lt_or_ge a s.length with hlt | hge
  · rw [if_neg (by omega)] at hN hS
    obtain ⟨x, hx⟩ : ∃ x, s[a]? = some x := ⟨_, List.getElem?_eq_getElem hlt⟩
    have h0 : ((a : Int) == (s.length : Int)) = false := by simp; omega
    have hw1 : IntKind.i64.wrap ((a : Int) + 1) = (a : Int) + 1 := wrap64 (by omega) (by omega)
    have e1 : atIs letB s a = isLet x.toNat := atIs_some hx
    have e2 : atIs (isB 34) s a = ((x.toNat : Int) == 34) := atIs_some hx
    have e3 : atIs digB s a = isDig x.toNat := atIs_some hx
    have e4 : atIs sgnB s a = isSgn x.toNat := atIs_some hx
    rw [e1, e2, e3, e4] at hN hS
    cases hl : isLet x.toNat with
    | true =>
      have hR := hS _ _ _ (by rw [hl, if_pos rfl])
      have hbb := runTo_bd (ok := wrdB) ha
      have hasc := run_ascii (runTo_all _ _ rfl : ∀ k, a ≤ k → k < runTo wrdB s a → _)
      obtain ⟨b, hb⟩ : ∃ b, runTo wrdB s a = b := ⟨_, rfl⟩
      rw [hb] at hbb hasc hR
      have hlen : ((s.take b).drop a).length < 140737488355328 := by simp only [List.length_drop, List.length_take]; omega
      rw [hR]
      (repeat' first | ((first | refine go rfl rfl ?_ | refine Cl.by_ (by (first | refine letter_v _ _ | refine digit_v _ _ | refine sign_v _ _ | refine word_v _ ha hs | refine Lower_v _ hasc hlen)) ?_ | (refine Fk.by_ ?_ ?_ <;> intro hc <;> try simp only [hc]) | refine storeK_eq rfl ?_ | with_reducible refine And.intro ?_ ?_ | fail) <;> try simp only [cells_tokV, h0, hx, hl, hb, hbb.1, hbb.2, push_cast, reduceIte, Nat.reduceEqDiff, reduceCtorEq, Nat.reduceAdd, Nat.reduceLeDiff, Nat.reduceBEq]))
      refine finB (hwf) (by simp only [F125, cells_tokV, push_cast, reduceIte, Nat.reduceEqDiff, reduceCtorEq, Nat.reduceAdd, Nat.reduceLeDiff, Nat.reduceBEq]; exact rfl) (by first | exact .inl rfl | (right; simp only [F125, cells_tokV, push_cast, reduceIte, Nat.reduceEqDiff, reduceCtorEq, Nat.reduceAdd, Nat.reduceLeDiff, Nat.reduceBEq]; try rfl)) (by first | rfl | assumption) (by simp) (by simp) (by (repeat first | exact (hwf).subm | exact (hwf).suba | refine Sub.drop (by simp) ?_)) (by (repeat first | exact (hwf).subm | exact (hwf).suba | refine Sub.drop (by simp) ?_)) (by (repeat first | exact (hwf).subx | refine ExSub.dropt (by simp) ?_ | refine ExSub.drop (by simp) ?_))
    | false =>
      rw [hl, if_neg Bool.false_ne_true] at hN hS
      cases hq : ((x.toNat : Int) == 34) with
      | true =>
        rw [hq, if_pos rfl] at hN hS
        have hqe : quoEnd s a = if atIs (isB 34) s (runTo plnB s (a + 1)) then ((runTo plnB s (a + 1) : Nat) : Int) + 1 else -1 := rfl
        cases hqq : atIs (isB 34) s (runTo plnB s (a + 1)) with
        | true =>
          have hql := atIs_lt hqq
          have := le_runTo (ok := plnB) (s := s) (i := a + 1)
          have hR := hS _ _ _ (by rw [hqq, if_pos rfl])
          rw [hqq, if_pos rfl] at hqe
          have hqe2 : quoEnd s a = ((runTo plnB s (a + 1) + 1 : Nat) : Int) := hqe
          obtain ⟨q, hq1⟩ : ∃ q, runTo plnB s (a + 1) + 1 = q := ⟨_, rfl⟩
          rw [hq1] at hqe2 hR
          have h5 : decide ((q : Int) < 0) = false := decide_eq_false (by omega)
          have h6 : a ≤ q := by omega
          have h7 : q ≤ s.length := by omega
          rw [hR]
          (repeat' first | ((first | refine go rfl rfl ?_ | refine Cl.by_ (by (first | refine letter_v _ _ | refine digit_v _ _ | refine sign_v _ _ | refine quoted_v _ hlt hs)) ?_ | (refine Fk.by_ ?_ ?_ <;> intro hc <;> try simp only [hc]) | refine storeK_eq rfl ?_ | with_reducible refine And.intro ?_ ?_ | fail) <;> try simp only [cells_tokV, h0, hx, hl, hq, hqe2, h5, h6, h7, push_cast, reduceIte, Nat.reduceEqDiff, reduceCtorEq, Nat.reduceAdd, Nat.reduceLeDiff, Nat.reduceBEq]))
          refine finB (hwf) (by simp only [F125, cells_tokV, push_cast, reduceIte, Nat.reduceEqDiff, reduceCtorEq, Nat.reduceAdd, Nat.reduceLeDiff, Nat.reduceBEq]; exact rfl) (by first | exact .inl rfl | (right; simp only [F125, cells_tokV, push_cast, reduceIte, Nat.reduceEqDiff, reduceCtorEq, Nat.reduceAdd, Nat.reduceLeDiff, Nat.reduceBEq]; try rfl)) (by first | rfl | assumption) (by simp) (by simp) (by (repeat first | exact (hwf).subm | exact (hwf).suba | refine Sub.drop (by simp) ?_)) (by (repeat first | exact (hwf).subm | exact (hwf).suba | refine Sub.drop (by simp) ?_)) (by (repeat first | exact (hwf).subx | refine ExSub.dropt (by simp) ?_ | refine ExSub.drop (by simp) ?_))
        | false =>
          have hR := hN (by rw [hqq, if_neg Bool.false_ne_true])
          rw [hqq, if_neg Bool.false_ne_true] at hqe
          rw [hR]
          have h5 : decide ((-1 : Int) < 0) = true := rfl
          (repeat' first | ((first | refine go rfl rfl ?_ | refine Cl.by_ (by (first | refine letter_v _ _ | refine digit_v _ _ | refine sign_v _ _ | refine quoted_v _ hlt hs)) ?_ | (refine Fk.by_ ?_ ?_ <;> intro hc <;> try simp only [hc]) | refine storeK_eq rfl ?_ | with_reducible refine And.intro ?_ ?_ | fail) <;> try simp only [cells_tokV, h0, hx, hl, hq, hqe, h5, push_cast, reduceIte, Nat.reduceEqDiff, reduceCtorEq, Nat.reduceAdd, Nat.reduceLeDiff, Nat.reduceBEq]))
          refine finB (hwf) (by simp only [F125, cells_tokV, push_cast, reduceIte, Nat.reduceEqDiff, reduceCtorEq, Nat.reduceAdd, Nat.reduceLeDiff, Nat.reduceBEq]; exact rfl) (by first | exact .inl rfl | (right; simp only [F125, cells_tokV, push_cast, reduceIte, Nat.reduceEqDiff, reduceCtorEq, Nat.reduceAdd, Nat.reduceLeDiff, Nat.reduceBEq]; try rfl)) (by first | rfl | assumption) (by simp) (by simp) (by (repeat first | exact (hwf).subm | exact (hwf).suba | refine Sub.drop (by simp) ?_)) (by (repeat first | exact (hwf).subm | exact (hwf).suba | refine Sub.drop (by simp) ?_)) (by (repeat first | exact (hwf).subx | refine ExSub.dropt (by simp) ?_ | refine ExSub.drop (by simp) ?_))
      | false =>
        rw [hq, if_neg Bool.false_ne_true] at hN hS
        cases hd : isDig x.toNat with
        | true =>
          have hne : lexAt s a = some (1, (s.take (numEnd s a)).drop a, numEnd s a) := by
            unfold lexAt numEnd
            rw [if_neg (by omega), e1, e2, e3, hl, hq, hd]
            simp only [Bool.false_eq_true, if_false, if_true]
            split <;> rfl
          obtain ⟨g1, g2, _⟩ := lexAt_bd ha hne
          have hR := hS _ _ _ (by
            have h := hne
            unfold lexAt at h
            rw [if_neg (by omega), e1, e2, e3, e4, hl, hq] at h
            simp only [Bool.false_eq_true, if_false] at h
            exact h)
          obtain ⟨d, hdd⟩ : ∃ d, numEnd s a = d := ⟨_, rfl⟩
          rw [hdd] at hR g1 g2
          have h5 : decide ((d : Int) < 0) = false := decide_eq_false (by omega)
          rw [hR]
          (repeat' first | ((first | refine go rfl rfl ?_ | refine Cl.by_ (by (first | refine letter_v _ _ | refine digit_v _ _ | refine sign_v _ _ | refine number_v _ ha hs)) ?_ | (refine Fk.by_ ?_ ?_ <;> intro hc <;> try simp only [hc]) | refine storeK_eq rfl ?_ | with_reducible refine And.intro ?_ ?_ | fail) <;> try simp only [cells_tokV, h0, hx, hl, hq, hd, hdd, h5, g1, g2, push_cast, reduceIte, Nat.reduceEqDiff, reduceCtorEq, Nat.reduceAdd, Nat.reduceLeDiff, Nat.reduceBEq]))
          refine finB (hwf) (by simp only [F125, cells_tokV, push_cast, reduceIte, Nat.reduceEqDiff, reduceCtorEq, Nat.reduceAdd, Nat.reduceLeDiff, Nat.reduceBEq]; exact rfl) (by first | exact .inl rfl | (right; simp only [F125, cells_tokV, push_cast, reduceIte, Nat.reduceEqDiff, reduceCtorEq, Nat.reduceAdd, Nat.reduceLeDiff, Nat.reduceBEq]; try rfl)) (by first | rfl | assumption) (by simp) (by simp) (by (repeat first | exact (hwf).subm | exact (hwf).suba | refine Sub.drop (by simp) ?_)) (by (repeat first | exact (hwf).subm | exact (hwf).suba | refine Sub.drop (by simp) ?_)) (by (repeat first | exact (hwf).subx | refine ExSub.dropt (by simp) ?_ | refine ExSub.drop (by simp) ?_))
        | false =>
          rw [hd, if_neg Bool.false_ne_true] at hN hS
          cases hg : isSgn x.toNat with
          | true =>
            have hR := hS _ _ _ (by rw [hg, if_pos rfl])
            obtain ⟨d, hdd⟩ : ∃ d, a + 1 = d := ⟨_, rfl⟩
            rw [hdd] at hR
            have hw2 : IntKind.i64.wrap ((a : Int) + 1) = (d : Int) := by rw [hw1]; omega
            have h5 : decide ((d : Int) < 0) = false := decide_eq_false (by omega)
            have h6 : a ≤ d := by omega
            have h7 : d ≤ s.length := by omega
            rw [hR]
            (repeat' first | ((first | refine go rfl rfl ?_ | refine Cl.by_ (by (first | refine letter_v _ _ | refine digit_v _ _ | refine sign_v _ _)) ?_ | (refine Fk.by_ ?_ ?_ <;> intro hc <;> try simp only [hc]) | refine storeK_eq rfl ?_ | with_reducible refine And.intro ?_ ?_ | fail) <;> try simp only [cells_tokV, h0, hx, hl, hq, hd, hg, hw2, h5, h6, h7, push_cast, reduceIte, Nat.reduceEqDiff, reduceCtorEq, Nat.reduceAdd, Nat.reduceLeDiff, Nat.reduceBEq]))
            refine finB (hwf) (by simp only [F125, cells_tokV, push_cast, reduceIte, Nat.reduceEqDiff, reduceCtorEq, Nat.reduceAdd, Nat.reduceLeDiff, Nat.reduceBEq]; exact rfl) (by first | exact .inl rfl | (right; simp only [F125, cells_tokV, push_cast, reduceIte, Nat.reduceEqDiff, reduceCtorEq, Nat.reduceAdd, Nat.reduceLeDiff, Nat.reduceBEq]; try rfl)) (by first | rfl | assumption) (by simp) (by simp) (by (repeat first | exact (hwf).subm | exact (hwf).suba | refine Sub.drop (by simp) ?_)) (by (repeat first | exact (hwf).subm | exact (hwf).suba | refine Sub.drop (by simp) ?_)) (by (repeat first | exact (hwf).subx | refine ExSub.dropt (by simp) ?_ | refine ExSub.drop (by simp) ?_))
          | false =>
            have hR := hN (by rw [hg, if_neg Bool.false_ne_true])
            have h5 : decide ((-1 : Int) < 0) = true := rfl
            rw [hR]
            (repeat' first | ((first | refine go rfl rfl ?_ | refine Cl.by_ (by (first | refine letter_v _ _ | refine digit_v _ _ | refine sign_v _ _)) ?_ | (refine Fk.by_ ?_ ?_ <;> intro hc <;> try simp only [hc]) | refine storeK_eq rfl ?_ | with_reducible refine And.intro ?_ ?_ | fail) <;> try simp only [cells_tokV, h0, hx, hl, hq, hd, hg, h5, push_cast, reduceIte, Nat.reduceEqDiff, reduceCtorEq, Nat.reduceAdd, Nat.reduceLeDiff, Nat.reduceBEq]))
            refine finB (hwf) (by simp only [F125, cells_tokV, push_cast, reduceIte, Nat.reduceEqDiff, reduceCtorEq, Nat.reduceAdd, Nat.reduceLeDiff, Nat.reduceBEq]; exact rfl) (by first | exact .inl rfl | (right; simp only [F125, cells_tokV, push_cast, reduceIte, Nat.reduceEqDiff, reduceCtorEq, Nat.reduceAdd, Nat.reduceLeDiff, Nat.reduceBEq]; try rfl)) (by first | rfl | assumption) (by simp) (by simp) (by (repeat first | exact (hwf).subm | exact (hwf).suba | refine Sub.drop (by simp) ?_)) (by (repeat first | exact (hwf).subm | exact (hwf).suba | refine Sub.drop (by simp) ?_)) (by (repeat first | exact (hwf).subx | refine ExSub.dropt (by simp) ?_ | refine ExSub.drop (by simp) ?_))
  · have hae : a = s.length := by omega
    have h0 : ((a : Int) == (s.length : Int)) = true := by simp [hae]
    have hR2 := hS _ _ _ (if_pos hae)
    rw [hR2]
    (repeat' first | ((first | refine go rfl rfl ?_ | (refine Fk.by_ ?_ ?_ <;> intro hc <;> try simp only [hc]) | refine storeK_eq rfl ?_ | with_reducible refine And.intro ?_ ?_ | fail) <;> try simp only [cells_tokV, h0, push_cast, reduceIte, Nat.reduceEqDiff, reduceCtorEq, Nat.reduceAdd, Nat.reduceLeDiff, Nat.reduceBEq]))
    refine finB (hwf) (by simp only [F125, cells_tokV, push_cast, reduceIte, Nat.reduceEqDiff, reduceCtorEq, Nat.reduceAdd, Nat.reduceLeDiff, Nat.reduceBEq]; exact rfl) (by first | exact .inl rfl | (right; simp only [F125, cells_tokV, push_cast, reduceIte, Nat.reduceEqDiff, reduceCtorEq, Nat.reduceAdd, Nat.reduceLeDiff, Nat.reduceBEq]; try rfl)) (by first | rfl | assumption) (by simp) (by simp) (by (repeat first | exact (hwf).subm | exact (hwf).suba | refine Sub.drop (by simp) ?_)) (by (repeat first | exact (hwf).subm | exact (hwf).suba | refine Sub.drop (by simp) ?_)) (by (repeat first | exact (hwf).subx | refine ExSub.dropt (by simp) ?_ | refine ExSub.drop (by simp) ?_))

theorem refScan_v (s : List UInt8) (st : St) : VRet Tryz.prog 67 [.str s] st (scanV (scanR s)) st := by
  refine VCalls_of F67_ok mixed (Nat.le_of_ble_eq_true rfl) (fun hwf => ?_)
  by_cases hl : 4096 < s.length
  · have hR : scanR s = ([], 0, 13) := if_pos hl
    have h0 : decide ((4096 : Int) < (s.length : Int)) = true := by simp; omega
    rw [hR]
    (repeat' first | ((first | refine go rfl rfl ?_ | (refine Fk.by_ ?_ ?_ <;> intro hc <;> try simp only [hc]) | refine storeK_eq rfl ?_ | with_reducible refine And.intro ?_ ?_ | fail) <;> try simp only [h0, push_cast, reduceIte, Nat.reduceEqDiff, reduceCtorEq, Nat.reduceAdd, Nat.reduceLeDiff, Nat.reduceBEq]))
    refine finB (hwf) (by simp only [F67, scanV, push_cast, reduceIte, Nat.reduceEqDiff, reduceCtorEq, Nat.reduceAdd, Nat.reduceLeDiff, Nat.reduceBEq]; exact rfl) (by first | exact .inl rfl | (right; simp only [F67, scanV, push_cast, reduceIte, Nat.reduceEqDiff, reduceCtorEq, Nat.reduceAdd, Nat.reduceLeDiff, Nat.reduceBEq]; try rfl)) (by first | rfl | assumption) (by simp) (by simp) (by (repeat first | exact (hwf).subm | exact (hwf).suba | refine Sub.drop (by simp) ?_)) (by (repeat first | exact (hwf).subm | exact (hwf).suba | refine Sub.drop (by simp) ?_)) (by (repeat first | exact (hwf).subx | refine ExSub.dropt (by simp) ?_ | refine ExSub.drop (by simp) ?_))
  · have hR : scanR s = scanG (s.length + 1) s 0 [] := if_neg hl
    have hs : s.length < 140737488355328 := by omega
    have h0 : decide ((4096 : Int) < (s.length : Int)) = false := by simp; omega
    obtain ⟨R, hRR⟩ : ∃ R, scanR s = R := ⟨_, rfl⟩
    rw [hRR]
    rw [hRR] at hR
    (repeat' first | ((first | refine go rfl rfl ?_ | (refine Fk.by_ ?_ ?_ <;> intro hc <;> try simp only [hc]) | refine storeK_eq rfl ?_ | with_reducible refine And.intro ?_ ?_ | fail) <;> try simp only [h0, push_cast, reduceIte, Nat.reduceEqDiff, reduceCtorEq, Nat.reduceAdd, Nat.reduceLeDiff, Nat.reduceBEq]))
    refine WT_own 111 3 (t := 5) rfl ?_
    refine WT_loop rfl (fun n e z => ∃ f i acc, n = s.length - i ∧ i ≤ s.length ∧ s.length - i < f ∧ acc.length ≤ 256 ∧ R = scanG f s i acc ∧ e = [(6, .int .i64 (i : Int)), (5, .osl st.nx acc.length), (0, .str s)] ∧
      z = ⟨st.nx + 1, st.mem, (st.nx, ⟨111, 3, acc.map tkV, false, false⟩) :: st.arr, st.x⟩) (st.nx + 1) (Nat.le_refl _) (by rintro _ _ _ ⟨_, _, _, _, _, _, _, _, _, rfl⟩; rfl)
      ⟨_, _, _, ⟨s.length + 1, 0, [], rfl, Nat.zero_le _, by omega, by simp, hR, rfl, rfl⟩, (by repeat first | exact .nil | refine .cons (by first | rfl | (simp [V.bd, V.bdL]; try first | omega | assumption)) (by first | rfl | simp only [push_cast, reduceIte, Nat.reduceEqDiff, reduceCtorEq, Nat.reduceAdd, Nat.reduceLeDiff, Nat.reduceBEq]) ?_), .refl (hwf.newA rfl)⟩ ?_
    rintro n e z ⟨f, i, acc, rfl, hi, hf, hac, hR, rfl, rfl⟩
    cases f with
    | zero => omega
    | succ f =>
    rw [scanG] at hR
    obtain ⟨a, ha⟩ : ∃ a, runTo (isB 32) s i = a := ⟨_, rfl⟩
    have hal : a ≤ s.length := by rw [← ha]; exact runTo_le hi
    have hia : i ≤ a := by rw [← ha]; exact le_runTo
    rw [ha] at hR
    have hle : decide ((i : Int) ≤ (s.length : Int)) = true := decide_eq_true (by omega)
    have key : ∀ j : Nat, j = a → WT Tryz.prog F67.N F67.T 35 [(6, .int .i64 (j : Int)), (5, .osl st.nx acc.length), (0, .str s)] ⟨st.nx + 1, st.mem, (st.nx, ⟨111, 3, acc.map tkV, false, false⟩) :: st.arr, st.x⟩
      (blockPost 1 (seqPost (Again (st.nx + 1) (fun n e z => ∃ f i acc, n = s.length - i ∧ i ≤ s.length ∧ s.length - i < f ∧ acc.length ≤ 256 ∧ R = scanG f s i acc ∧ e = [(6, .int .i64 (i : Int)), (5, .osl st.nx acc.length), (0, .str s)] ∧
      z = ⟨st.nx + 1, st.mem, (st.nx, ⟨111, 3, acc.map tkV, false, false⟩) :: st.arr, st.x⟩) (s.length - i)) (blockPost 0 (seqT Tryz.prog F67.N F67.T 64 (finQ F67.res st.nx fun x z => x = .ret (scanV R) ∧ z = st))))) := by
      intro j ej
      rw [ej]
      clear ej
      cases h : lexAt s a with
      | none =>
        have ht : refTok s a = .tup [tokV 0 [] 0, .int .i64 (-1)] := by rw [refTok, h]
        have h5 : decide ((-1 : Int) < 0) = true := rfl
        rw [h] at hR
        subst hR
        (repeat' first | ((first | refine go rfl rfl ?_ | refine Cl.by_ (by (first | refine Token_v _ hal hs)) ?_ | (refine Fk.by_ ?_ ?_ <;> intro hc <;> try simp only [hc]) | refine storeK_eq rfl ?_ | with_reducible refine And.intro ?_ ?_ | fail) <;> try simp only [ht, cells_tokV, h5, push_cast, reduceIte, Nat.reduceEqDiff, reduceCtorEq, Nat.reduceAdd, Nat.reduceLeDiff, Nat.reduceBEq]))
        refine finB (hwf) (by simp only [F67, scanV, push_cast, reduceIte, Nat.reduceEqDiff, reduceCtorEq, Nat.reduceAdd, Nat.reduceLeDiff, Nat.reduceBEq]; exact rfl) (by first | exact .inl rfl | (right; simp only [F67, scanV, push_cast, reduceIte, Nat.reduceEqDiff, reduceCtorEq, Nat.reduceAdd, Nat.reduceLeDiff, Nat.reduceBEq]; try rfl)) (by first | rfl | assumption) (by simp) (by simp) (by (repeat first | exact (hwf).subm | exact (hwf).suba | refine Sub.drop (by simp) ?_)) (by (repeat first | exact (hwf).subm | exact (hwf).suba | refine Sub.drop (by simp) ?_)) (by (repeat first | exact (hwf).subx | refine ExSub.dropt (by simp) ?_ | refine ExSub.drop (by simp) ?_))
      | some r =>
        obtain ⟨k, t, e⟩ := r
        have ht : refTok s a = .tup [tokV k t a, .int .i64 (e : Int)] := by rw [refTok, h]
        have h5 : decide ((e : Int) < 0) = false := decide_eq_false (by omega)
        simp only [h] at hR
        by_cases hn : acc.length = 256
        · rw [if_pos hn] at hR
          subst hR
          have h1 : ((acc.length : Int) == 256) = true := by simp; omega
          (repeat' first | ((first | refine go rfl rfl ?_ | refine Cl.by_ (by (first | refine Token_v _ hal hs)) ?_ | (refine Fk.by_ ?_ ?_ <;> intro hc <;> try simp only [hc]) | refine storeK_eq rfl ?_ | with_reducible refine And.intro ?_ ?_ | fail) <;> try simp only [ht, cells_tokV, h1, h5, push_cast, reduceIte, Nat.reduceEqDiff, reduceCtorEq, Nat.reduceAdd, Nat.reduceLeDiff, Nat.reduceBEq]))
          refine finB (hwf) (by simp only [F67, scanV, push_cast, reduceIte, Nat.reduceEqDiff, reduceCtorEq, Nat.reduceAdd, Nat.reduceLeDiff, Nat.reduceBEq]; exact rfl) (by first | exact .inl rfl | (right; simp only [F67, scanV, push_cast, reduceIte, Nat.reduceEqDiff, reduceCtorEq, Nat.reduceAdd, Nat.reduceLeDiff, Nat.reduceBEq]; try rfl)) (by first | rfl | assumption) (by simp) (by simp) (by (repeat first | exact (hwf).subm | exact (hwf).suba | refine Sub.drop (by simp) ?_)) (by (repeat first | exact (hwf).subm | exact (hwf).suba | refine Sub.drop (by simp) ?_)) (by (repeat first | exact (hwf).subx | refine ExSub.dropt (by simp) ?_ | refine ExSub.drop (by simp) ?_))
        · rw [if_neg hn] at hR
          have h1 : ((acc.length : Int) == 256) = false := by simp; omega
          by_cases hk : k = 3
          · rw [if_pos hk] at hR
            subst hR
            have h2 : (k == 3) = true := by simp [hk]
            have hrm : roomV (acc.length + 1) 32 = true := by simp [roomV, maxLen]; omega
            have hbr : V.bd st.nx (scanV (acc ++ [⟨k, t, (a : Int)⟩], 0, 0)) = true := by
              simp only [scanV, V.bd, V.bdL, bdL_tk]; rfl
            (repeat' first | ((first | refine go rfl rfl ?_ | refine Cl.by_ (by (first | refine Token_v _ hal hs)) ?_ | (refine Fk.by_ ?_ ?_ <;> intro hc <;> try simp only [hc]) | refine storeK_eq rfl ?_ | with_reducible refine And.intro ?_ ?_ | fail) <;> try simp only [ht, cells_tokV, app_tk, h1, h2, h5, hrm, push_cast, reduceIte, Nat.reduceEqDiff, reduceCtorEq, Nat.reduceAdd, Nat.reduceLeDiff, Nat.reduceBEq]))
            refine finB (hwf) (by simp only [F67, scanV, push_cast, reduceIte, Nat.reduceEqDiff, reduceCtorEq, Nat.reduceAdd, Nat.reduceLeDiff, Nat.reduceBEq]; exact rfl) (by first | exact .inl rfl | (right; simp only [F67, scanV, push_cast, reduceIte, Nat.reduceEqDiff, reduceCtorEq, Nat.reduceAdd, Nat.reduceLeDiff, Nat.reduceBEq]; try rfl)) (by first | rfl | assumption) (by simp) (by simp) (by (repeat first | exact (hwf).subm | exact (hwf).suba | refine Sub.drop (by simp) ?_)) (by (repeat first | exact (hwf).subm | exact (hwf).suba | refine Sub.drop (by simp) ?_)) (by (repeat first | exact (hwf).subx | refine ExSub.dropt (by simp) ?_ | refine ExSub.drop (by simp) ?_))
          · rw [if_neg hk] at hR
            have h2 : (k == 3) = false := by simp [hk]
            have hrm : roomV (acc.length + 1) 32 = true := by simp [roomV, maxLen]; omega
            (repeat' first | ((first | refine go rfl rfl ?_ | refine Cl.by_ (by (first | refine Token_v _ hal hs)) ?_ | (refine Fk.by_ ?_ ?_ <;> intro hc <;> try simp only [hc]) | refine storeK_eq rfl ?_ | with_reducible refine And.intro ?_ ?_ | fail) <;> try simp only [ht, cells_tokV, app_tk, h1, h2, h5, hrm, push_cast, reduceIte, Nat.reduceEqDiff, reduceCtorEq, Nat.reduceAdd, Nat.reduceLeDiff, Nat.reduceBEq]))
            obtain ⟨g1, g2, g3⟩ := lexAt_bd hal h
            have := g3 hk
            exact ⟨_, _, _, by omega, ⟨f, e, acc ++ [⟨k, t, (a : Int)⟩], rfl, by omega, by omega, by simp; omega, hR, rfl, rfl⟩, (by repeat first | exact .nil | refine .cons (by first | rfl | (simp [V.bd, V.bdL]; try first | omega | assumption)) (by first | rfl | simp only [push_cast, reduceIte, Nat.reduceEqDiff, reduceCtorEq, Nat.reduceAdd, Nat.reduceLeDiff, Nat.reduceBEq]) ?_), Weak.wf rfl (by simp) (by (repeat first | exact (hwf.newA (bdL_tk)).subm | exact (hwf.newA (bdL_tk)).suba | refine Sub.drop (by simp) ?_)) (by (repeat first | exact (hwf.newA (bdL_tk)).subm | exact (hwf.newA (bdL_tk)).suba | refine Sub.drop (by simp) ?_)) (by (repeat first | exact (hwf.newA (bdL_tk)).subx | refine ExSub.dropt (by simp) ?_ | refine ExSub.drop (by simp) ?_)) (hwf.newA (bdL_tk))⟩
    (repeat' first | ((first | refine go rfl rfl ?_ | (refine Fk.by_ ?_ ?_ <;> intro hc <;> try simp only [hc]) | refine storeK_eq rfl ?_ | with_reducible refine And.intro ?_ ?_ | fail) <;> try simp only [hle, push_cast, reduceIte, Nat.reduceEqDiff, reduceCtorEq, Nat.reduceAdd, Nat.reduceLeDiff, Nat.reduceBEq]))
    refine WT_loop rfl (fun n e z => ∃ j : Nat, n = s.length - j ∧ j ≤ s.length ∧ runTo (isB 32) s j = a ∧ e = [(6, .int .i64 (j : Int)), (5, .osl st.nx acc.length), (0, .str s)] ∧ z = ⟨st.nx + 1, st.mem, (st.nx, ⟨111, 3, acc.map tkV, false, false⟩) :: st.arr, st.x⟩) (st.nx + 1) (Nat.le_refl _) (by rintro _ _ _ ⟨j, _, _, _, _, rfl⟩; rfl)
      ⟨_, _, _, ⟨i, rfl, hi, ha, rfl, rfl⟩, (by repeat first | exact .nil | refine .cons (by first | rfl | (simp [V.bd, V.bdL]; try first | omega | assumption)) (by first | rfl | simp only [push_cast, reduceIte, Nat.reduceEqDiff, reduceCtorEq, Nat.reduceAdd, Nat.reduceLeDiff, Nat.reduceBEq]) ?_), .refl (hwf.newA (bdL_tk))⟩ ?_
    rintro n e z ⟨j, rfl, hj, hr, rfl, rfl⟩
    rcases Nat.lt_or_ge j s.length with hlt | hge
    · obtain ⟨b, hb⟩ : ∃ b, s[j]? = some b := ⟨_, List.getElem?_eq_getElem hlt⟩
      have h1 : decide ((j : Int) < (s.length : Int)) = true := decide_eq_true (by omega)
      have hw : IntKind.i64.wrap ((j : Int) + 1) = (j : Int) + 1 := wrap64 (by omega) (by omega)
      have h5 : ∀ x, ((b.toNat : Int) == 32) = x → atIs (isB 32) s j = x := fun x h => by rw [atIs_some hb]; exact h
      (repeat' first | exact WT_env (by repeat first | exact .nil | refine .cons (by first | rfl | simp only [push_cast, reduceIte, Nat.reduceEqDiff, reduceCtorEq, Nat.reduceAdd, Nat.reduceLeDiff, Nat.reduceBEq]) ?_) (key j (by rw [← hr, runTo_stop (h5 false hc)])) | ((first | refine go rfl rfl ?_ | (refine Fk.by_ ?_ ?_ <;> intro hc <;> try simp only [hc]) | refine storeK_eq rfl ?_ | with_reducible refine And.intro ?_ ?_ | fail) <;> try simp only [h1, hb, hw, push_cast, reduceIte, Nat.reduceEqDiff, reduceCtorEq, Nat.reduceAdd, Nat.reduceLeDiff, Nat.reduceBEq]))
      exact ⟨_, _, _, by omega, ⟨j + 1, rfl, by omega, by rw [(runTo_go (h5 true hc)).1, hr], rfl, rfl⟩, (by repeat first | exact .nil | refine .cons (by first | rfl | (simp [V.bd, V.bdL]; try first | omega | assumption)) (by first | rfl | simp only [push_cast, reduceIte, Nat.reduceEqDiff, reduceCtorEq, Nat.reduceAdd, Nat.reduceLeDiff, Nat.reduceBEq]) ?_), .refl (hwf.newA (bdL_tk))⟩
    · have h1 : decide ((j : Int) < (s.length : Int)) = false := decide_eq_false (by omega)
      (repeat' first | exact WT_env (by repeat first | exact .nil | refine .cons (by first | rfl | simp only [push_cast, reduceIte, Nat.reduceEqDiff, reduceCtorEq, Nat.reduceAdd, Nat.reduceLeDiff, Nat.reduceBEq]) ?_) (key j (by rw [← hr, runTo_stop (atIs_none hge)])) | ((first | refine go rfl rfl ?_ | (refine Fk.by_ ?_ ?_ <;> intro hc <;> try simp only [hc]) | refine storeK_eq rfl ?_ | with_reducible refine And.intro ?_ ?_ | fail) <;> try simp only [h1, push_cast, reduceIte, Nat.reduceEqDiff, reduceCtorEq, Nat.reduceAdd, Nat.reduceLeDiff, Nat.reduceBEq]))
end Go.Proofs.YtnondemehfkalaaGreatDoor

set_option maxRecDepth 10000
namespace Go.Proofs.YtnondemehfkalaaGreatDoor
open Go.Sha

theorem take_succ_eq {α : Type} [DecidableEq α] {x y : List α} {j : Nat} {a b : α} (hx : x[j]? = some a) (hy : y[j]? = some b) (h : x.take j = y.take j) : x.take (j + 1) = y.take (j + 1) ↔ a = b := by
  rw [List.take_add_one, List.take_add_one, hx, hy, h]
  simp

def x1 : List UInt8 := [67, 104, 97, 110, 32, 53, 46, 49, 32, 64, 51, 55, 46, 53]
def x2 : List UInt8 := [49, 46, 120, 32, 34, 97, 32, 98, 34]
def x3 : List UInt8 := [51, 32, 35, 32, 52]
def w1 : List Tok := [⟨0, [99, 104, 97, 110], 0⟩, ⟨1, [53, 46, 49], 5⟩, ⟨2, [64], 9⟩, ⟨1, [51, 55, 46, 53], 10⟩, ⟨3, [], 14⟩]
def w2 : List Tok := [⟨1, [49], 0⟩, ⟨2, [46], 1⟩, ⟨0, [120], 2⟩, ⟨0, [34, 97, 32, 98, 34], 4⟩, ⟨3, [], 9⟩]
theorem ex1 : scanR x1 = (w1, 0, 0) := by kernel_rfl
theorem ex2 : scanR x2 = (w2, 0, 0) := by kernel_rfl
theorem ex3 : scanR x3 = ([], 2, 4) := by kernel_rfl

theorem scanG_len : ∀ (f : Nat) (s : List UInt8) (i : Nat) (acc : List Tok), acc.length ≤ 256 → (scanG f s i acc).1.length ≤ 256
  | 0, _, _, _, _ => Nat.zero_le _
  | f + 1, s, i, acc, h => by
    rw [scanG]
    split
    · exact Nat.zero_le _
    · split
      · exact Nat.zero_le _
      · split
        · simp; omega
        · exact scanG_len f s _ _ (by simp; omega)
theorem scanR_len (s : List UInt8) : (scanR s).1.length ≤ 256 := by
  unfold scanR
  split
  · exact Nat.zero_le _
  · exact scanG_len _ _ _ _ (Nat.zero_le _)

end Go.Proofs.YtnondemehfkalaaGreatDoor

set_option maxRecDepth 10000
namespace Go.Proofs.YtnondemehfkalaaGreatDoor
open Go.Sha

/-- The only token of a text: what it is, and whether it is the whole text. -/
def oneR (s : List UInt8) : V × Bool := match lexAt s (runTo (isB 32) s 0) with
  | some (k, t, e) => (tokV k t (runTo (isB 32) s 0), ((runTo (isB 32) s 0 : Nat) : Int) == 0 && ((e : Int) == (s.length : Int) && k != 3))
  | none => (tokV 0 [] 0, false)

theorem one_v (s : List UInt8) (st : St) (hs : s.length < 140737488355328) : VRet Tryz.prog 221 [.str s] st (.tup [(oneR s).1, .bool (oneR s).2]) st := by
  refine VCalls_of F221_ok mixed (Nat.le_of_ble_eq_true rfl) (fun hwf => ?_)
  unfold oneR
  obtain ⟨a, ha⟩ : ∃ a, runTo (isB 32) s 0 = a := ⟨_, rfl⟩
  rw [ha]
  have hm : ∀ z : List V, Sha.look ((st.nx + 1, [V.str s, .int .i64 ((0 : Nat) : Int)]) :: (st.nx, z) :: st.mem) (st.nx + 1) = some [.str s, .int .i64 ((0 : Nat) : Int)] := fun z => by simp [Sha.look]
  cases h : lexAt s a with
  | none =>
    have ht : tokR s 0 = (.tup [tokV 0 [] 0, .bool false], a) := by rw [tokR, ha, h]
    (repeat' first | ((first | refine go rfl rfl ?_ | refine Cl.by_ (by (first | refine token_v (i := 0) (hm _) (Nat.zero_le _) hs)) ?_ | (refine Fk.by_ ?_ ?_ <;> intro hc <;> try simp only [hc]) | refine storeK_eq rfl ?_ | with_reducible refine And.intro ?_ ?_ | fail) <;> try simp only [cells_tokV, ht, push_cast, reduceIte, Nat.reduceEqDiff, reduceCtorEq, Nat.reduceAdd, Nat.reduceLeDiff, Nat.reduceBEq]))
    refine finB (hwf) (by simp only [F221, cells_tokV, push_cast, reduceIte, Nat.reduceEqDiff, reduceCtorEq, Nat.reduceAdd, Nat.reduceLeDiff, Nat.reduceBEq]; exact rfl) (by first | exact .inl rfl | (right; simp only [F221, cells_tokV, push_cast, reduceIte, Nat.reduceEqDiff, reduceCtorEq, Nat.reduceAdd, Nat.reduceLeDiff, Nat.reduceBEq]; try rfl)) (by first | rfl | assumption) (by simp) (by simp) (by (repeat first | exact (hwf).subm | exact (hwf).suba | refine Sub.drop (by simp) ?_)) (by (repeat first | exact (hwf).subm | exact (hwf).suba | refine Sub.drop (by simp) ?_)) (by (repeat first | exact (hwf).subx | refine ExSub.dropt (by simp) ?_ | refine ExSub.drop (by simp) ?_))
  | some r =>
    obtain ⟨k, t, e⟩ := r
    have ht : tokR s 0 = (.tup [tokV k t a, .bool true], e) := by rw [tokR, ha, h]
    cases h1 : ((a : Int) == 0) with
    | false =>
      (repeat' first | ((first | refine go rfl rfl ?_ | refine Cl.by_ (by (first | refine token_v (i := 0) (hm _) (Nat.zero_le _) hs)) ?_ | (refine Fk.by_ ?_ ?_ <;> intro hc <;> try simp only [hc]) | refine storeK_eq rfl ?_ | with_reducible refine And.intro ?_ ?_ | fail) <;> try simp only [cells_tokV, ht, h1, push_cast, reduceIte, Nat.reduceEqDiff, reduceCtorEq, Nat.reduceAdd, Nat.reduceLeDiff, Nat.reduceBEq]))
      refine finB (hwf) (by simp only [F221, cells_tokV, push_cast, reduceIte, Nat.reduceEqDiff, reduceCtorEq, Nat.reduceAdd, Nat.reduceLeDiff, Nat.reduceBEq]; exact rfl) (by first | exact .inl rfl | (right; simp only [F221, cells_tokV, push_cast, reduceIte, Nat.reduceEqDiff, reduceCtorEq, Nat.reduceAdd, Nat.reduceLeDiff, Nat.reduceBEq]; try rfl)) (by first | rfl | assumption) (by simp) (by simp) (by (repeat first | exact (hwf).subm | exact (hwf).suba | refine Sub.drop (by simp) ?_)) (by (repeat first | exact (hwf).subm | exact (hwf).suba | refine Sub.drop (by simp) ?_)) (by (repeat first | exact (hwf).subx | refine ExSub.dropt (by simp) ?_ | refine ExSub.drop (by simp) ?_))
    | true =>
      cases h2 : ((e : Int) == (s.length : Int)) with
      | false =>
        (repeat' first | ((first | refine go rfl rfl ?_ | refine Cl.by_ (by (first | refine token_v (i := 0) (hm _) (Nat.zero_le _) hs)) ?_ | (refine Fk.by_ ?_ ?_ <;> intro hc <;> try simp only [hc]) | refine storeK_eq rfl ?_ | with_reducible refine And.intro ?_ ?_ | fail) <;> try simp only [cells_tokV, ht, h1, h2, push_cast, reduceIte, Nat.reduceEqDiff, reduceCtorEq, Nat.reduceAdd, Nat.reduceLeDiff, Nat.reduceBEq]))
        refine finB (hwf) (by simp only [F221, cells_tokV, push_cast, reduceIte, Nat.reduceEqDiff, reduceCtorEq, Nat.reduceAdd, Nat.reduceLeDiff, Nat.reduceBEq]; exact rfl) (by first | exact .inl rfl | (right; simp only [F221, cells_tokV, push_cast, reduceIte, Nat.reduceEqDiff, reduceCtorEq, Nat.reduceAdd, Nat.reduceLeDiff, Nat.reduceBEq]; try rfl)) (by first | rfl | assumption) (by simp) (by simp) (by (repeat first | exact (hwf).subm | exact (hwf).suba | refine Sub.drop (by simp) ?_)) (by (repeat first | exact (hwf).subm | exact (hwf).suba | refine Sub.drop (by simp) ?_)) (by (repeat first | exact (hwf).subx | refine ExSub.dropt (by simp) ?_ | refine ExSub.drop (by simp) ?_))
      | true =>
        (repeat' first | ((first | refine go rfl rfl ?_ | refine Cl.by_ (by (first | refine token_v (i := 0) (hm _) (Nat.zero_le _) hs)) ?_ | (refine Fk.by_ ?_ ?_ <;> intro hc <;> try simp only [hc]) | refine storeK_eq rfl ?_ | with_reducible refine And.intro ?_ ?_ | fail) <;> try simp only [cells_tokV, ht, h1, h2, push_cast, reduceIte, Nat.reduceEqDiff, reduceCtorEq, Nat.reduceAdd, Nat.reduceLeDiff, Nat.reduceBEq]))
        refine finB (hwf) (by simp only [F221, cells_tokV, push_cast, reduceIte, Nat.reduceEqDiff, reduceCtorEq, Nat.reduceAdd, Nat.reduceLeDiff, Nat.reduceBEq]; exact rfl) (by first | exact .inl rfl | (right; simp only [F221, cells_tokV, push_cast, reduceIte, Nat.reduceEqDiff, reduceCtorEq, Nat.reduceAdd, Nat.reduceLeDiff, Nat.reduceBEq]; try rfl)) (by first | rfl | assumption) (by simp) (by simp) (by (repeat first | exact (hwf).subm | exact (hwf).suba | refine Sub.drop (by simp) ?_)) (by (repeat first | exact (hwf).subm | exact (hwf).suba | refine Sub.drop (by simp) ?_)) (by (repeat first | exact (hwf).subx | refine ExSub.dropt (by simp) ?_ | refine ExSub.drop (by simp) ?_))

def quoR (s : List UInt8) : V := if runTo plnB s 0 < s.length then .tup [.str [], .int .i64 3] else .tup [.str (34 :: (s ++ [34])), .int .i64 0]

def unqR (s : List UInt8) : V := if atIs (isB 34) s 0 = true ∧ quoEnd s 0 = s.length then .tup [.str ((s.take (s.length - 1)).drop 1), .int .i64 0] else .tup [.str [], .int .i64 3]

theorem one_quote {s : List UInt8} (h : atIs (isB 34) s 0 = true) : oneR s = if quoEnd s 0 = s.length then (tokV 0 s 0, true) else if quoEnd s 0 = -1 then (tokV 0 [] 0, false) else (tokV 0 (s.take (quoEnd s 0).toNat) 0, false) := by
  have hb : runTo (isB 32) s 0 = 0 := by
    refine runTo_stop ?_
    unfold atIs at h ⊢
    cases hs : s[0]? with
    | none => rfl
    | some b => rw [hs] at h; simp only [isB, beq_iff_eq] at h ⊢; simp; omega
  have hl : atIs letB s 0 = false := by
    unfold atIs at h ⊢
    cases hs : s[0]? with
    | none => rfl
    | some b => rw [hs] at h; simp only [isB, letB, isLet, beq_iff_eq] at h ⊢; simp; omega
  have hlt := atIs_lt h
  unfold oneR
  rw [hb]
  unfold lexAt quoEnd
  rw [if_neg (by omega), hl, h]
  simp only [Bool.false_eq_true, if_false, if_true]
  cases hq : atIs (isB 34) s (runTo plnB s (0 + 1)) with
  | false =>
    simp only [Bool.false_eq_true, if_false]
    rw [if_neg (by omega)]; simp
  | true =>
    simp only [if_true]
    have := atIs_lt hq
    split
    · rename_i he
      have e1 : runTo plnB s (0 + 1) + 1 = s.length := by omega
      rw [e1, List.take_length]
      simp
    · rename_i he
      rw [if_neg (by omega)]
      have e2 : ((runTo plnB s (0 + 1) : Int) + 1).toNat = runTo plnB s (0 + 1) + 1 := by omega
      rw [e2]
      have e3 : (((runTo plnB s (0 + 1) + 1 : Nat) : Int) == (s.length : Int)) = false := by simp; omega
      rw [e3]
      simp

theorem oneR_ex (s : List UInt8) : ∃ k t a b, oneR s = (tokV k t a, b) ∧ (b = true → a = 0 ∧ k ≠ 3 ∧ runTo (isB 32) s 0 = 0 ∧ lexAt s 0 = some (k, t, s.length)) := by
  unfold oneR
  cases h : lexAt s (runTo (isB 32) s 0) with
  | none => exact ⟨_, _, _, _, rfl, fun h => by cases h⟩
  | some r =>
    obtain ⟨k, t, e⟩ := r
    refine ⟨_, _, _, _, rfl, fun h2 => ?_⟩
    simp only [Bool.and_eq_true, beq_iff_eq, bne_iff_ne] at h2
    obtain ⟨h3, h4, h5⟩ := h2
    have e1 : runTo (isB 32) s 0 = 0 := by omega
    have e2 : e = s.length := by omega
    rw [e1, e2] at h
    exact ⟨e1, h5, e1, h⟩

theorem lexAt_nil : lexAt [] 0 = some (3, [], 0) := rfl

theorem one_ne {s : List UInt8} {k : Int} {t : List UInt8} (h : lexAt s 0 = some (k, t, s.length)) (hk : k ≠ 3) : s ≠ [] := by
  rintro rfl
  rw [lexAt_nil] at h
  cases h
  exact hk rfl

end Go.Proofs.YtnondemehfkalaaGreatDoor

set_option maxRecDepth 10000
namespace Go.Proofs.YtnondemehfkalaaGreatDoor
open Go.Sha

def IsWord (s : List UInt8) : Prop := atIs letB s 0 = true ∧ runTo wrdB s 0 = s.length ∧ s.map lowB = s
def IsNumber (s : List UInt8) : Prop := atIs digB s 0 = true ∧ numEnd s 0 = s.length
open Classical in
noncomputable def wordN (s : List UInt8) : Int := if IsWord s then (if 24 < s.length then 13 else 0) else 8
open Classical in
noncomputable def numN (s : List UInt8) : Int := if IsNumber s then 0 else 3

theorem noBlank {ok : UInt8 → Bool} {s : List UInt8} (h : atIs ok s 0 = true) (hok : ∀ b, ok b = true → isB 32 b = false) : runTo (isB 32) s 0 = 0 := by
  refine runTo_stop ?_
  unfold atIs at h ⊢
  cases hs : s[0]? with
  | none => rfl
  | some b => rw [hs] at h; exact hok b h
theorem letB_32 (b : UInt8) (h : letB b = true) : isB 32 b = false := by
  simp only [letB, isLet, isB] at h ⊢; simp at h ⊢; omega
theorem digB_32 (b : UInt8) (h : digB b = true) : isB 32 b = false := by
  simp only [digB, isDig, isB] at h ⊢; simp at h ⊢; omega
theorem atIs_not {ok ok' : UInt8 → Bool} {s : List UInt8} (h : atIs ok s 0 = true) (hok : ∀ b, ok b = true → ok' b = false) : atIs ok' s 0 = false := by
  unfold atIs at h ⊢
  cases hs : s[0]? with
  | none => rfl
  | some b => rw [hs] at h; exact hok b h

theorem one_word {s : List UInt8} (h : IsWord s) : oneR s = (tokV 0 s 0, true) := by
  obtain ⟨h1, h2, h3⟩ := h
  have := atIs_lt h1
  unfold oneR
  rw [noBlank h1 letB_32]
  unfold lexAt
  rw [if_neg (by omega), h1, h2]
  simp [h3]

theorem word_of {s : List UInt8} {t : List UInt8} (h : lexAt s 0 = some (0, t, s.length)) (ht : t = s) (hq : atIs (isB 34) s 0 = false) : IsWord s := by
  unfold lexAt at h
  split at h
  · cases h
  · split at h
    · rename_i h1
      simp only [Option.some.injEq, Prod.mk.injEq, true_and, List.drop_zero] at h
      obtain ⟨h2, h3⟩ := h
      rw [h3, List.take_length] at h2
      exact ⟨h1, h3, h2.trans ht⟩
    · rw [hq] at h
      simp only [Bool.false_eq_true, if_false] at h
      split at h
      · split at h <;> simp at h
      · split at h <;> simp at h

theorem one_number {s : List UInt8} (h : IsNumber s) : oneR s = (tokV 1 s 0, true) := by
  obtain ⟨h1, h2⟩ := h
  have := atIs_lt h1
  unfold oneR
  rw [noBlank h1 digB_32]
  have hl : lexAt s 0 = some (1, s, s.length) := by
    unfold lexAt numEnd at *
    rw [if_neg (by omega), atIs_not h1 (ok' := letB) (fun b hb => by simp only [digB, isDig, letB, isLet] at hb ⊢; simp at hb ⊢; omega), atIs_not h1 (ok' := isB 34) (fun b hb => by simp only [digB, isDig, isB] at hb ⊢; simp at hb ⊢; omega), h1]
    simp only [Bool.false_eq_true, if_false, if_true]
    split at h2
    · rename_i hd; rw [if_pos hd, h2]; simp
    · rename_i hd; rw [if_neg hd, h2]; simp
  rw [hl]
  simp

theorem number_of {s : List UInt8} {t : List UInt8} (h : lexAt s 0 = some (1, t, s.length)) : IsNumber s := by
  unfold lexAt at h
  split at h
  · simp at h
  · split at h
    · simp at h
    · split at h
      · split at h <;> simp at h
      · split at h
        · rename_i h1
          refine ⟨h1, ?_⟩
          unfold numEnd
          split at h
          · rename_i h2
            rw [if_pos h2]; simp at h; exact h.2
          · rename_i h2
            rw [if_neg h2]; simp at h; exact h.2
        · split at h <;> simp at h

theorem Word_v (s : List UInt8) (st : St) (hs : s.length < 140737488355328) : VRet Tryz.prog 207 [.str s] st (.int .i64 (wordN s)) st := by
  refine VCalls_of F207_ok mixed (Nat.le_of_ble_eq_true rfl) (fun hwf => ?_)
  by_cases h : IsWord s
  · have ho := one_word h
    obtain ⟨x, hx⟩ : ∃ x, s[0]? = some x := ⟨_, List.getElem?_eq_getElem (atIs_lt h.1)⟩
    have hx2 : ((x.toNat : Int) == 34) = false := by have := atIs_not h.1 (ok' := isB 34) (fun b hb => by simp only [letB, isLet, isB] at hb ⊢; simp at hb ⊢; omega); rw [atIs_some hx] at this; exact this
    have hk : ((0 : Int) != 0) = false := rfl
    have ht : (s != s) = false := by simp
    have hw : wordN s = if 24 < s.length then 13 else 0 := if_pos h
    by_cases hl : 24 < s.length
    · have h0 : decide ((24 : Int) < (s.length : Int)) = true := decide_eq_true (by omega)
      rw [hw, if_pos hl]
      (repeat' first | ((first | refine go rfl rfl ?_ | refine Cl.by_ (by (first | refine one_v _ _ hs)) ?_ | (refine Fk.by_ ?_ ?_ <;> intro hc <;> try simp only [hc]) | refine storeK_eq rfl ?_ | with_reducible refine And.intro ?_ ?_ | fail) <;> try simp only [cells_tokV, ho, hx, hx2, hk, ht, h0, push_cast, reduceIte, Nat.reduceEqDiff, reduceCtorEq, Nat.reduceAdd, Nat.reduceLeDiff, Nat.reduceBEq]))
      refine finB (hwf) (by simp only [F207, push_cast, reduceIte, Nat.reduceEqDiff, reduceCtorEq, Nat.reduceAdd, Nat.reduceLeDiff, Nat.reduceBEq]; exact rfl) (by first | exact .inl rfl | (right; simp only [F207, push_cast, reduceIte, Nat.reduceEqDiff, reduceCtorEq, Nat.reduceAdd, Nat.reduceLeDiff, Nat.reduceBEq]; try rfl)) (by first | rfl | assumption) (by simp) (by simp) (by (repeat first | exact (hwf).subm | exact (hwf).suba | refine Sub.drop (by simp) ?_)) (by (repeat first | exact (hwf).subm | exact (hwf).suba | refine Sub.drop (by simp) ?_)) (by (repeat first | exact (hwf).subx | refine ExSub.dropt (by simp) ?_ | refine ExSub.drop (by simp) ?_))
    · have h0 : decide ((24 : Int) < (s.length : Int)) = false := decide_eq_false (by omega)
      rw [hw, if_neg hl]
      (repeat' first | ((first | refine go rfl rfl ?_ | refine Cl.by_ (by (first | refine one_v _ _ hs)) ?_ | (refine Fk.by_ ?_ ?_ <;> intro hc <;> try simp only [hc]) | refine storeK_eq rfl ?_ | with_reducible refine And.intro ?_ ?_ | fail) <;> try simp only [cells_tokV, ho, hx, hx2, hk, ht, h0, push_cast, reduceIte, Nat.reduceEqDiff, reduceCtorEq, Nat.reduceAdd, Nat.reduceLeDiff, Nat.reduceBEq]))
      refine finB (hwf) (by simp only [F207, push_cast, reduceIte, Nat.reduceEqDiff, reduceCtorEq, Nat.reduceAdd, Nat.reduceLeDiff, Nat.reduceBEq]; exact rfl) (by first | exact .inl rfl | (right; simp only [F207, push_cast, reduceIte, Nat.reduceEqDiff, reduceCtorEq, Nat.reduceAdd, Nat.reduceLeDiff, Nat.reduceBEq]; try rfl)) (by first | rfl | assumption) (by simp) (by simp) (by (repeat first | exact (hwf).subm | exact (hwf).suba | refine Sub.drop (by simp) ?_)) (by (repeat first | exact (hwf).subm | exact (hwf).suba | refine Sub.drop (by simp) ?_)) (by (repeat first | exact (hwf).subx | refine ExSub.dropt (by simp) ?_ | refine ExSub.drop (by simp) ?_))
  · have hw : wordN s = 8 := if_neg h
    rw [hw]
    obtain ⟨k, t, a, b, ho, hb⟩ := oneR_ex s
    cases b with
    | false =>
      (repeat' first | ((first | refine go rfl rfl ?_ | refine Cl.by_ (by (first | refine one_v _ _ hs)) ?_ | (refine Fk.by_ ?_ ?_ <;> intro hc <;> try simp only [hc]) | refine storeK_eq rfl ?_ | with_reducible refine And.intro ?_ ?_ | fail) <;> try simp only [cells_tokV, ho, push_cast, reduceIte, Nat.reduceEqDiff, reduceCtorEq, Nat.reduceAdd, Nat.reduceLeDiff, Nat.reduceBEq]))
      refine finB (hwf) (by simp only [F207, push_cast, reduceIte, Nat.reduceEqDiff, reduceCtorEq, Nat.reduceAdd, Nat.reduceLeDiff, Nat.reduceBEq]; exact rfl) (by first | exact .inl rfl | (right; simp only [F207, push_cast, reduceIte, Nat.reduceEqDiff, reduceCtorEq, Nat.reduceAdd, Nat.reduceLeDiff, Nat.reduceBEq]; try rfl)) (by first | rfl | assumption) (by simp) (by simp) (by (repeat first | exact (hwf).subm | exact (hwf).suba | refine Sub.drop (by simp) ?_)) (by (repeat first | exact (hwf).subm | exact (hwf).suba | refine Sub.drop (by simp) ?_)) (by (repeat first | exact (hwf).subx | refine ExSub.dropt (by simp) ?_ | refine ExSub.drop (by simp) ?_))
    | true =>
      obtain ⟨_, h3, _, h4⟩ := hb rfl
      obtain ⟨x, hx⟩ : ∃ x, s[0]? = some x := ⟨_, List.getElem?_eq_getElem (by have := one_ne h4 h3; exact List.length_pos_iff.2 this)⟩
      cases hk : (k != 0) with
      | true =>
        (repeat' first | ((first | refine go rfl rfl ?_ | refine Cl.by_ (by (first | refine one_v _ _ hs)) ?_ | (refine Fk.by_ ?_ ?_ <;> intro hc <;> try simp only [hc]) | refine storeK_eq rfl ?_ | with_reducible refine And.intro ?_ ?_ | fail) <;> try simp only [cells_tokV, ho, hx, hk, push_cast, reduceIte, Nat.reduceEqDiff, reduceCtorEq, Nat.reduceAdd, Nat.reduceLeDiff, Nat.reduceBEq]))
        refine finB (hwf) (by simp only [F207, push_cast, reduceIte, Nat.reduceEqDiff, reduceCtorEq, Nat.reduceAdd, Nat.reduceLeDiff, Nat.reduceBEq]; exact rfl) (by first | exact .inl rfl | (right; simp only [F207, push_cast, reduceIte, Nat.reduceEqDiff, reduceCtorEq, Nat.reduceAdd, Nat.reduceLeDiff, Nat.reduceBEq]; try rfl)) (by first | rfl | assumption) (by simp) (by simp) (by (repeat first | exact (hwf).subm | exact (hwf).suba | refine Sub.drop (by simp) ?_)) (by (repeat first | exact (hwf).subm | exact (hwf).suba | refine Sub.drop (by simp) ?_)) (by (repeat first | exact (hwf).subx | refine ExSub.dropt (by simp) ?_ | refine ExSub.drop (by simp) ?_))
      | false =>
        cases ht : (t != s) with
        | true =>
          (repeat' first | ((first | refine go rfl rfl ?_ | refine Cl.by_ (by (first | refine one_v _ _ hs)) ?_ | (refine Fk.by_ ?_ ?_ <;> intro hc <;> try simp only [hc]) | refine storeK_eq rfl ?_ | with_reducible refine And.intro ?_ ?_ | fail) <;> try simp only [cells_tokV, ho, hx, hk, ht, push_cast, reduceIte, Nat.reduceEqDiff, reduceCtorEq, Nat.reduceAdd, Nat.reduceLeDiff, Nat.reduceBEq]))
          refine finB (hwf) (by simp only [F207, push_cast, reduceIte, Nat.reduceEqDiff, reduceCtorEq, Nat.reduceAdd, Nat.reduceLeDiff, Nat.reduceBEq]; exact rfl) (by first | exact .inl rfl | (right; simp only [F207, push_cast, reduceIte, Nat.reduceEqDiff, reduceCtorEq, Nat.reduceAdd, Nat.reduceLeDiff, Nat.reduceBEq]; try rfl)) (by first | rfl | assumption) (by simp) (by simp) (by (repeat first | exact (hwf).subm | exact (hwf).suba | refine Sub.drop (by simp) ?_)) (by (repeat first | exact (hwf).subm | exact (hwf).suba | refine Sub.drop (by simp) ?_)) (by (repeat first | exact (hwf).subx | refine ExSub.dropt (by simp) ?_ | refine ExSub.drop (by simp) ?_))
        | false =>
          have hx2 : ((x.toNat : Int) == 34) = true := by
            cases hq : ((x.toNat : Int) == 34) with
            | true => rfl
            | false =>
              have hk0 : k = 0 := by simpa [bne] using hk
              subst hk0
              exact absurd (word_of h4 (by simpa [bne] using ht) (by rw [atIs_some hx]; exact hq)) h
          (repeat' first | ((first | refine go rfl rfl ?_ | refine Cl.by_ (by (first | refine one_v _ _ hs)) ?_ | (refine Fk.by_ ?_ ?_ <;> intro hc <;> try simp only [hc]) | refine storeK_eq rfl ?_ | with_reducible refine And.intro ?_ ?_ | fail) <;> try simp only [cells_tokV, ho, hx, hk, ht, hx2, push_cast, reduceIte, Nat.reduceEqDiff, reduceCtorEq, Nat.reduceAdd, Nat.reduceLeDiff, Nat.reduceBEq]))
          refine finB (hwf) (by simp only [F207, push_cast, reduceIte, Nat.reduceEqDiff, reduceCtorEq, Nat.reduceAdd, Nat.reduceLeDiff, Nat.reduceBEq]; exact rfl) (by first | exact .inl rfl | (right; simp only [F207, push_cast, reduceIte, Nat.reduceEqDiff, reduceCtorEq, Nat.reduceAdd, Nat.reduceLeDiff, Nat.reduceBEq]; try rfl)) (by first | rfl | assumption) (by simp) (by simp) (by (repeat first | exact (hwf).subm | exact (hwf).suba | refine Sub.drop (by simp) ?_)) (by (repeat first | exact (hwf).subm | exact (hwf).suba | refine Sub.drop (by simp) ?_)) (by (repeat first | exact (hwf).subx | refine ExSub.dropt (by simp) ?_ | refine ExSub.drop (by simp) ?_))

theorem refWord_v (s : List UInt8) (st : St) (hs : s.length < 140737488355328) : VRet Tryz.prog 185 [.str s] st (.int .i64 (wordN s)) st := by
  refine VCalls_of F185_ok mixed (Nat.le_of_ble_eq_true rfl) (fun hwf => ?_)
  cases s with
  | nil =>
    have hw : wordN [] = 8 := if_neg (fun h => by cases h.1)
    have h0 : (([] : List UInt8) == []) = true := rfl
    rw [hw]
    (repeat' first | ((first | refine go rfl rfl ?_ | (refine Fk.by_ ?_ ?_ <;> intro hc <;> try simp only [hc]) | refine storeK_eq rfl ?_ | with_reducible refine And.intro ?_ ?_ | fail) <;> try simp only [h0, push_cast, reduceIte, Nat.reduceEqDiff, reduceCtorEq, Nat.reduceAdd, Nat.reduceLeDiff, Nat.reduceBEq]))
    refine finB (hwf) (by simp only [F185, push_cast, reduceIte, Nat.reduceEqDiff, reduceCtorEq, Nat.reduceAdd, Nat.reduceLeDiff, Nat.reduceBEq]; exact rfl) (by first | exact .inl rfl | (right; simp only [F185, push_cast, reduceIte, Nat.reduceEqDiff, reduceCtorEq, Nat.reduceAdd, Nat.reduceLeDiff, Nat.reduceBEq]; try rfl)) (by first | rfl | assumption) (by simp) (by simp) (by (repeat first | exact (hwf).subm | exact (hwf).suba | refine Sub.drop (by simp) ?_)) (by (repeat first | exact (hwf).subm | exact (hwf).suba | refine Sub.drop (by simp) ?_)) (by (repeat first | exact (hwf).subx | refine ExSub.dropt (by simp) ?_ | refine ExSub.drop (by simp) ?_))
  | cons x s' =>
    have h0 : ((x :: s') == []) = false := rfl
    obtain ⟨s, hse⟩ : ∃ s, x :: s' = s := ⟨_, rfl⟩
    have hx : s[0]? = some x := by rw [← hse]; rfl
    rw [hse] at hs h0 ⊢
    have e1 : atIs letB s 0 = isLet x.toNat := atIs_some hx
    cases hl : isLet x.toNat with
    | false =>
      have hw : wordN s = 8 := if_neg (fun h => by rw [h.1, hl] at e1; cases e1)
      rw [hw]
      (repeat' first | ((first | refine go rfl rfl ?_ | refine Cl.by_ (by (first | refine letter_v _ _ | refine word_v (i := 0) _ (Nat.zero_le _) hs)) ?_ | (refine Fk.by_ ?_ ?_ <;> intro hc <;> try simp only [hc]) | refine storeK_eq rfl ?_ | with_reducible refine And.intro ?_ ?_ | fail) <;> try simp only [h0, hx, hl, push_cast, reduceIte, Nat.reduceEqDiff, reduceCtorEq, Nat.reduceAdd, Nat.reduceLeDiff, Nat.reduceBEq]))
      refine finB (hwf) (by simp only [F185, push_cast, reduceIte, Nat.reduceEqDiff, reduceCtorEq, Nat.reduceAdd, Nat.reduceLeDiff, Nat.reduceBEq]; exact rfl) (by first | exact .inl rfl | (right; simp only [F185, push_cast, reduceIte, Nat.reduceEqDiff, reduceCtorEq, Nat.reduceAdd, Nat.reduceLeDiff, Nat.reduceBEq]; try rfl)) (by first | rfl | assumption) (by simp) (by simp) (by (repeat first | exact (hwf).subm | exact (hwf).suba | refine Sub.drop (by simp) ?_)) (by (repeat first | exact (hwf).subm | exact (hwf).suba | refine Sub.drop (by simp) ?_)) (by (repeat first | exact (hwf).subx | refine ExSub.dropt (by simp) ?_ | refine ExSub.drop (by simp) ?_))
    | true =>
      by_cases hr : runTo wrdB s 0 = s.length
      · have hr2 : (((runTo wrdB s 0 : Nat) : Int) != (s.length : Int)) = false := by simp [hr]
        have hasc : ∀ b ∈ s, b.toNat < 128 := by
          have := run_ascii (runTo_all (ok := wrdB) (s := s) _ _ rfl : ∀ k, 0 ≤ k → k < runTo wrdB s 0 → _)
          rw [hr, List.take_length, List.drop_zero] at this
          exact this
        cases hm : (s.map lowB != s) with
        | true =>
          have hw : wordN s = 8 := if_neg (fun h => by rw [h.2.2] at hm; simp at hm)
          rw [hw]
          (repeat' first | ((first | refine go rfl rfl ?_ | refine Cl.by_ (by (first | refine letter_v _ _ | refine word_v (i := 0) _ (Nat.zero_le _) hs | refine Lower_v _ hasc hs)) ?_ | (refine Fk.by_ ?_ ?_ <;> intro hc <;> try simp only [hc]) | refine storeK_eq rfl ?_ | with_reducible refine And.intro ?_ ?_ | fail) <;> try simp only [h0, hx, hl, hr2, hm, push_cast, reduceIte, Nat.reduceEqDiff, reduceCtorEq, Nat.reduceAdd, Nat.reduceLeDiff, Nat.reduceBEq]))
          refine finB (hwf) (by simp only [F185, push_cast, reduceIte, Nat.reduceEqDiff, reduceCtorEq, Nat.reduceAdd, Nat.reduceLeDiff, Nat.reduceBEq]; exact rfl) (by first | exact .inl rfl | (right; simp only [F185, push_cast, reduceIte, Nat.reduceEqDiff, reduceCtorEq, Nat.reduceAdd, Nat.reduceLeDiff, Nat.reduceBEq]; try rfl)) (by first | rfl | assumption) (by simp) (by simp) (by (repeat first | exact (hwf).subm | exact (hwf).suba | refine Sub.drop (by simp) ?_)) (by (repeat first | exact (hwf).subm | exact (hwf).suba | refine Sub.drop (by simp) ?_)) (by (repeat first | exact (hwf).subx | refine ExSub.dropt (by simp) ?_ | refine ExSub.drop (by simp) ?_))
        | false =>
          have hw : wordN s = if 24 < s.length then 13 else 0 := if_pos ⟨by rw [e1, hl], hr, by simpa [bne] using hm⟩
          by_cases hl2 : 24 < s.length
          · have h1 : decide ((24 : Int) < (s.length : Int)) = true := decide_eq_true (by omega)
            rw [hw, if_pos hl2]
            (repeat' first | ((first | refine go rfl rfl ?_ | refine Cl.by_ (by (first | refine letter_v _ _ | refine word_v (i := 0) _ (Nat.zero_le _) hs | refine Lower_v _ hasc hs)) ?_ | (refine Fk.by_ ?_ ?_ <;> intro hc <;> try simp only [hc]) | refine storeK_eq rfl ?_ | with_reducible refine And.intro ?_ ?_ | fail) <;> try simp only [h0, hx, hl, hr2, hm, h1, push_cast, reduceIte, Nat.reduceEqDiff, reduceCtorEq, Nat.reduceAdd, Nat.reduceLeDiff, Nat.reduceBEq]))
            refine finB (hwf) (by simp only [F185, push_cast, reduceIte, Nat.reduceEqDiff, reduceCtorEq, Nat.reduceAdd, Nat.reduceLeDiff, Nat.reduceBEq]; exact rfl) (by first | exact .inl rfl | (right; simp only [F185, push_cast, reduceIte, Nat.reduceEqDiff, reduceCtorEq, Nat.reduceAdd, Nat.reduceLeDiff, Nat.reduceBEq]; try rfl)) (by first | rfl | assumption) (by simp) (by simp) (by (repeat first | exact (hwf).subm | exact (hwf).suba | refine Sub.drop (by simp) ?_)) (by (repeat first | exact (hwf).subm | exact (hwf).suba | refine Sub.drop (by simp) ?_)) (by (repeat first | exact (hwf).subx | refine ExSub.dropt (by simp) ?_ | refine ExSub.drop (by simp) ?_))
          · have h1 : decide ((24 : Int) < (s.length : Int)) = false := decide_eq_false (by omega)
            rw [hw, if_neg hl2]
            (repeat' first | ((first | refine go rfl rfl ?_ | refine Cl.by_ (by (first | refine letter_v _ _ | refine word_v (i := 0) _ (Nat.zero_le _) hs | refine Lower_v _ hasc hs)) ?_ | (refine Fk.by_ ?_ ?_ <;> intro hc <;> try simp only [hc]) | refine storeK_eq rfl ?_ | with_reducible refine And.intro ?_ ?_ | fail) <;> try simp only [h0, hx, hl, hr2, hm, h1, push_cast, reduceIte, Nat.reduceEqDiff, reduceCtorEq, Nat.reduceAdd, Nat.reduceLeDiff, Nat.reduceBEq]))
            refine finB (hwf) (by simp only [F185, push_cast, reduceIte, Nat.reduceEqDiff, reduceCtorEq, Nat.reduceAdd, Nat.reduceLeDiff, Nat.reduceBEq]; exact rfl) (by first | exact .inl rfl | (right; simp only [F185, push_cast, reduceIte, Nat.reduceEqDiff, reduceCtorEq, Nat.reduceAdd, Nat.reduceLeDiff, Nat.reduceBEq]; try rfl)) (by first | rfl | assumption) (by simp) (by simp) (by (repeat first | exact (hwf).subm | exact (hwf).suba | refine Sub.drop (by simp) ?_)) (by (repeat first | exact (hwf).subm | exact (hwf).suba | refine Sub.drop (by simp) ?_)) (by (repeat first | exact (hwf).subx | refine ExSub.dropt (by simp) ?_ | refine ExSub.drop (by simp) ?_))
      · have hr2 : (((runTo wrdB s 0 : Nat) : Int) != (s.length : Int)) = true := by simp; omega
        have hw : wordN s = 8 := if_neg (fun h => hr h.2.1)
        rw [hw]
        (repeat' first | ((first | refine go rfl rfl ?_ | refine Cl.by_ (by (first | refine letter_v _ _ | refine word_v (i := 0) _ (Nat.zero_le _) hs)) ?_ | (refine Fk.by_ ?_ ?_ <;> intro hc <;> try simp only [hc]) | refine storeK_eq rfl ?_ | with_reducible refine And.intro ?_ ?_ | fail) <;> try simp only [h0, hx, hl, hr2, push_cast, reduceIte, Nat.reduceEqDiff, reduceCtorEq, Nat.reduceAdd, Nat.reduceLeDiff, Nat.reduceBEq]))
        refine finB (hwf) (by simp only [F185, push_cast, reduceIte, Nat.reduceEqDiff, reduceCtorEq, Nat.reduceAdd, Nat.reduceLeDiff, Nat.reduceBEq]; exact rfl) (by first | exact .inl rfl | (right; simp only [F185, push_cast, reduceIte, Nat.reduceEqDiff, reduceCtorEq, Nat.reduceAdd, Nat.reduceLeDiff, Nat.reduceBEq]; try rfl)) (by first | rfl | assumption) (by simp) (by simp) (by (repeat first | exact (hwf).subm | exact (hwf).suba | refine Sub.drop (by simp) ?_)) (by (repeat first | exact (hwf).subm | exact (hwf).suba | refine Sub.drop (by simp) ?_)) (by (repeat first | exact (hwf).subx | refine ExSub.dropt (by simp) ?_ | refine ExSub.drop (by simp) ?_))

end Go.Proofs.YtnondemehfkalaaGreatDoor

namespace Go.Proofs.YtnondemehfkalaaGreatDoor
open Go.Sha
/-- (*luminaire/grammar.reader).next -/
def F62 : FT := ⟨9, 1, [.cell 2 (some 3)],
 [.seq 1 2,
 .reg [.s 2 (.alloc 111 [(.i 0), (.str []), (.i 0)])],
 .seq 3 4,
 .reg [.s 3 (.m 0),
 .s 4 (.k 3),
 .s 5 (.a 0 4),
 .s 6 (.l 5),
 .s 7 (.iadr 3 (.t 6) (.i 0)),
 .s 8 (.load (some 3) (.t 7)),
 .n (.store 3 (.t 2) (.t 8))],
 .ret]⟩

/-- (*luminaire/grammar.reader).fail -/
def F63 : FT := ⟨10, 2, [],
 [.reg [.s 4 (.m 0),
 .s 5 (.f 62 [(.t 4)]),
 .s 6 (.fld none 2 (.t 5)),
 .s 7 (.m 1),
 .s 8 (.build [(.i 0), (.i 0)] [(0, 1, (.t 6)), (1, 1, (.t 7))]),
 .s 9 (.mkif 106 (.t 8)),
 .n (.panic (.t 9))]]⟩

/-- (*luminaire/grammar.reader).set -/
def F64 : FT := ⟨35, 1, [.cell 2 (some 19)],
 [.seq 1 2,
 .reg [.s 2 (.alloc 28 Z0)],
 .seq 3 4,
 .reg [.s 4 (.m 0),
 .s 5 (.f 45 [(.t 4)]),
 .s 6 (.m 0),
 .s 7 (.f 108 [(.t 6), (.i 0)]),
 .s 8 (.build Z0 [(0, 1, (.i 0)), (1, 1, (.w [97, 116])), (5, 1, (.t 5)), (6, 1, (.t 7))]),
 .s 3 (.alloc 28 Z0),
 .n (.store 19 (.t 3) (.t 8))],
 .seq 5 6,
 .reg [.s 9 (.m 0),
 .s 10 (.bslice 9 1 [(.w [97, 116])]),
 .s 11 (.f 109 [(.t 9), (.t 10)])],
 .seq 7 25,
 .seq 8 9,
 .reg [.s 12 (.m 0),
 .s 13 (.bslice 9 1 [(.w [112, 97, 108, 101, 116, 116, 101]), (.w [104, 111, 109, 101])]),
 .s 14 (.f 110 [(.t 12), (.t 13)])],
 .block 0 10,
 .seq 11 12,
 .reg [.s 24 (.bin .eql (.t 14) (.w [112, 97, 108, 101, 116, 116, 101])),
 .s 23 (.m 24)],
 .cond (.t 23) 13 14,
 .reg [.s 25 (.m 0),
 .s 26 (.f 111 [(.t 25)]),
 .s 27 (.a 8 3),
 .n (.store 1 (.t 27) (.t 26))],
 .seq 15 16,
 .reg [.s 29 (.bin .eql (.t 14) (.w [104, 111, 109, 101])),
 .s 28 (.m 29)],
 .cond (.t 28) 17 18,
 .reg [.s 30 (.a 8 3),
 .n (.store 1 (.t 30) (.i (-1)))],
 .seq 19 24,
 .seq 20 21,
 .reg [.s 15 (.a 6 3),
 .s 16 (.l 15),
 .s 17 (.bin .geq (.t 16) (.i 15))],
 .cond (.t 17) 22 23,
 .reg [.s 18 (.m 0),
 .s 19 (.f 63 [(.t 18), (.i 4)])],
 .skip,
 .reg [.s 20 (.m 0),
 .s 21 (.f 112 [(.t 20)]),
 .s 22 (.a 7 3),
 .n (.store 1 (.t 22) (.t 21))],
 .seq 26 27,
 .reg [.s 31 (.m 0),
 .s 32 (.f 113 [(.t 31)]),
 .s 33 (.a 9 3),
 .n (.store 1 (.t 33) (.t 32))],
 .seq 28 29,
 .reg [.s 34 (.load (some 19) (.t 3)),
 .n (.store 19 (.t 2) (.t 34))],
 .ret]⟩

/-- (*luminaire/grammar.reader).verbs -/
def F65 : FT := ⟨41, 1, [.tmp 2],
 [.seq 1 2,
 .reg [.s 2 (.mv (.c .nilm))],
 .seq 3 4,
 .reg [.s 5 (.act .mkmap []),
 .s 6 (.m 0),
 .s 7 (.mkfn (.func 114) [(.t 6)] []),
 .n (.act (.mset .s) [(.t 5), (.w [99, 108, 101, 97, 114]), (.t 7)]),
 .s 8 (.m 0),
 .s 9 (.mkfn (.func 115) [(.t 8)] []),
 .n (.act (.mset .s) [(.t 5), (.w [114, 101, 99, 111, 114, 100]), (.t 9)]),
 .s 10 (.m 0),
 .s 11 (.mkfn (.func 116) [(.t 10)] []),
 .n (.act (.mset .s) [(.t 5), (.w [117, 112, 100, 97, 116, 101]), (.t 11)]),
 .s 12 (.m 0),
 .s 13 (.mkfn (.func 117) [(.t 12)] []),
 .n (.act (.mset .s) [(.t 5), (.w [100, 101, 108, 101, 116, 101]), (.t 13)]),
 .s 14 (.m 0),
 .s 15 (.mkfn (.func 118) [(.t 14)] []),
 .n (.act (.mset .s) [(.t 5), (.w [112, 97, 116, 99, 104]), (.t 15)]),
 .s 16 (.m 0),
 .s 17 (.mkfn (.func 119) [(.t 16)] []),
 .n (.act (.mset .s) [(.t 5), (.w [98, 108, 97, 99, 107, 111, 117, 116]), (.t 17)]),
 .s 18 (.m 5),
 .s 3 (.alloc 116 [.nilm]),
 .n (.store 1 (.t 3) (.t 18))],
 .seq 5 6,
 .reg [.s 19 (.mkfn (.func 120) [] [(.t 3)]),
 .s 4 (.m 19)],
 .seq 7 8,
 .reg [.s 20 (.m 4),
 .s 21 (.m 0),
 .s 22 (.mkfn (.func 121) [(.t 21)] []),
 .s 23 (.bslice 9 1 [(.w [103, 111]), (.w [98, 97, 99, 107]), (.w [112, 97, 117, 115, 101]), (.w [114, 101, 115, 117, 109, 101]), (.w [114, 101, 118, 101, 114, 115, 101]), (.w [103, 111, 116, 111]), (.w [114, 97, 116, 101]), (.w [114, 101, 108, 101, 97, 115, 101])]),
 .s 24 (.call (.t 20) [(.t 22), (.t 23)])],
 .seq 9 10,
 .reg [.s 25 (.m 4),
 .s 26 (.m 0),
 .s 27 (.mkfn (.func 122) [(.t 26)] []),
 .s 28 (.bslice 9 1 [(.w [108, 105, 115, 116]), (.w [115, 117, 98]), (.w [109, 97, 115, 116, 101, 114])]),
 .s 29 (.call (.t 25) [(.t 27), (.t 28)])],
 .seq 11 12,
 .reg [.s 30 (.m 4),
 .s 31 (.m 0),
 .s 32 (.mkfn (.func 123) [(.t 31)] []),
 .s 33 (.bslice 9 1 [(.w [101, 102, 102, 101, 99, 116]), (.w [115, 116, 111, 112])]),
 .s 34 (.call (.t 30) [(.t 32), (.t 33)])],
 .seq 13 14,
 .reg [.s 35 (.m 4),
 .s 36 (.m 0),
 .s 37 (.mkfn (.func 124) [(.t 36)] []),
 .s 38 (.bslice 9 1 [(.w [117, 110, 100, 111]), (.w [114, 101, 100, 111])]),
 .s 39 (.call (.t 35) [(.t 37), (.t 38)])],
 .seq 15 16,
 .reg [.s 40 (.l 3),
 .s 2 (.m 40)],
 .ret]⟩

/-- (*luminaire/grammar.reader).pass -/
def F66 : FT := ⟨19, 1, [.cell 2 (some 3)],
 [.seq 1 2,
 .reg [.s 2 (.alloc 111 [(.i 0), (.str []), (.i 0)])],
 .seq 3 4,
 .reg [.s 4 (.m 0),
 .s 5 (.k 4),
 .s 6 (.a 0 5),
 .s 7 (.l 6),
 .s 8 (.iadr 3 (.t 7) (.i 0)),
 .s 9 (.load (some 3) (.t 8)),
 .s 3 (.alloc 111 [(.i 0), (.str []), (.i 0)]),
 .n (.store 3 (.t 3) (.t 9))],
 .seq 5 6,
 .reg [.s 10 (.m 0),
 .s 11 (.m 0),
 .s 12 (.k 11),
 .s 13 (.a 0 12),
 .s 14 (.l 13),
 .s 15 (.slice 3 (.t 14) (some (.i 1)) none none),
 .s 16 (.k 10),
 .s 17 (.a 0 16),
 .n (.store 1 (.t 17) (.t 15))],
 .seq 7 8,
 .reg [.s 18 (.load (some 3) (.t 3)),
 .n (.store 3 (.t 2) (.t 18))],
 .ret]⟩

/-- (*luminaire/grammar.reader).term -/
def F90 : FT := ⟨38, 2, [.cell 4 (some 4)],
 [.seq 1 2,
 .reg [.s 4 (.alloc 43 [(.i 0), (.i 0), (.i 0), (.i 0)])],
 .seq 3 10,
 .seq 4 5,
 .reg [.s 8 (.m 0),
 .s 9 (.bslice 9 1 [(.w [103, 114, 111, 117, 112])]),
 .s 10 (.f 110 [(.t 8), (.t 9)]),
 .s 11 (.bin .neq (.t 10) (.w []))],
 .cond (.t 11) 6 9,
 .seq 7 8,
 .reg [.s 12 (.m 1),
 .s 13 (.m 0),
 .s 14 (.f 141 [(.t 13), (.i 1048576)]),
 .s 15 (.build [(.i 0), (.i 0), (.i 0), (.i 0)] [(0, 1, (.t 12)), (1, 1, (.t 14))]),
 .n (.store 4 (.t 4) (.t 15))],
 .ret,
 .skip,
 .seq 11 12,
 .reg [.s 16 (.m 0),
 .s 17 (.f 141 [(.t 16), (.i 999)]),
 .s 5 (.m 17)],
 .seq 13 14,
 .reg [.s 18 (.m 5),
 .s 6 (.m 18)],
 .seq 15 28,
 .seq 16 17,
 .reg [.s 19 (.m 0),
 .s 20 (.bslice 9 1 [(.w [116, 104, 114, 117])]),
 .s 21 (.f 110 [(.t 19), (.t 20)]),
 .s 22 (.bin .neq (.t 21) (.w []))],
 .cond (.t 22) 18 27,
 .seq 19 20,
 .reg [.s 23 (.m 0),
 .s 24 (.f 62 [(.t 23)]),
 .s 25 (.fld none 2 (.t 24)),
 .s 7 (.m 25)],
 .seq 21 22,
 .reg [.s 26 (.m 0),
 .s 27 (.f 141 [(.t 26), (.i 999)]),
 .s 6 (.m 27)],
 .seq 23 24,
 .reg [.s 28 (.m 6),
 .s 29 (.m 5),
 .s 30 (.bin .lss (.t 28) (.t 29))],
 .cond (.t 30) 25 26,
 .reg [.s 31 (.m 7),
 .s 32 (.build [(.i 0), (.i 0)] [(0, 1, (.t 31)), (1, 1, (.i 9))]),
 .s 33 (.mkif 106 (.t 32)),
 .n (.panic (.t 33))],
 .skip,
 .skip,
 .seq 29 30,
 .reg [.s 34 (.m 1),
 .s 35 (.m 5),
 .s 36 (.m 6),
 .s 37 (.build [(.i 0), (.i 0), (.i 0), (.i 0)] [(0, 1, (.t 34)), (2, 1, (.t 35)), (3, 1, (.t 36))]),
 .n (.store 4 (.t 4) (.t 37))],
 .ret]⟩

/-- (*luminaire/grammar.reader).sign -/
def F91 : FT := ⟨13, 2, [.tmp 4],
 [.seq 1 2,
 .reg [.s 4 (.mv (.c (.bool false)))],
 .seq 3 4,
 .reg [.s 6 (.m 0),
 .s 7 (.m 1),
 .s 8 (.f 142 [(.t 6), (.i 2), (.t 7)]),
 .s 5 (.m 8)],
 .seq 5 10,
 .seq 6 7,
 .reg [.s 9 (.m 5)],
 .cond (.t 9) 8 9,
 .reg [.s 10 (.m 0),
 .s 11 (.f 66 [(.t 10)])],
 .skip,
 .seq 11 12,
 .reg [.s 12 (.m 5),
 .s 4 (.m 12)],
 .ret]⟩

/-- (*luminaire/grammar.reader).kind -/
def F108 : FT := ⟨25, 2, [.tmp 4],
 [.seq 1 2,
 .reg [.s 4 (.mv (.i 0))],
 .seq 3 10,
 .seq 4 5,
 .reg [.s 7 (.m 0),
 .s 8 (.f 62 [(.t 7)]),
 .s 9 (.fld none 0 (.t 8)),
 .s 10 (.bin .neq (.t 9) (.i 0))],
 .cond (.t 10) 6 9,
 .seq 7 8,
 .reg [.s 11 (.m 1),
 .s 4 (.m 11)],
 .ret,
 .skip,
 .seq 11 12,
 .reg [.s 13 (.m 0),
 .s 14 (.f 62 [(.t 13)]),
 .s 15 (.fld none 1 (.t 14)),
 .s 16 (.f 13 [(.t 15)]),
 .s 12 (.m 16),
 .s 17 (.ext 0 (.t 12)),
 .s 18 (.ext 1 (.t 12)),
 .s 5 (.m 17),
 .s 6 (.m 18)],
 .seq 13 20,
 .seq 14 15,
 .reg [.s 19 (.m 6),
 .s 20 (.bin .neq (.t 19) (.i 0))],
 .cond (.t 20) 16 19,
 .seq 17 18,
 .reg [.s 21 (.m 1),
 .s 4 (.m 21)],
 .ret,
 .skip,
 .seq 21 22,
 .reg [.s 22 (.m 0),
 .s 23 (.f 66 [(.t 22)])],
 .seq 23 24,
 .reg [.s 24 (.m 5),
 .s 4 (.m 24)],
 .ret]⟩

/-- (*luminaire/grammar.reader).need -/
def F109 : FT := ⟨14, 2, [.tmp 4],
 [.seq 1 2,
 .reg [.s 4 (.mv (.w []))],
 .seq 3 4,
 .reg [.s 6 (.m 0),
 .s 7 (.m 1),
 .s 8 (.f 110 [(.t 6), (.t 7)]),
 .s 5 (.m 8)],
 .seq 5 10,
 .seq 6 7,
 .reg [.s 9 (.m 5),
 .s 10 (.bin .eql (.t 9) (.w []))],
 .cond (.t 10) 8 9,
 .reg [.s 11 (.m 0),
 .s 12 (.f 63 [(.t 11), (.i 4)])],
 .skip,
 .seq 11 12,
 .reg [.s 13 (.m 5),
 .s 4 (.m 13)],
 .ret]⟩

/-- (*luminaire/grammar.reader).word -/
def F110 : FT := ⟨20, 2, [.tmp 4],
 [.seq 1 2,
 .reg [.s 4 (.mv (.w []))],
 .seq 3 27,
 .seq 4 5,
 .reg [.s 7 (.m 1),
 .s 8 (.len (.t 7)),
 .s 9 (.mv (.i 0))],
 .block 0 6,
 .loop 7,
 .seq 8 9,
 .reg [.s 10 (.bin .lss (.t 9) (.t 8))],
 .seq 10 13,
 .cond (.t 10) 11 12,
 .skip,
 .exit 0,
 .seq 14 26,
 .block 1 15,
 .seq 16 17,
 .reg [.s 11 (.iadr 1 (.t 7) (.t 9)),
 .s 12 (.l 11),
 .s 6 (.m 12)],
 .seq 18 19,
 .reg [.s 13 (.m 0),
 .s 14 (.m 6),
 .s 15 (.f 142 [(.t 13), (.i 0), (.t 14)])],
 .cond (.t 15) 20 25,
 .seq 21 22,
 .reg [.s 16 (.m 0),
 .s 17 (.f 66 [(.t 16)])],
 .seq 23 24,
 .reg [.s 18 (.m 6),
 .s 4 (.m 18)],
 .ret,
 .skip,
 .reg [.s 19 (.bin .add (.t 9) (.i 1)),
 .s 9 (.m 19)],
 .seq 28 29,
 .reg [.s 4 (.mv (.w []))],
 .ret]⟩

/-- (*luminaire/grammar.reader).list -/
def F111 : FT := ⟨5, 1, [.tmp 2],
 [.seq 1 2,
 .reg [.s 2 (.mv (.i 0))],
 .seq 3 4,
 .reg [.s 3 (.m 0),
 .s 4 (.f 141 [(.t 3), (.i 1048576)]),
 .s 2 (.m 4)],
 .ret]⟩

/-- (*luminaire/grammar.reader).level -/
def F112 : FT := ⟨23, 1, [.tmp 2],
 [.seq 1 2,
 .reg [.s 2 (.mv (.i 0))],
 .seq 3 8,
 .seq 4 5,
 .reg [.s 5 (.m 0),
 .s 6 (.f 142 [(.t 5), (.i 0), (.w [102, 117, 108, 108])]),
 .s 7 (.un .not (.t 6))],
 .cond (.t 7) 6 7,
 .reg [.s 8 (.m 0),
 .s 9 (.f 168 [(.t 8)])],
 .skip,
 .seq 9 10,
 .reg [.s 11 (.m 0),
 .s 12 (.f 62 [(.t 11)]),
 .s 13 (.fld none 1 (.t 12)),
 .s 14 (.f 169 [(.t 13)]),
 .s 10 (.m 14),
 .s 15 (.ext 0 (.t 10)),
 .s 16 (.ext 1 (.t 10)),
 .s 3 (.m 15),
 .s 4 (.m 16)],
 .seq 11 12,
 .reg [.s 17 (.m 0),
 .s 18 (.m 4),
 .s 19 (.f 170 [(.t 17), (.t 18)])],
 .seq 13 14,
 .reg [.s 20 (.m 0),
 .s 21 (.f 66 [(.t 20)])],
 .seq 15 16,
 .reg [.s 22 (.m 3),
 .s 2 (.m 22)],
 .ret]⟩

/-- (*luminaire/grammar.reader).time -/
def F113 : FT := ⟨21, 1, [.tmp 2],
 [.seq 1 2,
 .reg [.s 2 (.mv (.i 0))],
 .seq 3 10,
 .seq 4 5,
 .reg [.s 5 (.m 0),
 .s 6 (.bslice 9 1 [(.w [116, 105, 109, 101])]),
 .s 7 (.f 110 [(.t 5), (.t 6)]),
 .s 8 (.bin .eql (.t 7) (.w []))],
 .cond (.t 8) 6 9,
 .seq 7 8,
 .reg [.s 2 (.mv (.i (-1)))],
 .ret,
 .skip,
 .seq 11 12,
 .reg [.s 10 (.m 0),
 .s 11 (.f 168 [(.t 10)]),
 .s 12 (.f 15 [(.t 11)]),
 .s 9 (.m 12),
 .s 13 (.ext 0 (.t 9)),
 .s 14 (.ext 1 (.t 9)),
 .s 3 (.m 13),
 .s 4 (.m 14)],
 .seq 13 14,
 .reg [.s 15 (.m 0),
 .s 16 (.m 4),
 .s 17 (.f 170 [(.t 15), (.t 16)])],
 .seq 15 16,
 .reg [.s 18 (.m 0),
 .s 19 (.f 66 [(.t 18)])],
 .seq 17 18,
 .reg [.s 20 (.m 3),
 .s 2 (.m 20)],
 .ret]⟩

/-- (*luminaire/grammar.reader).clear -/
def F114 : FT := ⟨18, 2, [.cell 4 (some 19)],
 [.seq 1 2,
 .reg [.s 4 (.alloc 28 Z0)],
 .seq 3 4,
 .reg [.s 6 (.build Z0 [(0, 1, (.i 1)), (1, 1, (.w [99, 108, 101, 97, 114])), (6, 1, (.i (-1)))]),
 .s 5 (.alloc 28 Z0),
 .n (.store 19 (.t 5) (.t 6))],
 .seq 5 12,
 .seq 6 7,
 .reg [.s 7 (.m 0),
 .s 8 (.f 62 [(.t 7)]),
 .s 9 (.fld none 0 (.t 8)),
 .s 10 (.bin .neq (.t 9) (.i 3))],
 .cond (.t 10) 8 11,
 .seq 9 10,
 .reg [.s 11 (.m 0),
 .s 12 (.f 45 [(.t 11)]),
 .s 13 (.a 5 5),
 .n (.store 1 (.t 13) (.t 12))],
 .reg [.s 14 (.m 0),
 .s 15 (.f 108 [(.t 14), (.i (-1))]),
 .s 16 (.a 6 5),
 .n (.store 1 (.t 16) (.t 15))],
 .skip,
 .seq 13 14,
 .reg [.s 17 (.load (some 19) (.t 5)),
 .n (.store 19 (.t 4) (.t 17))],
 .ret]⟩

/-- (*luminaire/grammar.reader).record -/
def F115 : FT := ⟨42, 2, [.cell 4 (some 19)],
 [.seq 1 2,
 .reg [.s 4 (.alloc 28 Z0)],
 .seq 3 4,
 .reg [.s 6 (.m 0),
 .s 7 (.bslice 9 1 [(.w [99, 117, 101]), (.w [112, 97, 108, 101, 116, 116, 101]), (.w [115, 117, 98]), (.w [103, 114, 111, 117, 112])]),
 .s 8 (.f 109 [(.t 6), (.t 7)]),
 .s 9 (.build Z0 [(0, 1, (.i 2)), (1, 1, (.w [114, 101, 99, 111, 114, 100])), (2, 1, (.t 8))]),
 .s 5 (.alloc 28 Z0),
 .n (.store 19 (.t 5) (.t 9))],
 .seq 5 20,
 .seq 6 7,
 .reg [.s 10 (.a 2 5),
 .s 11 (.l 10),
 .s 12 (.bin .neq (.t 11) (.w [99, 117, 101]))],
 .cond (.t 12) 8 19,
 .seq 9 10,
 .reg [.s 13 (.m 0),
 .s 14 (.f 111 [(.t 13)]),
 .s 15 (.a 4 5),
 .n (.store 1 (.t 15) (.t 14))],
 .seq 11 16,
 .seq 12 13,
 .reg [.s 16 (.a 2 5),
 .s 17 (.l 16),
 .s 18 (.bin .eql (.t 17) (.w [103, 114, 111, 117, 112]))],
 .cond (.t 18) 14 15,
 .reg [.s 19 (.m 0),
 .s 20 (.f 45 [(.t 19)]),
 .s 21 (.a 5 5),
 .n (.store 1 (.t 21) (.t 20))],
 .skip,
 .seq 17 18,
 .reg [.s 22 (.load (some 19) (.t 5)),
 .n (.store 19 (.t 4) (.t 22))],
 .ret,
 .skip,
 .seq 21 22,
 .reg [.s 23 (.m 0),
 .s 24 (.f 171 [(.t 23), (.t 5)])],
 .seq 23 28,
 .seq 24 25,
 .reg [.s 25 (.m 0),
 .s 26 (.bslice 9 1 [(.w [111, 110, 108, 121])]),
 .s 27 (.f 110 [(.t 25), (.t 26)]),
 .s 28 (.bin .neq (.t 27) (.w []))],
 .cond (.t 28) 26 27,
 .reg [.s 29 (.a 10 5),
 .n (.store 1 (.t 29) (.i 1))],
 .skip,
 .seq 29 30,
 .reg [.s 30 (.a 7 5),
 .n (.store 1 (.t 30) (.i 1))],
 .seq 31 36,
 .seq 32 33,
 .reg [.s 31 (.m 0),
 .s 32 (.bslice 9 1 [(.w [112, 97, 114, 116])]),
 .s 33 (.f 110 [(.t 31), (.t 32)]),
 .s 34 (.bin .neq (.t 33) (.w []))],
 .cond (.t 34) 34 35,
 .reg [.s 35 (.m 0),
 .s 36 (.f 141 [(.t 35), (.i 4)]),
 .s 37 (.a 7 5),
 .n (.store 1 (.t 37) (.t 36))],
 .skip,
 .seq 37 38,
 .reg [.s 38 (.m 0),
 .s 39 (.f 113 [(.t 38)]),
 .s 40 (.a 9 5),
 .n (.store 1 (.t 40) (.t 39))],
 .seq 39 40,
 .reg [.s 41 (.load (some 19) (.t 5)),
 .n (.store 19 (.t 4) (.t 41))],
 .ret]⟩

/-- (*luminaire/grammar.reader).update -/
def F116 : FT := ⟨13, 2, [.cell 4 (some 19)],
 [.seq 1 2,
 .reg [.s 4 (.alloc 28 Z0)],
 .seq 3 4,
 .reg [.s 6 (.m 0),
 .s 7 (.bslice 9 1 [(.w [99, 117, 101])]),
 .s 8 (.f 109 [(.t 6), (.t 7)]),
 .s 9 (.build Z0 [(0, 1, (.i 3)), (1, 1, (.w [117, 112, 100, 97, 116, 101])), (2, 1, (.t 8))]),
 .s 5 (.alloc 28 Z0),
 .n (.store 19 (.t 5) (.t 9))],
 .seq 5 6,
 .reg [.s 10 (.m 0),
 .s 11 (.f 171 [(.t 10), (.t 5)])],
 .seq 7 8,
 .reg [.s 12 (.load (some 19) (.t 5)),
 .n (.store 19 (.t 4) (.t 12))],
 .ret]⟩

/-- (*luminaire/grammar.reader).remove -/
def F117 : FT := ⟨30, 2, [.cell 4 (some 19)],
 [.seq 1 2,
 .reg [.s 4 (.alloc 28 Z0)],
 .seq 3 4,
 .reg [.s 6 (.m 0),
 .s 7 (.bslice 9 1 [(.w [99, 117, 101]), (.w [112, 97, 108, 101, 116, 116, 101]), (.w [103, 114, 111, 117, 112]), (.w [115, 117, 98]), (.w [101, 102, 102, 101, 99, 116]), (.w [102, 105, 120, 116, 117, 114, 101])]),
 .s 8 (.f 109 [(.t 6), (.t 7)]),
 .s 9 (.build Z0 [(0, 1, (.i 4)), (1, 1, (.w [100, 101, 108, 101, 116, 101])), (2, 1, (.t 8))]),
 .s 5 (.alloc 28 Z0),
 .n (.store 19 (.t 5) (.t 9))],
 .seq 5 23,
 .seq 6 7,
 .reg [.s 10 (.a 2 5),
 .s 11 (.l 10)],
 .block 0 8,
 .seq 9 10,
 .reg [.s 16 (.bin .eql (.t 11) (.w [99, 117, 101])),
 .s 15 (.m 16)],
 .cond (.t 15) 11 18,
 .seq 12 13,
 .reg [.s 17 (.m 0),
 .s 18 (.f 171 [(.t 17), (.t 5)])],
 .seq 14 15,
 .reg [.s 19 (.m 0),
 .s 20 (.bslice 9 1 [(.w [107, 101, 101, 112])]),
 .s 21 (.f 110 [(.t 19), (.t 20)]),
 .s 22 (.bin .neq (.t 21) (.w []))],
 .cond (.t 22) 16 17,
 .reg [.s 23 (.a 10 5),
 .n (.store 1 (.t 23) (.i 2))],
 .skip,
 .seq 19 20,
 .reg [.s 25 (.bin .eql (.t 11) (.w [102, 105, 120, 116, 117, 114, 101])),
 .s 24 (.m 25)],
 .cond (.t 24) 21 22,
 .reg [.s 26 (.m 0),
 .s 27 (.f 172 [(.t 26)]),
 .s 28 (.a 11 5),
 .n (.store 7 (.t 28) (.t 27))],
 .reg [.s 12 (.m 0),
 .s 13 (.f 111 [(.t 12)]),
 .s 14 (.a 4 5),
 .n (.store 1 (.t 14) (.t 13))],
 .seq 24 25,
 .reg [.s 29 (.load (some 19) (.t 5)),
 .n (.store 19 (.t 4) (.t 29))],
 .ret]⟩

/-- (*luminaire/grammar.reader).patch -/
def F118 : FT := ⟨32, 2, [.cell 4 (some 19)],
 [.seq 1 2,
 .reg [.s 4 (.alloc 28 Z0)],
 .seq 3 4,
 .reg [.s 6 (.m 0),
 .s 7 (.f 172 [(.t 6)]),
 .s 5 (.alloc 25 Z1),
 .n (.store 7 (.t 5) (.t 7))],
 .seq 5 6,
 .reg [.s 8 (.m 0),
 .s 9 (.f 173 [(.t 8)]),
 .s 10 (.a 2 5),
 .n (.store 1 (.t 10) (.t 9))],
 .seq 7 8,
 .reg [.s 11 (.m 0),
 .s 12 (.bslice 9 1 [(.w [97, 116])]),
 .s 13 (.f 109 [(.t 11), (.t 12)])],
 .seq 9 10,
 .reg [.s 14 (.m 0),
 .s 15 (.f 141 [(.t 14), (.i 8)]),
 .s 16 (.a 3 5),
 .n (.store 1 (.t 16) (.t 15))],
 .seq 11 12,
 .reg [.s 17 (.m 0),
 .s 18 (.f 174 [(.t 17)])],
 .seq 13 14,
 .reg [.s 19 (.m 0),
 .s 20 (.f 141 [(.t 19), (.i 512)]),
 .s 21 (.a 4 5),
 .n (.store 1 (.t 21) (.t 20)),
 .s 22 (.a 5 5),
 .n (.store 1 (.t 22) (.i 1))],
 .seq 15 20,
 .seq 16 17,
 .reg [.s 23 (.m 0),
 .s 24 (.bslice 9 1 [(.w [112, 104, 97, 115, 101])]),
 .s 25 (.f 110 [(.t 23), (.t 24)]),
 .s 26 (.bin .neq (.t 25) (.w []))],
 .cond (.t 26) 18 19,
 .reg [.s 27 (.m 0),
 .s 28 (.f 141 [(.t 27), (.i 3)]),
 .s 29 (.a 5 5),
 .n (.store 1 (.t 29) (.t 28))],
 .skip,
 .seq 21 22,
 .reg [.s 30 (.load (some 7) (.t 5)),
 .s 31 (.build Z0 [(0, 1, (.i 5)), (1, 1, (.w [112, 97, 116, 99, 104])), (11, 7, (.t 30))]),
 .n (.store 19 (.t 4) (.t 31))],
 .ret]⟩

/-- (*luminaire/grammar.reader).blackout -/
def F119 : FT := ⟨14, 2, [.cell 4 (some 19)],
 [.seq 1 2,
 .reg [.s 4 (.alloc 28 Z0)],
 .seq 3 4,
 .reg [.s 6 (.m 1),
 .s 7 (.build Z0 [(0, 1, (.i 7)), (1, 1, (.t 6))]),
 .s 5 (.alloc 28 Z0),
 .n (.store 19 (.t 5) (.t 7))],
 .seq 5 10,
 .seq 6 7,
 .reg [.s 8 (.m 0),
 .s 9 (.bslice 9 1 [(.w [111, 110]), (.w [111, 102, 102])]),
 .s 10 (.f 109 [(.t 8), (.t 9)]),
 .s 11 (.bin .eql (.t 10) (.w [111, 110]))],
 .cond (.t 11) 8 9,
 .reg [.s 12 (.a 7 5),
 .n (.store 1 (.t 12) (.i 1))],
 .skip,
 .seq 11 12,
 .reg [.s 13 (.load (some 19) (.t 5)),
 .n (.store 19 (.t 4) (.t 13))],
 .ret]⟩

/-- (*luminaire/grammar.reader).verbs$1 -/
def F120 : FT := ⟨17, 2, [],
 [.seq 1 2,
 .reg [.s 7 (.m 1),
 .s 8 (.len (.t 7)),
 .s 9 (.mv (.i 0))],
 .block 0 3,
 .loop 4,
 .seq 5 6,
 .reg [.s 10 (.bin .lss (.t 9) (.t 8))],
 .seq 7 10,
 .cond (.t 10) 8 9,
 .skip,
 .exit 0,
 .seq 11 15,
 .block 1 12,
 .seq 13 14,
 .reg [.s 11 (.iadr 1 (.t 7) (.t 9)),
 .s 12 (.l 11),
 .s 6 (.m 12)],
 .reg [.s 13 (.l 2),
 .s 14 (.m 6),
 .s 15 (.m 0),
 .n (.act (.mset .s) [(.t 13), (.t 14), (.t 15)])],
 .reg [.s 16 (.bin .add (.t 9) (.i 1)),
 .s 9 (.m 16)]]⟩

/-- (*luminaire/grammar.reader).play -/
def F121 : FT := ⟨33, 2, [.cell 4 (some 19)],
 [.seq 1 2,
 .reg [.s 4 (.alloc 28 Z0)],
 .seq 3 4,
 .reg [.s 6 (.m 1),
 .s 7 (.m 0),
 .s 8 (.f 111 [(.t 7)]),
 .s 9 (.build Z0 [(0, 1, (.i 6)), (1, 1, (.t 6)), (4, 1, (.t 8))]),
 .s 5 (.alloc 28 Z0),
 .n (.store 19 (.t 5) (.t 9))],
 .seq 5 25,
 .seq 6 7,
 .reg [.s 10 (.m 1)],
 .block 0 8,
 .seq 9 10,
 .reg [.s 12 (.bin .eql (.t 10) (.w [103, 111, 116, 111])),
 .s 11 (.m 12)],
 .cond (.t 11) 11 14,
 .seq 12 13,
 .reg [.s 13 (.m 0),
 .s 14 (.bslice 9 1 [(.w [99, 117, 101])]),
 .s 15 (.f 109 [(.t 13), (.t 14)])],
 .reg [.s 16 (.m 0),
 .s 17 (.f 175 [(.t 16)]),
 .s 18 (.a 3 5),
 .n (.store 1 (.t 18) (.t 17))],
 .seq 15 16,
 .reg [.s 20 (.bin .eql (.t 10) (.w [114, 97, 116, 101])),
 .s 19 (.m 20)],
 .cond (.t 19) 17 20,
 .seq 18 19,
 .reg [.s 21 (.m 0),
 .s 22 (.bslice 9 1 [(.w [97, 116])]),
 .s 23 (.f 109 [(.t 21), (.t 22)])],
 .reg [.s 24 (.m 0),
 .s 25 (.f 141 [(.t 24), (.i 400)]),
 .s 26 (.a 7 5),
 .n (.store 1 (.t 26) (.t 25))],
 .seq 21 22,
 .reg [.s 28 (.bin .eql (.t 10) (.w [114, 101, 108, 101, 97, 115, 101])),
 .s 27 (.m 28)],
 .cond (.t 27) 23 24,
 .reg [.s 29 (.m 0),
 .s 30 (.f 113 [(.t 29)]),
 .s 31 (.a 9 5),
 .n (.store 1 (.t 31) (.t 30))],
 .skip,
 .seq 26 27,
 .reg [.s 32 (.load (some 19) (.t 5)),
 .n (.store 19 (.t 4) (.t 32))],
 .ret]⟩

/-- (*luminaire/grammar.reader).fader -/
def F122 : FT := ⟨23, 2, [.cell 4 (some 19)],
 [.seq 1 2,
 .reg [.s 4 (.alloc 28 Z0)],
 .seq 3 4,
 .reg [.s 6 (.m 1),
 .s 7 (.build Z0 [(0, 1, (.i 7)), (1, 1, (.t 6))]),
 .s 5 (.alloc 28 Z0),
 .n (.store 19 (.t 5) (.t 7))],
 .seq 5 10,
 .seq 6 7,
 .reg [.s 8 (.m 1),
 .s 9 (.bin .neq (.t 8) (.w [109, 97, 115, 116, 101, 114]))],
 .cond (.t 9) 8 9,
 .reg [.s 10 (.m 0),
 .s 11 (.f 111 [(.t 10)]),
 .s 12 (.a 4 5),
 .n (.store 1 (.t 12) (.t 11))],
 .skip,
 .seq 11 12,
 .reg [.s 13 (.m 0),
 .s 14 (.bslice 9 1 [(.w [97, 116])]),
 .s 15 (.f 109 [(.t 13), (.t 14)])],
 .seq 13 14,
 .reg [.s 16 (.m 0),
 .s 17 (.f 112 [(.t 16)]),
 .s 18 (.a 7 5),
 .n (.store 1 (.t 18) (.t 17))],
 .seq 15 16,
 .reg [.s 19 (.m 0),
 .s 20 (.f 113 [(.t 19)]),
 .s 21 (.a 9 5),
 .n (.store 1 (.t 21) (.t 20))],
 .seq 17 18,
 .reg [.s 22 (.load (some 19) (.t 5)),
 .n (.store 19 (.t 4) (.t 22))],
 .ret]⟩

/-- (*luminaire/grammar.reader).effect -/
def F123 : FT := ⟨26, 2, [.cell 4 (some 19)],
 [.seq 1 2,
 .reg [.s 4 (.alloc 28 Z0)],
 .seq 3 4,
 .reg [.s 6 (.m 1),
 .s 7 (.m 0),
 .s 8 (.f 111 [(.t 7)]),
 .s 9 (.build Z0 [(0, 1, (.i 8)), (1, 1, (.t 6)), (4, 1, (.t 8))]),
 .s 5 (.alloc 28 Z0),
 .n (.store 19 (.t 5) (.t 9))],
 .seq 5 12,
 .seq 6 7,
 .reg [.s 10 (.m 1),
 .s 11 (.bin .eql (.t 10) (.w [115, 116, 111, 112]))],
 .cond (.t 11) 8 11,
 .seq 9 10,
 .reg [.s 12 (.load (some 19) (.t 5)),
 .n (.store 19 (.t 4) (.t 12))],
 .ret,
 .skip,
 .seq 13 22,
 .seq 14 15,
 .reg [.s 13 (.m 0),
 .s 14 (.bslice 9 1 [(.w [111, 110]), (.w [97, 116])]),
 .s 15 (.f 109 [(.t 13), (.t 14)]),
 .s 16 (.bin .eql (.t 15) (.w [111, 110]))],
 .cond (.t 16) 16 21,
 .seq 17 18,
 .reg [.s 17 (.m 0),
 .s 18 (.f 45 [(.t 17)]),
 .s 19 (.a 5 5),
 .n (.store 1 (.t 19) (.t 18))],
 .seq 19 20,
 .reg [.s 20 (.load (some 19) (.t 5)),
 .n (.store 19 (.t 4) (.t 20))],
 .ret,
 .skip,
 .seq 23 24,
 .reg [.s 21 (.m 0),
 .s 22 (.f 141 [(.t 21), (.i 400)]),
 .s 23 (.a 1 5),
 .n (.store 1 (.t 23) (.w [115, 112, 101, 101, 100])),
 .s 24 (.a 7 5),
 .n (.store 1 (.t 24) (.t 22))],
 .seq 25 26,
 .reg [.s 25 (.load (some 19) (.t 5)),
 .n (.store 19 (.t 4) (.t 25))],
 .ret]⟩

/-- (*luminaire/grammar.reader).undo -/
def F124 : FT := ⟨7, 2, [.cell 4 (some 19)],
 [.seq 1 2,
 .reg [.s 4 (.alloc 28 Z0)],
 .seq 3 4,
 .reg [.s 5 (.m 1),
 .s 6 (.build Z0 [(0, 1, (.i 9)), (1, 1, (.t 5))]),
 .n (.store 19 (.t 4) (.t 6))],
 .ret]⟩

/-- (*luminaire/grammar.reader).int -/
def F141 : FT := ⟨28, 2, [.tmp 4],
 [.seq 1 2,
 .reg [.s 4 (.mv (.i 0))],
 .seq 3 4,
 .reg [.s 7 (.m 0),
 .s 8 (.f 168 [(.t 7)]),
 .s 5 (.m 8)],
 .seq 5 10,
 .seq 6 7,
 .reg [.s 9 (.m 5),
 .s 10 (.f 36 [(.t 9)]),
 .s 11 (.un .not (.t 10))],
 .cond (.t 11) 8 9,
 .reg [.s 12 (.m 0),
 .s 13 (.f 63 [(.t 12), (.i 4)])],
 .skip,
 .seq 11 12,
 .reg [.s 14 (.m 5),
 .s 15 (.f 38 [(.t 14)]),
 .s 6 (.m 15)],
 .seq 13 18,
 .seq 14 15,
 .reg [.s 16 (.m 6),
 .s 17 (.bin .lss (.t 16) (.i 1)),
 .s 18 (.m 17),
 .x 19 (.m 6) 18,
 .x 20 (.m 1) 18,
 .x 21 (.bin .gtr (.t 19) (.t 20)) 18,
 .s 22 (.pick (.t 18) (.c (.bool true)) (.t 21))],
 .cond (.t 22) 16 17,
 .reg [.s 23 (.m 0),
 .s 24 (.f 63 [(.t 23), (.i 2)])],
 .skip,
 .seq 19 20,
 .reg [.s 25 (.m 0),
 .s 26 (.f 66 [(.t 25)])],
 .seq 21 22,
 .reg [.s 27 (.m 6),
 .s 4 (.m 27)],
 .ret]⟩

/-- (*luminaire/grammar.reader).is -/
def F142 : FT := ⟨19, 3, [.tmp 6],
 [.seq 1 2,
 .reg [.s 6 (.mv (.c (.bool false)))],
 .seq 3 4,
 .reg [.s 7 (.m 0),
 .s 8 (.f 62 [(.t 7)]),
 .s 9 (.fld none 0 (.t 8)),
 .s 10 (.m 1),
 .s 11 (.bin .eql (.t 9) (.t 10)),
 .s 12 (.m 11),
 .y 13 (.m 0) 12,
 .y 14 (.f 62 [(.t 13)]) 12,
 .y 15 (.fld none 1 (.t 14)) 12,
 .y 16 (.m 2) 12,
 .y 17 (.bin .eql (.t 15) (.t 16)) 12,
 .s 18 (.pick (.t 12) (.t 17) (.c (.bool false))),
 .s 6 (.m 18)],
 .ret]⟩

/-- (*luminaire/grammar.reader).number -/
def F168 : FT := ⟨12, 1, [.tmp 2],
 [.seq 1 2,
 .reg [.s 2 (.mv (.w []))],
 .seq 3 8,
 .seq 4 5,
 .reg [.s 3 (.m 0),
 .s 4 (.f 62 [(.t 3)]),
 .s 5 (.fld none 0 (.t 4)),
 .s 6 (.bin .neq (.t 5) (.i 1))],
 .cond (.t 6) 6 7,
 .reg [.s 7 (.m 0),
 .s 8 (.f 63 [(.t 7), (.i 4)])],
 .skip,
 .seq 9 10,
 .reg [.s 9 (.m 0),
 .s 10 (.f 62 [(.t 9)]),
 .s 11 (.fld none 1 (.t 10)),
 .s 2 (.m 11)],
 .ret]⟩

/-- (*luminaire/grammar.reader).must -/
def F170 : FT := ⟨14, 2, [],
 [.seq 1 2,
 .reg [.s 4 (.m 1)],
 .block 0 3,
 .seq 4 5,
 .reg [.s 9 (.bin .eql (.t 4) (.i 0)),
 .s 8 (.m 9)],
 .cond (.t 8) 6 7,
 .skip,
 .seq 8 9,
 .reg [.s 11 (.bin .eql (.t 4) (.i 3)),
 .s 10 (.m 11)],
 .cond (.t 10) 10 11,
 .reg [.s 12 (.m 0),
 .s 13 (.f 63 [(.t 12), (.i 4)])],
 .reg [.s 5 (.m 0),
 .s 6 (.m 1),
 .s 7 (.f 63 [(.t 5), (.t 6)])]]⟩

/-- (*luminaire/grammar.reader).place -/
def F171 : FT := ⟨16, 2, [],
 [.seq 1 2,
 .reg [.s 4 (.m 1),
 .s 5 (.m 0),
 .s 6 (.f 111 [(.t 5)]),
 .s 7 (.k 4),
 .s 8 (.a 4 7),
 .n (.store 1 (.t 8) (.t 6))],
 .seq 3 4,
 .reg [.s 9 (.m 0),
 .s 10 (.f 174 [(.t 9)])],
 .reg [.s 11 (.m 1),
 .s 12 (.m 0),
 .s 13 (.f 175 [(.t 12)]),
 .s 14 (.k 11),
 .s 15 (.a 3 14),
 .n (.store 1 (.t 15) (.t 13))]]⟩

/-- (*luminaire/grammar.reader).unit -/
def F172 : FT := ⟨54, 1, [.cell 2 (some 7)],
 [.seq 1 2,
 .reg [.s 2 (.alloc 25 Z1)],
 .seq 3 4,
 .reg [.s 8 (.m 0),
 .s 9 (.f 168 [(.t 8)]),
 .s 10 (.f 35 [(.t 9), (.w [46])]),
 .s 7 (.m 10),
 .s 11 (.ext 0 (.t 7)),
 .s 12 (.ext 1 (.t 7)),
 .s 13 (.ext 2 (.t 7)),
 .s 3 (.m 11),
 .s 4 (.m 12),
 .s 5 (.m 13)],
 .seq 5 10,
 .seq 6 7,
 .reg [.s 14 (.m 5),
 .s 15 (.un .not (.t 14))],
 .cond (.t 15) 8 9,
 .reg [.s 4 (.mv (.w [49]))],
 .skip,
 .seq 11 16,
 .seq 12 13,
 .reg [.s 16 (.m 3),
 .s 17 (.f 36 [(.t 16)]),
 .s 18 (.un .not (.t 17)),
 .s 19 (.m 18),
 .x 20 (.m 4) 19,
 .x 21 (.f 36 [(.t 20)]) 19,
 .x 22 (.un .not (.t 21)) 19,
 .s 23 (.pick (.t 19) (.c (.bool true)) (.t 22))],
 .cond (.t 23) 14 15,
 .reg [.s 24 (.m 0),
 .s 25 (.f 63 [(.t 24), (.i 4)])],
 .skip,
 .seq 17 18,
 .reg [.s 26 (.m 3),
 .s 27 (.f 38 [(.t 26)]),
 .s 28 (.m 4),
 .s 29 (.f 38 [(.t 28)]),
 .s 30 (.build Z1 [(0, 1, (.t 27)), (1, 1, (.t 29))]),
 .s 6 (.alloc 25 Z1),
 .n (.store 7 (.t 6) (.t 30))],
 .seq 19 24,
 .seq 20 21,
 .reg [.s 31 (.a 0 6),
 .s 32 (.l 31),
 .s 33 (.bin .lss (.t 32) (.i 1)),
 .s 34 (.m 33),
 .x 35 (.a 0 6) 34,
 .x 36 (.l 35) 34,
 .x 37 (.bin .gtr (.t 36) (.i 999)) 34,
 .s 38 (.pick (.t 34) (.c (.bool true)) (.t 37)),
 .s 39 (.m 38),
 .x 40 (.a 1 6) 39,
 .x 41 (.l 40) 39,
 .x 42 (.bin .lss (.t 41) (.i 1)) 39,
 .s 43 (.pick (.t 39) (.c (.bool true)) (.t 42)),
 .s 44 (.m 43),
 .x 45 (.a 1 6) 44,
 .x 46 (.l 45) 44,
 .x 47 (.bin .gtr (.t 46) (.i 64)) 44,
 .s 48 (.pick (.t 44) (.c (.bool true)) (.t 47))],
 .cond (.t 48) 22 23,
 .reg [.s 49 (.m 0),
 .s 50 (.f 63 [(.t 49), (.i 2)])],
 .skip,
 .seq 25 26,
 .reg [.s 51 (.m 0),
 .s 52 (.f 66 [(.t 51)])],
 .seq 27 28,
 .reg [.s 53 (.load (some 7) (.t 6)),
 .n (.store 7 (.t 2) (.t 53))],
 .ret]⟩

/-- (*luminaire/grammar.reader).profile -/
def F173 : FT := ⟨24, 1, [.tmp 2],
 [.seq 1 2,
 .reg [.s 2 (.mv (.w []))],
 .seq 3 8,
 .seq 4 5,
 .reg [.s 3 (.m 0),
 .s 4 (.f 62 [(.t 3)]),
 .s 5 (.fld none 0 (.t 4)),
 .s 6 (.bin .neq (.t 5) (.i 0))],
 .cond (.t 6) 6 7,
 .reg [.s 7 (.m 0),
 .s 8 (.f 63 [(.t 7), (.i 4)])],
 .skip,
 .seq 9 21,
 .seq 10 11,
 .reg [.s 9 (.m 0),
 .s 10 (.f 62 [(.t 9)]),
 .s 11 (.fld none 1 (.t 10)),
 .s 12 (.f 207 [(.t 11)])],
 .block 0 12,
 .seq 13 14,
 .reg [.s 14 (.bin .eql (.t 12) (.i 8)),
 .s 13 (.m 14)],
 .cond (.t 13) 15 16,
 .reg [.s 15 (.m 0),
 .s 16 (.f 63 [(.t 15), (.i 4)])],
 .seq 17 18,
 .reg [.s 18 (.bin .eql (.t 12) (.i 13)),
 .s 17 (.m 18)],
 .cond (.t 17) 19 20,
 .reg [.s 19 (.m 0),
 .s 20 (.f 63 [(.t 19), (.i 8)])],
 .skip,
 .seq 22 23,
 .reg [.s 21 (.m 0),
 .s 22 (.f 66 [(.t 21)]),
 .s 23 (.fld none 1 (.t 22)),
 .s 2 (.m 23)],
 .ret]⟩

/-- (*luminaire/grammar.reader).slash -/
def F174 : FT := ⟨7, 1, [],
 [.seq 1 2,
 .reg [.s 2 (.m 0),
 .s 3 (.f 91 [(.t 2), (.w [47])]),
 .s 4 (.un .not (.t 3))],
 .cond (.t 4) 3 4,
 .reg [.s 5 (.m 0),
 .s 6 (.f 63 [(.t 5), (.i 4)])],
 .skip]⟩

/-- (*luminaire/grammar.reader).cue -/
def F175 : FT := ⟨11, 1, [.tmp 2],
 [.seq 1 2,
 .reg [.s 2 (.mv (.w []))],
 .seq 3 4,
 .reg [.s 3 (.m 0),
 .s 4 (.m 0),
 .s 5 (.f 168 [(.t 4)]),
 .s 6 (.f 208 [(.t 5)]),
 .s 7 (.f 170 [(.t 3), (.t 6)])],
 .seq 5 6,
 .reg [.s 8 (.m 0),
 .s 9 (.f 66 [(.t 8)]),
 .s 10 (.fld none 1 (.t 9)),
 .s 2 (.m 10)],
 .ret]⟩

/-- (*luminaire/grammar.reader).command -/
def F27 : FT := ⟨36, 1, [.cell 2 (some 19)],
 [.seq 1 2,
 .reg [.s 2 (.alloc 28 Z0)],
 .seq 3 4,
 .reg [.s 6 (.m 0),
 .s 7 (.f 62 [(.t 6)]),
 .s 3 (.alloc 111 [(.i 0), (.str []), (.i 0)]),
 .n (.store 3 (.t 3) (.t 7))],
 .seq 5 12,
 .seq 6 7,
 .reg [.s 8 (.a 0 3),
 .s 9 (.l 8),
 .s 10 (.bin .neq (.t 9) (.i 0)),
 .s 11 (.m 10),
 .x 12 (.a 1 3) 11,
 .x 13 (.l 12) 11,
 .x 14 (.bin .eql (.t 13) (.w [103, 114, 111, 117, 112])) 11,
 .s 15 (.pick (.t 11) (.c (.bool true)) (.t 14))],
 .cond (.t 15) 8 11,
 .seq 9 10,
 .reg [.s 16 (.m 0),
 .s 17 (.f 64 [(.t 16)]),
 .n (.store 19 (.t 2) (.t 17))],
 .ret,
 .skip,
 .seq 13 14,
 .greg [[], [], [], [], [false, false, false, false], [], [], [], [], []] [.s 19 (.m 0),
 .s 20 (.f 65 [(.t 19)]),
 .s 21 (.a 1 3),
 .s 22 (.l 21),
 .s 23 (.act (.look .s .nilf true) [(.t 20), (.t 22)]),
 .s 18 (.m 23),
 .s 24 (.ext 0 (.t 18)),
 .s 25 (.ext 1 (.t 18)),
 .s 4 (.m 24),
 .s 5 (.m 25)],
 .seq 15 20,
 .seq 16 17,
 .reg [.s 26 (.m 5),
 .s 27 (.un .not (.t 26))],
 .cond (.t 27) 18 19,
 .reg [.s 28 (.m 0),
 .s 29 (.f 63 [(.t 28), (.i 4)])],
 .skip,
 .seq 21 22,
 .reg [.s 30 (.m 0),
 .s 31 (.f 66 [(.t 30)])],
 .seq 23 24,
 .reg [.s 32 (.m 4),
 .s 33 (.a 1 3),
 .s 34 (.l 33),
 .s 35 (.call (.t 32) [(.t 34)]),
 .n (.store 19 (.t 2) (.t 35))],
 .ret]⟩

/-- (*luminaire/grammar.reader).selection -/
def F45 : FT := ⟨24, 1, [.tmp 2],
 [.seq 1 2,
 .reg [.s 2 (.mv (.c .nils))],
 .seq 3 4,
 .reg [.s 4 (.m 0),
 .s 5 (.f 90 [(.t 4), (.i 0)]),
 .s 6 (.bslice 43 4 [(.t 5)]),
 .s 3 (.m 6)],
 .block 0 5,
 .loop 6,
 .block 1 7,
 .block 2 8,
 .seq 9 10,
 .reg [.s 9 (.m 0),
 .s 10 (.f 91 [(.t 9), (.w [43])]),
 .s 8 (.m 10)],
 .cond (.t 8) 11 12,
 .reg [.s 11 (.m 3),
 .s 12 (.m 0),
 .s 13 (.f 90 [(.t 12), (.i 0)]),
 .s 14 (.bslice 43 4 [(.t 13)]),
 .s 15 (.append 43 4 32 (.t 11) (.t 14)),
 .s 3 (.m 15)],
 .seq 13 14,
 .reg [.s 17 (.m 0),
 .s 18 (.f 91 [(.t 17), (.w [45])]),
 .s 16 (.m 18)],
 .cond (.t 16) 15 16,
 .reg [.s 19 (.m 3),
 .s 20 (.m 0),
 .s 21 (.f 90 [(.t 20), (.i 1)]),
 .s 22 (.bslice 43 4 [(.t 21)]),
 .s 23 (.append 43 4 32 (.t 19) (.t 22)),
 .s 3 (.m 23)],
 .seq 17 18,
 .reg [.s 7 (.m 3),
 .s 2 (.m 7)],
 .ret]⟩

/-- luminaire/grammar.Attr -/
def F13 : FT := ⟨31, 1, [.tmp 2, .tmp 3],
 [.seq 1 2,
 .reg [.s 2 (.mv (.i 0)),
 .s 3 (.mv (.i 0))],
 .seq 3 10,
 .seq 4 5,
 .reg [.s 8 (.m 0),
 .s 9 (.bin .eql (.t 8) (.w [])),
 .s 10 (.m 9),
 .x 11 (.m 0) 10,
 .x 12 (.f 23 [(.t 11), (.w [32])]) 10,
 .s 13 (.pick (.t 10) (.c (.bool true)) (.t 12))],
 .cond (.t 13) 6 9,
 .seq 7 8,
 .reg [.s 2 (.mv (.i 0)),
 .s 3 (.mv (.i 8))],
 .ret,
 .skip,
 .seq 11 20,
 .seq 12 13,
 .reg [.s 14 (.f 32 [(.w [105, 110, 116, 101, 110, 115, 105, 116, 121, 32, 112, 97, 110, 32, 116, 105, 108, 116, 32, 114, 101, 100, 32, 103, 114, 101, 101, 110, 32, 98, 108, 117, 101, 32, 119, 104, 105, 116, 101, 32, 97, 109, 98, 101, 114, 32, 99, 121, 97, 110, 32, 109, 97, 103, 101, 110, 116, 97, 32, 121, 101, 108, 108, 111, 119, 32, 103, 111, 98, 111, 32, 115, 104, 117, 116, 116, 101, 114, 32, 122, 111, 111, 109, 32, 102, 111, 99, 117, 115])]),
 .s 15 (.m 0),
 .s 16 (.f 31 [(.t 14), (.t 15)]),
 .s 4 (.m 16)],
 .seq 14 15,
 .reg [.s 17 (.m 4),
 .s 18 (.bin .geq (.t 17) (.i 0))],
 .cond (.t 18) 16 19,
 .seq 17 18,
 .reg [.s 19 (.m 4),
 .s 2 (.m 19),
 .s 3 (.mv (.i 0))],
 .ret,
 .skip,
 .seq 21 22,
 .reg [.s 20 (.act .mkmap []),
 .n (.act (.mset .s) [(.t 20), (.w [112, 111, 115, 105, 116, 105, 111, 110]), (.i 1)]),
 .n (.act (.mset .s) [(.t 20), (.w [99, 111, 108, 111, 117, 114]), (.i 2)]),
 .n (.act (.mset .s) [(.t 20), (.w [98, 101, 97, 109]), (.i 3)]),
 .s 21 (.m 20),
 .s 5 (.m 21)],
 .seq 23 32,
 .seq 24 25,
 .reg [.s 23 (.m 5),
 .s 24 (.m 0),
 .s 25 (.act (.look .s (.i 0) true) [(.t 23), (.t 24)]),
 .s 22 (.m 25),
 .s 26 (.ext 0 (.t 22)),
 .s 27 (.ext 1 (.t 22)),
 .s 6 (.m 26),
 .s 7 (.m 27)],
 .seq 26 27,
 .reg [.s 28 (.m 7)],
 .cond (.t 28) 28 31,
 .seq 29 30,
 .reg [.s 29 (.m 6),
 .s 30 (.bin .add (.i 15) (.t 29)),
 .s 2 (.m 30),
 .s 3 (.mv (.i 0))],
 .ret,
 .skip,
 .seq 33 34,
 .reg [.s 2 (.mv (.i 0)),
 .s 3 (.mv (.i 8))],
 .ret]⟩

/-- luminaire/grammar.Seconds -/
def F15 : FT := ⟨47, 1, [.tmp 2, .tmp 3],
 [.seq 1 2,
 .reg [.s 2 (.mv (.i 0)),
 .s 3 (.mv (.i 0))],
 .seq 3 4,
 .reg [.s 9 (.m 0),
 .s 10 (.f 35 [(.t 9), (.w [46])]),
 .s 8 (.m 10),
 .s 11 (.ext 0 (.t 8)),
 .s 12 (.ext 1 (.t 8)),
 .s 13 (.ext 2 (.t 8)),
 .s 4 (.m 11),
 .s 5 (.m 12),
 .s 6 (.m 13)],
 .seq 5 12,
 .seq 6 7,
 .reg [.s 14 (.m 4),
 .s 15 (.f 36 [(.t 14)]),
 .s 16 (.un .not (.t 15)),
 .s 17 (.m 16),
 .x 18 (.m 6) 17,
 .x 19 (.m 18) 17,
 .y 20 (.m 5) 19,
 .y 21 (.bin .eql (.t 20) (.w [])) 19,
 .y 22 (.m 21) 19,
 .x 23 (.m 5) 22,
 .x 24 (.lens (.t 23)) 22,
 .x 25 (.bin .gtr (.t 24) (.i 3)) 22,
 .y 26 (.pick (.t 22) (.c (.bool true)) (.t 25)) 19,
 .y 27 (.m 26) 19,
 .x 28 (.m 5) 27,
 .x 29 (.f 37 [(.t 28), (.w [48, 49, 50, 51, 52, 53, 54, 55, 56, 57])]) 27,
 .x 30 (.bin .neq (.t 29) (.w [])) 27,
 .y 31 (.pick (.t 27) (.c (.bool true)) (.t 30)) 19,
 .x 32 (.pick (.t 19) (.t 31) (.c (.bool false))) 17,
 .s 33 (.pick (.t 17) (.c (.bool true)) (.t 32))],
 .cond (.t 33) 8 11,
 .seq 9 10,
 .reg [.s 2 (.mv (.i 0)),
 .s 3 (.mv (.i 3))],
 .ret,
 .skip,
 .seq 13 14,
 .dreg 11 [.s 34 (.m 4),
 .s 35 (.f 38 [(.t 34)]),
 .s 36 (.bin .mul (.i 1000) (.t 35)),
 .s 37 (.m 5),
 .s 38 (.bin .add (.t 37) (.w [48, 48, 48])),
 .s 39 (.slices (.t 38) none (some (.i 3))),
 .s 40 (.bin .add (.w [49]) (.t 39)),
 .s 41 (.f 38 [(.t 40)]),
 .s 42 (.bin .add (.t 36) (.t 41)),
 .s 43 (.bin .sub (.t 42) (.i 1000)),
 .s 7 (.m 43)],
 .seq 15 22,
 .seq 16 17,
 .reg [.s 44 (.m 7),
 .s 45 (.bin .gtr (.t 44) (.i 10000000))],
 .cond (.t 45) 18 21,
 .seq 19 20,
 .reg [.s 2 (.mv (.i 0)),
 .s 3 (.mv (.i 2))],
 .ret,
 .skip,
 .seq 23 24,
 .reg [.s 46 (.m 7),
 .s 2 (.m 46),
 .s 3 (.mv (.i 0))],
 .ret]⟩

/-- luminaire/grammar.digits -/
def F36 : FT := ⟨20, 1, [.tmp 2],
 [.seq 1 2,
 .reg [.s 2 (.mv (.c (.bool false)))],
 .seq 3 4,
 .reg [.s 3 (.m 0),
 .s 4 (.bin .neq (.t 3) (.w [])),
 .s 5 (.m 4),
 .y 6 (.m 0) 5,
 .y 7 (.f 37 [(.t 6), (.w [48, 49, 50, 51, 52, 53, 54, 55, 56, 57])]) 5,
 .y 8 (.bin .eql (.t 7) (.w [])) 5,
 .s 9 (.pick (.t 5) (.t 8) (.c (.bool false))),
 .s 10 (.m 9),
 .y 11 (.m 0) 10,
 .y 12 (.lens (.t 11)) 10,
 .y 13 (.bin .eql (.t 12) (.i 1)) 10,
 .y 14 (.m 13) 10,
 .x 15 (.m 0) 14,
 .x 16 (.ichr (.t 15) (.i 0)) 14,
 .x 17 (.bin .neq (.t 16) (.c (.int .u8 48))) 14,
 .y 18 (.pick (.t 14) (.c (.bool true)) (.t 17)) 10,
 .s 19 (.pick (.t 10) (.t 18) (.c (.bool false))),
 .s 2 (.m 19)],
 .ret]⟩

/-- luminaire/grammar.value -/
def F38 : FT := ⟨14, 1, [.tmp 2],
 [.seq 1 2,
 .reg [.s 2 (.mv (.i 0))],
 .seq 3 4,
 .reg [.s 6 (.m 0),
 .s 7 (.f 87 [(.t 6)]),
 .s 5 (.m 7),
 .s 8 (.ext 0 (.t 5)),
 .s 9 (.ext 1 (.t 5)),
 .s 3 (.m 8),
 .s 4 (.m 9)],
 .seq 5 12,
 .seq 6 7,
 .reg [.s 10 (.m 4),
 .s 11 (.gen (.eqi true) [(.t 10)])],
 .cond (.t 11) 8 11,
 .seq 9 10,
 .reg [.s 2 (.mv (.i 1099511627776))],
 .ret,
 .skip,
 .seq 13 14,
 .reg [.s 12 (.m 3),
 .s 13 (.gen .mn [(.t 12), (.i 1099511627776)]),
 .s 2 (.m 13)],
 .ret]⟩

/-- slices.Index[[]string,string] -/
def F31 : FT := ⟨19, 2, [.tmp 4],
 [.seq 1 2,
 .reg [.s 4 (.mv (.i 0))],
 .seq 3 25,
 .seq 4 5,
 .reg [.s 6 (.m 0),
 .s 7 (.len (.t 6)),
 .s 8 (.mv (.i 0))],
 .block 0 6,
 .loop 7,
 .seq 8 9,
 .reg [.s 9 (.bin .lss (.t 8) (.t 7))],
 .seq 10 13,
 .cond (.t 9) 11 12,
 .skip,
 .exit 0,
 .seq 14 24,
 .block 1 15,
 .seq 16 17,
 .reg [.s 10 (.m 8),
 .s 5 (.m 10)],
 .seq 18 19,
 .reg [.s 11 (.m 1),
 .s 12 (.m 0),
 .s 13 (.m 5),
 .s 14 (.iadr 1 (.t 12) (.t 13)),
 .s 15 (.l 14),
 .s 16 (.bin .eql (.t 11) (.t 15))],
 .cond (.t 16) 20 23,
 .seq 21 22,
 .reg [.s 17 (.m 5),
 .s 4 (.m 17)],
 .ret,
 .skip,
 .reg [.s 18 (.bin .add (.t 8) (.i 1)),
 .s 8 (.m 18)],
 .seq 26 27,
 .reg [.s 4 (.mv (.i (-1)))],
 .ret]⟩

/-- internal/stringslite.Cut -/
def F83 : FT := ⟨23, 2, [.tmp 4, .tmp 5, .tmp 6],
 [.seq 1 2,
 .reg [.s 4 (.mv (.w [])),
 .s 5 (.mv (.w [])),
 .s 6 (.mv (.c (.bool false)))],
 .seq 3 12,
 .seq 4 5,
 .reg [.s 8 (.m 0),
 .s 9 (.m 1),
 .s 10 (.f 98 [(.t 8), (.t 9)]),
 .s 7 (.m 10)],
 .seq 6 7,
 .reg [.s 11 (.m 7),
 .s 12 (.bin .geq (.t 11) (.i 0))],
 .cond (.t 12) 8 11,
 .seq 9 10,
 .dreg 12 [.s 13 (.m 0),
 .s 14 (.m 7),
 .s 15 (.slices (.t 13) none (some (.t 14))),
 .s 16 (.m 0),
 .s 17 (.m 7),
 .s 18 (.m 1),
 .s 19 (.lens (.t 18)),
 .s 20 (.bin .add (.t 17) (.t 19)),
 .s 21 (.slices (.t 16) (some (.t 20)) none),
 .s 4 (.m 15),
 .s 5 (.m 21),
 .s 6 (.mv (.c (.bool true)))],
 .ret,
 .skip,
 .seq 13 14,
 .reg [.s 22 (.m 0),
 .s 4 (.m 22),
 .s 5 (.mv (.w [])),
 .s 6 (.mv (.c (.bool false)))],
 .ret]⟩

/-- strings.Cut -/
def F35 : FT := ⟨13, 2, [.tmp 4, .tmp 5, .tmp 6],
 [.seq 1 2,
 .reg [.s 4 (.mv (.w [])),
 .s 5 (.mv (.w [])),
 .s 6 (.mv (.c (.bool false)))],
 .seq 3 4,
 .reg [.s 7 (.m 0),
 .s 8 (.m 1),
 .s 9 (.f 83 [(.t 7), (.t 8)]),
 .s 10 (.ext 0 (.t 9)),
 .s 11 (.ext 1 (.t 9)),
 .s 12 (.ext 2 (.t 9)),
 .s 4 (.m 10),
 .s 5 (.m 11),
 .s 6 (.m 12)],
 .ret]⟩

theorem F62_ok : compFn Tryz.prog 62 = some F62 := by kernel_rfl
theorem F63_ok : compFn Tryz.prog 63 = some F63 := by kernel_rfl
theorem F64_ok : compFn Tryz.prog 64 = some F64 := by kernel_rfl
theorem F65_ok : compFn Tryz.prog 65 = some F65 := by kernel_rfl
theorem F66_ok : compFn Tryz.prog 66 = some F66 := by kernel_rfl
theorem F90_ok : compFn Tryz.prog 90 = some F90 := by kernel_rfl
theorem F91_ok : compFn Tryz.prog 91 = some F91 := by kernel_rfl
theorem F108_ok : compFn Tryz.prog 108 = some F108 := by kernel_rfl
theorem F109_ok : compFn Tryz.prog 109 = some F109 := by kernel_rfl
theorem F110_ok : compFn Tryz.prog 110 = some F110 := by kernel_rfl
theorem F111_ok : compFn Tryz.prog 111 = some F111 := by kernel_rfl
theorem F112_ok : compFn Tryz.prog 112 = some F112 := by kernel_rfl
theorem F113_ok : compFn Tryz.prog 113 = some F113 := by kernel_rfl
theorem F114_ok : compFn Tryz.prog 114 = some F114 := by kernel_rfl
theorem F115_ok : compFn Tryz.prog 115 = some F115 := by kernel_rfl
theorem F116_ok : compFn Tryz.prog 116 = some F116 := by kernel_rfl
theorem F117_ok : compFn Tryz.prog 117 = some F117 := by kernel_rfl
theorem F118_ok : compFn Tryz.prog 118 = some F118 := by kernel_rfl
theorem F119_ok : compFn Tryz.prog 119 = some F119 := by kernel_rfl
theorem F120_ok : compFn Tryz.prog 120 = some F120 := by kernel_rfl
theorem F121_ok : compFn Tryz.prog 121 = some F121 := by kernel_rfl
theorem F122_ok : compFn Tryz.prog 122 = some F122 := by kernel_rfl
theorem F123_ok : compFn Tryz.prog 123 = some F123 := by kernel_rfl
theorem F124_ok : compFn Tryz.prog 124 = some F124 := by kernel_rfl
theorem F141_ok : compFn Tryz.prog 141 = some F141 := by kernel_rfl
theorem F142_ok : compFn Tryz.prog 142 = some F142 := by kernel_rfl
theorem F168_ok : compFn Tryz.prog 168 = some F168 := by kernel_rfl
theorem F170_ok : compFn Tryz.prog 170 = some F170 := by kernel_rfl
theorem F171_ok : compFn Tryz.prog 171 = some F171 := by kernel_rfl
theorem F172_ok : compFn Tryz.prog 172 = some F172 := by kernel_rfl
theorem F173_ok : compFn Tryz.prog 173 = some F173 := by kernel_rfl
theorem F174_ok : compFn Tryz.prog 174 = some F174 := by kernel_rfl
theorem F175_ok : compFn Tryz.prog 175 = some F175 := by kernel_rfl
theorem F27_ok : compFn Tryz.prog 27 = some F27 := by kernel_rfl
theorem F45_ok : compFn Tryz.prog 45 = some F45 := by kernel_rfl
theorem F13_ok : compFn Tryz.prog 13 = some F13 := by kernel_rfl
theorem F15_ok : compFn Tryz.prog 15 = some F15 := by kernel_rfl
theorem F36_ok : compFn Tryz.prog 36 = some F36 := by kernel_rfl
theorem F38_ok : compFn Tryz.prog 38 = some F38 := by kernel_rfl
theorem F31_ok : compFn Tryz.prog 31 = some F31 := by kernel_rfl
theorem F83_ok : compFn Tryz.prog 83 = some F83 := by kernel_rfl
theorem F35_ok : compFn Tryz.prog 35 = some F35 := by kernel_rfl
end Go.Proofs.YtnondemehfkalaaGreatDoor

namespace Go.Proofs
open Go.Shelf
def Tryz.lays158_ren : Go.Shelf.Ren := ⟨fun | 158 => 25 | 165 => 54 | 166 => 55 | 167 => 56 | 169 => 57 | 230 => 58 | 203 => 59 | 240 => 101 | 241 => 102 | 197 => 100 | 118 => 103 | 168 => 104 | 270 => 105 | 262 => 106 | 276 => 152 | 277 => 153 | 260 => 151 | 242 => 154 | 313 => 155 | 278 => 202 | 274 => 203 | 275 => 204 | n => n, fun | 9 => 9 | 4 => 4 | 3 => 3 | 5 => 5 | 72 => 93 | 0 => 0 | 76 => 97 | 75 => 96 | 107 => 102 | 70 => 90 | 20 => 20 | 37 => 91 | 127 => 132 | 21 => 21 | 105 => 129 | 164 => 163 | 162 => 169 | 203 => 167 | 119 => 123 | 46 => 162 | 139 => 201 | 138 => 200 | 51 => 50 | 160 => 202 | 208 => 218 | 206 => 216 | 80 => 100 | n => n, fun | 13 => 3 | 3 => 5 | 4 => 6 | n => n⟩
theorem Tryz.lays158 : Go.Proofs.Lays.n158 Tryz.prog Tryz.lays158_ren := {
  mixed := by kernel_rfl
  f118 := Tryz.func103.trans (congrArg some (by kernel_rfl))
  f158 := Tryz.func25.trans (congrArg some (by kernel_rfl))
  f165 := Tryz.func54.trans (congrArg some (by kernel_rfl))
  f166 := Tryz.func55.trans (congrArg some (by kernel_rfl))
  f167 := Tryz.func56.trans (congrArg some (by kernel_rfl))
  f168 := Tryz.func104.trans (congrArg some (by kernel_rfl))
  f169 := Tryz.func57.trans (congrArg some (by kernel_rfl))
  f197 := Tryz.func100.trans (congrArg some (by kernel_rfl))
  f203 := Tryz.func59.trans (congrArg some (by kernel_rfl))
  f230 := Tryz.func58.trans (congrArg some (by kernel_rfl))
  f240 := Tryz.func101.trans (congrArg some (by kernel_rfl))
  f241 := Tryz.func102.trans (congrArg some (by kernel_rfl))
  f242 := Tryz.func154.trans (congrArg some (by kernel_rfl))
  f260 := Tryz.func151.trans (congrArg some (by kernel_rfl))
  f262 := Tryz.func106.trans (congrArg some (by kernel_rfl))
  f270 := Tryz.func105.trans (congrArg some (by kernel_rfl))
  f274 := Tryz.func203.trans (congrArg some (by kernel_rfl))
  f275 := Tryz.func204.trans (congrArg some (by kernel_rfl))
  f276 := Tryz.func152.trans (congrArg some (by kernel_rfl))
  f277 := Tryz.func153.trans (congrArg some (by kernel_rfl))
  f278 := Tryz.func202.trans (congrArg some (by kernel_rfl))
  f313 := Tryz.func155.trans (congrArg some (by kernel_rfl))
  t0 := Tryz.underlying0
  a0 := Tryz.isAgg0
  z0 := Tryz.sizeOf0
  v0 := Tryz.zeroValue0
  t3 := Tryz.underlying3
  a3 := Tryz.isAgg3
  z3 := Tryz.sizeOf3
  v3 := Tryz.zeroValue3
  t4 := Tryz.underlying4
  a4 := Tryz.isAgg4
  z4 := Tryz.sizeOf4
  v4 := Tryz.zeroValue4
  t5 := Tryz.underlying5
  a5 := Tryz.isAgg5
  z5 := Tryz.sizeOf5
  v5 := Tryz.zeroValue5
  t9 := Tryz.underlying9
  a9 := Tryz.isAgg9
  z9 := Tryz.sizeOf9
  v9 := Tryz.zeroValue9
  t20 := Tryz.underlying20
  a20 := Tryz.isAgg20
  z20 := Tryz.sizeOf20
  v20 := Tryz.zeroValue20
  t21 := Tryz.underlying21
  a21 := Tryz.isAgg21
  z21 := Tryz.sizeOf21
  v21 := Tryz.zeroValue21
  t37 := Tryz.underlying91
  a37 := Tryz.isAgg91
  z37 := Tryz.sizeOf91
  v37 := Tryz.zeroValue91
  t46 := Tryz.underlying162
  a46 := Tryz.isAgg162
  z46 := Tryz.sizeOf162
  v46 := Tryz.zeroValue162
  t51 := Tryz.underlying50
  a51 := Tryz.isAgg50
  z51 := Tryz.sizeOf50
  v51 := Tryz.zeroValue50
  t70 := Tryz.underlying90
  a70 := Tryz.isAgg90
  z70 := Tryz.sizeOf90
  v70 := Tryz.zeroValue90
  t72 := Tryz.underlying93
  a72 := Tryz.isAgg93
  z72 := Tryz.sizeOf93
  v72 := Tryz.zeroValue93
  t75 := Tryz.underlying96
  a75 := Tryz.isAgg96
  z75 := Tryz.sizeOf96
  v75 := Tryz.zeroValue96
  t76 := Tryz.underlying97
  a76 := Tryz.isAgg97
  z76 := Tryz.sizeOf97
  v76 := Tryz.zeroValue97
  t105 := Tryz.underlying129
  a105 := Tryz.isAgg129
  z105 := Tryz.sizeOf129
  v105 := Tryz.zeroValue129
  t107 := Tryz.underlying102
  a107 := Tryz.isAgg102
  z107 := Tryz.sizeOf102
  v107 := Tryz.zeroValue102
  t119 := Tryz.underlying123
  a119 := Tryz.isAgg123
  z119 := Tryz.sizeOf123
  t127 := Tryz.underlying132
  a127 := Tryz.isAgg132
  z127 := Tryz.sizeOf132
  v127 := Tryz.zeroValue132
  t138 := Tryz.underlying200
  a138 := Tryz.isAgg200
  z138 := Tryz.sizeOf200
  v138 := Tryz.zeroValue200
  t139 := Tryz.underlying201
  a139 := Tryz.isAgg201
  z139 := Tryz.sizeOf201
  v139 := Tryz.zeroValue201
  t160 := Tryz.underlying202
  a160 := Tryz.isAgg202
  z160 := Tryz.sizeOf202
  v160 := Tryz.zeroValue202
  t162 := Tryz.underlying169
  a162 := Tryz.isAgg169
  z162 := Tryz.sizeOf169
  v162 := Tryz.zeroValue169
  t164 := Tryz.underlying163
  a164 := Tryz.isAgg163
  z164 := Tryz.sizeOf163
  v164 := Tryz.zeroValue163
  t203 := Tryz.underlying167
  a203 := Tryz.isAgg167
  z203 := Tryz.sizeOf167
  v203 := Tryz.zeroValue167
  t206 := Tryz.underlying216
  a206 := Tryz.isAgg216
  z206 := Tryz.sizeOf216
  v206 := Tryz.zeroValue216
  t208 := Tryz.underlying218
  a208 := Tryz.isAgg218
  z208 := Tryz.sizeOf218
  v208 := Tryz.zeroValue218
  g3 := by kernel_rfl
  g4 := by kernel_rfl
  g13 := by kernel_rfl }
theorem Tryz.Builder_Extra_158 : Builder.Extra Tryz.prog Tryz.lays158_ren := {
  sizeBuilder := by kernel_rfl
  liesBuilder := by kernel_rfl
  t5 := Tryz.underlying5
  a5 := Tryz.isAgg5
  z5 := Tryz.sizeOf5
  v5 := Tryz.zeroValue5
  infoByte := by kernel_rfl
  cellsByte := by kernel_rfl
  sizeByte := by kernel_rfl
  neB5 := by decide }
open Go.RowKit in
/-- strings.ToUpper: "ToUpper returns s with all Unicode letters mapped to their upper case.": ON ASCII TEXT OF AT MOST 2^47 BYTES. Below the heap's end the world is as it was: where a letter turns, the call makes a builder and its buffer. (LAID: no walk: one application.) -/
theorem Tryz.strings_ToUpper_ascii (s : ByteArray) (w : World) (hs : s.size ≤ 140737488355328) (hascii : ∀ (j : Nat) (b : UInt8), s.data.toList[j]? = some b → b.toNat < 128) :
    Calls Tryz.prog 25 #[.string s] w fun e w' => e = .returned (.string ⟨(Lib.toUpperA s.data.toList).toArray⟩) ∧ Below w.heap.size w w' := Any.strings_ToUpper_ascii Tryz.lays158 Tryz.Builder_Extra_158 s w hs hascii
def Tryz.lays162_ren : Go.Shelf.Ren := ⟨fun | 162 => 22 | 232 => 48 | 227 => 49 | 234 => 50 | 236 => 51 | 228 => 95 | 271 => 96 | 151 => 97 | 120 => 143 | 197 => 100 | 152 => 144 | 260 => 151 | 137 => 198 | 119 => 199 | 224 => 147 | 225 => 146 | 217 => 145 | 266 => 200 | n => n, fun | 9 => 9 | 4 => 4 | 3 => 3 | 5 => 5 | 117 => 84 | 116 => 83 | 0 => 0 | 124 => 87 | 21 => 21 | 105 => 129 | 46 => 162 | 119 => 123 | 139 => 201 | 138 => 200 | n => n, fun | 3 => 5 | 4 => 6 | n => n⟩
theorem Tryz.lays162 : Go.Proofs.Lays.n162 Tryz.prog Tryz.lays162_ren := {
  mixed := by kernel_rfl
  f119 := Tryz.func199.trans (congrArg some (by kernel_rfl))
  f120 := Tryz.func143.trans (congrArg some (by kernel_rfl))
  f137 := Tryz.func198.trans (congrArg some (by kernel_rfl))
  f151 := Tryz.func97.trans (congrArg some (by kernel_rfl))
  f152 := Tryz.func144.trans (congrArg some (by kernel_rfl))
  f162 := Tryz.func22.trans (congrArg some (by kernel_rfl))
  f197 := Tryz.func100.trans (congrArg some (by kernel_rfl))
  f217 := Tryz.func145.trans (congrArg some (by kernel_rfl))
  f224 := Tryz.func147.trans (congrArg some (by kernel_rfl))
  f225 := Tryz.func146.trans (congrArg some (by kernel_rfl))
  f227 := Tryz.func49.trans (congrArg some (by kernel_rfl))
  f228 := Tryz.func95.trans (congrArg some (by kernel_rfl))
  f232 := Tryz.func48.trans (congrArg some (by kernel_rfl))
  f234 := Tryz.func50.trans (congrArg some (by kernel_rfl))
  f236 := Tryz.func51.trans (congrArg some (by kernel_rfl))
  f260 := Tryz.func151.trans (congrArg some (by kernel_rfl))
  f266 := Tryz.func200.trans (congrArg some (by kernel_rfl))
  f271 := Tryz.func96.trans (congrArg some (by kernel_rfl))
  t0 := Tryz.underlying0
  a0 := Tryz.isAgg0
  z0 := Tryz.sizeOf0
  v0 := Tryz.zeroValue0
  t3 := Tryz.underlying3
  a3 := Tryz.isAgg3
  z3 := Tryz.sizeOf3
  v3 := Tryz.zeroValue3
  t4 := Tryz.underlying4
  a4 := Tryz.isAgg4
  z4 := Tryz.sizeOf4
  v4 := Tryz.zeroValue4
  t5 := Tryz.underlying5
  a5 := Tryz.isAgg5
  z5 := Tryz.sizeOf5
  v5 := Tryz.zeroValue5
  t9 := Tryz.underlying9
  a9 := Tryz.isAgg9
  z9 := Tryz.sizeOf9
  v9 := Tryz.zeroValue9
  t21 := Tryz.underlying21
  a21 := Tryz.isAgg21
  z21 := Tryz.sizeOf21
  v21 := Tryz.zeroValue21
  t46 := Tryz.underlying162
  a46 := Tryz.isAgg162
  z46 := Tryz.sizeOf162
  v46 := Tryz.zeroValue162
  t105 := Tryz.underlying129
  a105 := Tryz.isAgg129
  z105 := Tryz.sizeOf129
  v105 := Tryz.zeroValue129
  t116 := Tryz.underlying83
  a116 := Tryz.isAgg83
  z116 := Tryz.sizeOf83
  t117 := Tryz.underlying84
  a117 := Tryz.isAgg84
  z117 := Tryz.sizeOf84
  v117 := Tryz.zeroValue84
  t119 := Tryz.underlying123
  a119 := Tryz.isAgg123
  z119 := Tryz.sizeOf123
  t124 := Tryz.underlying87
  a124 := Tryz.isAgg87
  z124 := Tryz.sizeOf87
  v124 := Tryz.zeroValue87
  t138 := Tryz.underlying200
  a138 := Tryz.isAgg200
  z138 := Tryz.sizeOf200
  v138 := Tryz.zeroValue200
  t139 := Tryz.underlying201
  a139 := Tryz.isAgg201
  z139 := Tryz.sizeOf201
  v139 := Tryz.zeroValue201
  g3 := by kernel_rfl
  g4 := by kernel_rfl }
open Go.RowKit in
/-- strings.TrimRight: "TrimRight returns a slice of the string s, with all trailing Unicode code points contained in cutset removed.": AT A cutset OF ONE ASCII BYTE. The world is as it was. (LAID: no walk: one application.) -/
theorem Tryz.strings_TrimRight_one (s : ByteArray) (c : UInt8) (hc : c.toNat < 128) (w : World) (hs : s.size ≤ 9223372036854775807) :
    Calls Tryz.prog 22 #[.string s, .string ⟨#[c]⟩] w fun e w' => e = .returned (.string ⟨(Lib.trimRightB s.data.toList c).toArray⟩) ∧ w' = w := Any.strings_TrimRight_one Tryz.lays162 s c hc w hs
def Tryz.laysM171_ren : Go.Shelf.Ren := ⟨fun | 171 => 17 | 243 => 43 | 246 => 88 | 283 => 137 | 284 => 138 | 285 => 139 | 286 => 140 | 129 => 194 | 317 => 193 | 318 => 195 | 319 => 196 | 320 => 197 | 337 => 217 | 338 => 218 | n => n, fun | 3 => 3 | 9 => 9 | 2 => 2 | 4 => 4 | 171 => 153 | 0 => 0 | 53 => 154 | 37 => 91 | 5 => 5 | 173 => 157 | 212 => 193 | 51 => 50 | 20 => 20 | 213 => 194 | 46 => 162 | 232 => 227 | 233 => 228 | n => n, fun | 17 => 4 | 18 => 9 | 19 => 10 | n => n⟩
theorem Tryz.laysM171 : Go.Proofs.LaysM.n171 Tryz.prog Tryz.laysM171_ren := {
  mixed := by kernel_rfl
  f129 := Tryz.func194.trans (congrArg some (by kernel_rfl))
  f171 := Tryz.func17.trans (congrArg some (by kernel_rfl))
  f243 := Tryz.func43.trans (congrArg some (by kernel_rfl))
  f246 := Tryz.func88.trans (congrArg some (by kernel_rfl))
  f283 := Tryz.func137.trans (congrArg some (by kernel_rfl))
  f284 := Tryz.func138.trans (congrArg some (by kernel_rfl))
  f285 := Tryz.func139.trans (congrArg some (by kernel_rfl))
  f286 := Tryz.func140.trans (congrArg some (by kernel_rfl))
  f317 := Tryz.func193.trans (congrArg some (by kernel_rfl))
  f318 := Tryz.func195.trans (congrArg some (by kernel_rfl))
  f319 := Tryz.func196.trans (congrArg some (by kernel_rfl))
  f320 := Tryz.func197.trans (congrArg some (by kernel_rfl))
  f337 := Tryz.func217.trans (congrArg some (by kernel_rfl))
  f338 := Tryz.func218.trans (congrArg some (by kernel_rfl))
  t0 := Tryz.underlying0
  a0 := Tryz.isAgg0
  z0 := Tryz.sizeOf0
  v0 := Tryz.zeroValue0
  t2 := Tryz.underlying2
  a2 := Tryz.isAgg2
  z2 := Tryz.sizeOf2
  v2 := Tryz.zeroValue2
  t3 := Tryz.underlying3
  a3 := Tryz.isAgg3
  z3 := Tryz.sizeOf3
  v3 := Tryz.zeroValue3
  t4 := Tryz.underlying4
  a4 := Tryz.isAgg4
  z4 := Tryz.sizeOf4
  v4 := Tryz.zeroValue4
  t5 := Tryz.underlying5
  a5 := Tryz.isAgg5
  z5 := Tryz.sizeOf5
  v5 := Tryz.zeroValue5
  t9 := Tryz.underlying9
  a9 := Tryz.isAgg9
  z9 := Tryz.sizeOf9
  v9 := Tryz.zeroValue9
  t20 := Tryz.underlying20
  a20 := Tryz.isAgg20
  z20 := Tryz.sizeOf20
  v20 := Tryz.zeroValue20
  t37 := Tryz.underlying91
  a37 := Tryz.isAgg91
  z37 := Tryz.sizeOf91
  v37 := Tryz.zeroValue91
  t46 := Tryz.underlying162
  a46 := Tryz.isAgg162
  z46 := Tryz.sizeOf162
  v46 := Tryz.zeroValue162
  t51 := Tryz.underlying50
  a51 := Tryz.isAgg50
  z51 := Tryz.sizeOf50
  v51 := Tryz.zeroValue50
  t53 := Tryz.underlying154
  a53 := Tryz.isAgg154
  z53 := Tryz.sizeOf154
  v53 := Tryz.zeroValue154
  t171 := Tryz.underlying153
  a171 := Tryz.isAgg153
  z171 := Tryz.sizeOf153
  v171 := Tryz.zeroValue153
  t173 := Tryz.underlying157
  a173 := Tryz.isAgg157
  z173 := Tryz.sizeOf157
  v173 := Tryz.zeroValue157
  t212 := Tryz.underlying193
  a212 := Tryz.isAgg193
  z212 := Tryz.sizeOf193
  v212 := Tryz.zeroValue193
  t213 := Tryz.underlying194
  a213 := Tryz.isAgg194
  z213 := Tryz.sizeOf194
  t232 := Tryz.underlying227
  a232 := Tryz.isAgg227
  z232 := Tryz.sizeOf227
  v232 := Tryz.zeroValue227
  t233 := Tryz.underlying228
  a233 := Tryz.isAgg228
  z233 := Tryz.sizeOf228
  v233 := Tryz.zeroValue228
  g17 := by kernel_rfl
  g18 := by kernel_rfl
  g19 := by kernel_rfl
  i0 := by kernel_rfl
  i2 := by kernel_rfl
  i3 := by kernel_rfl
  i4 := by kernel_rfl
  i5 := by kernel_rfl
  i9 := by kernel_rfl
  i20 := by kernel_rfl
  i37 := by kernel_rfl
  i46 := by kernel_rfl
  i51 := by kernel_rfl
  i53 := by kernel_rfl
  i171 := by kernel_rfl
  i173 := by kernel_rfl
  i212 := by kernel_rfl
  i232 := by kernel_rfl
  i233 := by kernel_rfl
  m17 := by kernel_rfl
  m18 := by kernel_rfl
  m19 := by kernel_rfl }
open Go.RowKit Go.Sort Go.Lib in
/-- strconv.Itoa: "Itoa is equivalent to FormatInt(int64(i), 10).": i's DECIMAL NUMERAL ('Lib.itoa': a '-' where i is negative, then the digits), FOR EVERY int. The world behind the call: the world before it, new blocks behind the heap (the library's 'var a [24]byte'), draws. (LAID: no walk: one application.) -/
theorem Tryz.strconv_Itoa (n : Int) (h0 : -9223372036854775808 ≤ n) (h1 : n ≤ 9223372036854775807) (w : World) (htab : Lib.TabIs Tryz.prog w "internal/strconv.uint64pow10" .u64 Lib.pow10Tab) :
    Calls Tryz.prog 17 #[.int .i64 n] w fun e w' => e = .returned (.string ⟨(Lib.itoa n).toArray⟩) ∧ ∃ k os, w' = grow (w.drewN k) os := Any.strconv_Itoa Tryz.laysM171 n h0 h1 w htab
def Tryz.laysC172_ren : Go.Shelf.Ren := ⟨fun | 172 => 87 | 244 => 135 | 245 => 136 | 247 => 188 | 279 => 189 | 280 => 190 | 281 => 191 | 282 => 192 | 287 => 214 | 316 => 215 | 171 => 17 | 205 => 216 | 321 => 227 | 322 => 228 | 243 => 43 | 246 => 88 | 283 => 137 | 284 => 138 | 285 => 139 | 286 => 140 | 129 => 194 | 317 => 193 | 318 => 195 | 319 => 196 | 320 => 197 | 337 => 217 | 338 => 218 | n => n, fun | 9 => 9 | 3 => 3 | 75 => 96 | 76 => 97 | 4 => 4 | 5 => 5 | 167 => 186 | 37 => 91 | 0 => 0 | 85 => 187 | 2 => 2 | 168 => 189 | 53 => 154 | 175 => 209 | 46 => 162 | 210 => 212 | 127 => 132 | 145 => 226 | 143 => 224 | 21 => 21 | 171 => 153 | 173 => 157 | 212 => 193 | 51 => 50 | 20 => 20 | 213 => 194 | 232 => 227 | 233 => 228 | 80 => 100 | n => n, fun | 15 => 7 | 16 => 8 | 17 => 4 | 18 => 9 | 19 => 10 | n => n⟩
theorem Tryz.laysC172 : Go.Proofs.LaysC.n172 Tryz.prog Tryz.laysC172_ren := {
  mixed := by kernel_rfl
  f129 := Tryz.func194.trans (congrArg some (by kernel_rfl))
  f171 := Tryz.func17.trans (congrArg some (by kernel_rfl))
  f172 := Tryz.func87.trans (congrArg some (by kernel_rfl))
  f205 := Tryz.func216.trans (congrArg some (by kernel_rfl))
  f243 := Tryz.func43.trans (congrArg some (by kernel_rfl))
  f244 := Tryz.func135.trans (congrArg some (by kernel_rfl))
  f245 := Tryz.func136.trans (congrArg some (by kernel_rfl))
  f246 := Tryz.func88.trans (congrArg some (by kernel_rfl))
  f247 := Tryz.func188.trans (congrArg some (by kernel_rfl))
  f279 := Tryz.func189.trans (congrArg some (by kernel_rfl))
  f280 := Tryz.func190.trans (congrArg some (by kernel_rfl))
  f281 := Tryz.func191.trans (congrArg some (by kernel_rfl))
  f282 := Tryz.func192.trans (congrArg some (by kernel_rfl))
  f283 := Tryz.func137.trans (congrArg some (by kernel_rfl))
  f284 := Tryz.func138.trans (congrArg some (by kernel_rfl))
  f285 := Tryz.func139.trans (congrArg some (by kernel_rfl))
  f286 := Tryz.func140.trans (congrArg some (by kernel_rfl))
  f287 := Tryz.func214.trans (congrArg some (by kernel_rfl))
  f316 := Tryz.func215.trans (congrArg some (by kernel_rfl))
  f317 := Tryz.func193.trans (congrArg some (by kernel_rfl))
  f318 := Tryz.func195.trans (congrArg some (by kernel_rfl))
  f319 := Tryz.func196.trans (congrArg some (by kernel_rfl))
  f320 := Tryz.func197.trans (congrArg some (by kernel_rfl))
  f321 := Tryz.func227.trans (congrArg some (by kernel_rfl))
  f322 := Tryz.func228.trans (congrArg some (by kernel_rfl))
  f337 := Tryz.func217.trans (congrArg some (by kernel_rfl))
  f338 := Tryz.func218.trans (congrArg some (by kernel_rfl))
  t0 := Tryz.underlying0
  a0 := Tryz.isAgg0
  z0 := Tryz.sizeOf0
  v0 := Tryz.zeroValue0
  t2 := Tryz.underlying2
  a2 := Tryz.isAgg2
  z2 := Tryz.sizeOf2
  v2 := Tryz.zeroValue2
  t3 := Tryz.underlying3
  a3 := Tryz.isAgg3
  z3 := Tryz.sizeOf3
  v3 := Tryz.zeroValue3
  t4 := Tryz.underlying4
  a4 := Tryz.isAgg4
  z4 := Tryz.sizeOf4
  v4 := Tryz.zeroValue4
  t5 := Tryz.underlying5
  a5 := Tryz.isAgg5
  z5 := Tryz.sizeOf5
  v5 := Tryz.zeroValue5
  t9 := Tryz.underlying9
  a9 := Tryz.isAgg9
  z9 := Tryz.sizeOf9
  v9 := Tryz.zeroValue9
  t20 := Tryz.underlying20
  a20 := Tryz.isAgg20
  z20 := Tryz.sizeOf20
  v20 := Tryz.zeroValue20
  t21 := Tryz.underlying21
  a21 := Tryz.isAgg21
  z21 := Tryz.sizeOf21
  v21 := Tryz.zeroValue21
  t37 := Tryz.underlying91
  a37 := Tryz.isAgg91
  z37 := Tryz.sizeOf91
  v37 := Tryz.zeroValue91
  t46 := Tryz.underlying162
  a46 := Tryz.isAgg162
  z46 := Tryz.sizeOf162
  v46 := Tryz.zeroValue162
  t51 := Tryz.underlying50
  a51 := Tryz.isAgg50
  z51 := Tryz.sizeOf50
  v51 := Tryz.zeroValue50
  t53 := Tryz.underlying154
  a53 := Tryz.isAgg154
  z53 := Tryz.sizeOf154
  v53 := Tryz.zeroValue154
  t75 := Tryz.underlying96
  a75 := Tryz.isAgg96
  z75 := Tryz.sizeOf96
  v75 := Tryz.zeroValue96
  t76 := Tryz.underlying97
  a76 := Tryz.isAgg97
  z76 := Tryz.sizeOf97
  v76 := Tryz.zeroValue97
  t85 := Tryz.underlying187
  a85 := Tryz.isAgg187
  z85 := Tryz.sizeOf187
  v85 := Tryz.zeroValue187
  t127 := Tryz.underlying132
  a127 := Tryz.isAgg132
  z127 := Tryz.sizeOf132
  v127 := Tryz.zeroValue132
  t143 := Tryz.underlying224
  a143 := Tryz.isAgg224
  z143 := Tryz.sizeOf224
  v143 := Tryz.zeroValue224
  t145 := Tryz.underlying226
  a145 := Tryz.isAgg226
  z145 := Tryz.sizeOf226
  v145 := Tryz.zeroValue226
  t167 := Tryz.underlying186
  a167 := Tryz.isAgg186
  z167 := Tryz.sizeOf186
  v167 := Tryz.zeroValue186
  t168 := Tryz.underlying189
  a168 := Tryz.isAgg189
  z168 := Tryz.sizeOf189
  v168 := Tryz.zeroValue189
  t171 := Tryz.underlying153
  a171 := Tryz.isAgg153
  z171 := Tryz.sizeOf153
  v171 := Tryz.zeroValue153
  t173 := Tryz.underlying157
  a173 := Tryz.isAgg157
  z173 := Tryz.sizeOf157
  v173 := Tryz.zeroValue157
  t175 := Tryz.underlying209
  a175 := Tryz.isAgg209
  z175 := Tryz.sizeOf209
  v175 := Tryz.zeroValue209
  t210 := Tryz.underlying212
  a210 := Tryz.isAgg212
  z210 := Tryz.sizeOf212
  v210 := Tryz.zeroValue212
  t212 := Tryz.underlying193
  a212 := Tryz.isAgg193
  z212 := Tryz.sizeOf193
  v212 := Tryz.zeroValue193
  t213 := Tryz.underlying194
  a213 := Tryz.isAgg194
  z213 := Tryz.sizeOf194
  t232 := Tryz.underlying227
  a232 := Tryz.isAgg227
  z232 := Tryz.sizeOf227
  v232 := Tryz.zeroValue227
  t233 := Tryz.underlying228
  a233 := Tryz.isAgg228
  z233 := Tryz.sizeOf228
  v233 := Tryz.zeroValue228
  g15 := by kernel_rfl
  g16 := by kernel_rfl
  g17 := by kernel_rfl
  g18 := by kernel_rfl
  g19 := by kernel_rfl
  t80 := Tryz.underlying100
  a80 := Tryz.isAgg100
  z80 := Tryz.sizeOf100
  v80 := Tryz.zeroValue100
  i0 := by kernel_rfl
  i2 := by kernel_rfl
  i3 := by kernel_rfl
  i4 := by kernel_rfl
  i5 := by kernel_rfl
  i9 := by kernel_rfl
  i20 := by kernel_rfl
  i21 := by kernel_rfl
  i37 := by kernel_rfl
  i46 := by kernel_rfl
  i51 := by kernel_rfl
  i53 := by kernel_rfl
  i75 := by kernel_rfl
  i76 := by kernel_rfl
  i80 := by kernel_rfl
  i85 := by kernel_rfl
  i127 := by kernel_rfl
  i143 := by kernel_rfl
  i145 := by kernel_rfl
  i167 := by kernel_rfl
  i168 := by kernel_rfl
  i171 := by kernel_rfl
  i173 := by kernel_rfl
  i175 := by kernel_rfl
  i210 := by kernel_rfl
  i212 := by kernel_rfl
  i232 := by kernel_rfl
  i233 := by kernel_rfl
  m15 := by kernel_rfl
  m16 := by kernel_rfl
  m17 := by kernel_rfl
  m18 := by kernel_rfl
  m19 := by kernel_rfl
  c0 := by kernel_rfl
  c2 := by kernel_rfl
  c3 := by kernel_rfl
  c4 := by kernel_rfl
  c5 := by kernel_rfl
  c9 := by kernel_rfl
  c20 := by kernel_rfl
  c21 := by kernel_rfl
  c37 := by kernel_rfl
  c46 := by kernel_rfl
  c51 := by kernel_rfl
  c53 := by kernel_rfl
  c75 := by kernel_rfl
  c76 := by kernel_rfl
  c80 := by kernel_rfl
  c85 := by kernel_rfl
  c127 := by kernel_rfl
  c143 := by kernel_rfl
  c145 := by kernel_rfl
  c167 := by kernel_rfl
  c168 := by kernel_rfl
  c171 := by kernel_rfl
  c173 := by kernel_rfl
  c175 := by kernel_rfl
  c210 := by kernel_rfl
  c212 := by kernel_rfl
  c213 := by kernel_rfl
  c232 := by kernel_rfl
  c233 := by kernel_rfl }
open Go.RowKit in
/-- strconv.Atoi, AT EVERY STRING THAT SPELLS AN int ('Lib.atoiAll .. = .ok v'; of whatever length: leading zeros count): v, AND NO ERROR. The world: as it was, or with the one new row that '[]byte(..)' lays. (LAID: no walk: one application.) -/
theorem Tryz.strconv_Atoi_ok (s : ByteArray) (hmax : s.size ≤ 9223372036854775806) (v : Int) (h : Lib.atoiAll s.data.toList = .ok v) (w : World) :
    Calls Tryz.prog 87 #[.string s] w fun e w' => e = .returned (.tuple #[.int .i64 v, .nilIface]) ∧ (w' = w ∨ ∃ t, w' = Lib.bytesWorld w 5 t) := Any.strconv_Atoi_ok Tryz.laysC172 s hmax v h w
open Go.RowKit in
/-- strconv.Atoi, AT EVERY NUMERAL THAT NO int HOLDS ('.range'): THE GREATEST OR THE LEAST int, BY THE SIGN ('Lib.atoiSat'), AND AN ERROR THAT IS NOT nil: a *NumError in a new block N: {Func: "Atoi", Num: s's bytes, Err: what the variable ErrRange holds}. Of what was there nothing has turned. (LAID: no walk: one application.) -/
theorem Tryz.strconv_Atoi_range (s : ByteArray) (hlim : s.size ≤ 281474976710656) (h : Lib.atoiAll s.data.toList = .range) (ev : Value) (w : World) (hv : w.cell? ⟨8, 0, none⟩ = some ev) (hev : ev = .nilIface ∨ ∃ te pe, ev = .iface te pe) :
    Calls Tryz.prog 87 #[.string s] w fun e w' => ∃ N, e = .returned (.tuple #[.int .i64 (Lib.atoiSat s.data.toList), .iface 189 (.pointer (some ⟨N, 0, none⟩))]) ∧ w.heap.size ≤ N ∧ w'.heap[N]? = some (.cells #[.string ⟨#[65, 116, 111, 105]⟩, .string s, ev] 212 (0, 0)) ∧ Below w.heap.size w w' := Any.strconv_Atoi_range Tryz.laysC172 s hlim h ev w hv hev
def Tryz.lays219_ren : Go.Shelf.Ren := ⟨fun | 219 => 98 | 217 => 145 | 225 => 146 | 224 => 147 | 267 => 148 | 266 => 200 | 314 => 201 | n => n, fun | 9 => 9 | 3 => 3 | 4 => 4 | 5 => 5 | 46 => 162 | 146 => 197 | 51 => 50 | n => n, fun | 1 => 2 | n => n⟩
theorem Tryz.lays219 : Go.Proofs.Lays.n219 Tryz.prog Tryz.lays219_ren := {
  mixed := by kernel_rfl
  f217 := Tryz.func145.trans (congrArg some (by kernel_rfl))
  f219 := Tryz.func98.trans (congrArg some (by kernel_rfl))
  f224 := Tryz.func147.trans (congrArg some (by kernel_rfl))
  f225 := Tryz.func146.trans (congrArg some (by kernel_rfl))
  f266 := Tryz.func200.trans (congrArg some (by kernel_rfl))
  f267 := Tryz.func148.trans (congrArg some (by kernel_rfl))
  f314 := Tryz.func201.trans (congrArg some (by kernel_rfl))
  t3 := Tryz.underlying3
  a3 := Tryz.isAgg3
  z3 := Tryz.sizeOf3
  v3 := Tryz.zeroValue3
  t4 := Tryz.underlying4
  a4 := Tryz.isAgg4
  z4 := Tryz.sizeOf4
  v4 := Tryz.zeroValue4
  t5 := Tryz.underlying5
  a5 := Tryz.isAgg5
  z5 := Tryz.sizeOf5
  v5 := Tryz.zeroValue5
  t9 := Tryz.underlying9
  a9 := Tryz.isAgg9
  z9 := Tryz.sizeOf9
  v9 := Tryz.zeroValue9
  t46 := Tryz.underlying162
  a46 := Tryz.isAgg162
  z46 := Tryz.sizeOf162
  v46 := Tryz.zeroValue162
  t51 := Tryz.underlying50
  a51 := Tryz.isAgg50
  z51 := Tryz.sizeOf50
  v51 := Tryz.zeroValue50
  t146 := Tryz.underlying197
  a146 := Tryz.isAgg197
  z146 := Tryz.sizeOf197
  v146 := Tryz.zeroValue197
  g1 := by kernel_rfl }
open Go.RowKit Go.Lib in
/-- internal/stringslite.Index (what strings.Index calls) AT A substr OF ONE BYTE c: IT RETURNS 'Lib.indexByte s c'; the world is as it was. (LAID: no walk: one application.) -/
theorem Tryz.stringslite_Index_one (s : ByteArray) (c : UInt8) (w : World) :
    Calls Tryz.prog 98 #[.string s, .string ⟨#[c]⟩] w fun e w' => e = .returned (.int .i64 (Lib.indexByte s.data.toList c)) ∧ w' = w := Any.stringslite_Index_one Tryz.lays219 s c w
def Tryz.lays144_ren : Go.Shelf.Ren := ⟨fun | 144 => 23 | 143 => 52 | 219 => 98 | 217 => 145 | 225 => 146 | 224 => 147 | 267 => 148 | 266 => 200 | 314 => 201 | n => n, fun | 9 => 9 | 4 => 4 | 3 => 3 | 5 => 5 | 46 => 162 | 146 => 197 | 51 => 50 | n => n, fun | 1 => 2 | n => n⟩
theorem Tryz.lays144 : Go.Proofs.Lays.n144 Tryz.prog Tryz.lays144_ren := {
  mixed := by kernel_rfl
  f143 := Tryz.func52.trans (congrArg some (by kernel_rfl))
  f144 := Tryz.func23.trans (congrArg some (by kernel_rfl))
  f217 := Tryz.func145.trans (congrArg some (by kernel_rfl))
  f219 := Tryz.func98.trans (congrArg some (by kernel_rfl))
  f224 := Tryz.func147.trans (congrArg some (by kernel_rfl))
  f225 := Tryz.func146.trans (congrArg some (by kernel_rfl))
  f266 := Tryz.func200.trans (congrArg some (by kernel_rfl))
  f267 := Tryz.func148.trans (congrArg some (by kernel_rfl))
  f314 := Tryz.func201.trans (congrArg some (by kernel_rfl))
  t3 := Tryz.underlying3
  a3 := Tryz.isAgg3
  z3 := Tryz.sizeOf3
  v3 := Tryz.zeroValue3
  t4 := Tryz.underlying4
  a4 := Tryz.isAgg4
  z4 := Tryz.sizeOf4
  v4 := Tryz.zeroValue4
  t5 := Tryz.underlying5
  a5 := Tryz.isAgg5
  z5 := Tryz.sizeOf5
  v5 := Tryz.zeroValue5
  t9 := Tryz.underlying9
  a9 := Tryz.isAgg9
  z9 := Tryz.sizeOf9
  v9 := Tryz.zeroValue9
  t46 := Tryz.underlying162
  a46 := Tryz.isAgg162
  z46 := Tryz.sizeOf162
  v46 := Tryz.zeroValue162
  t51 := Tryz.underlying50
  a51 := Tryz.isAgg50
  z51 := Tryz.sizeOf50
  v51 := Tryz.zeroValue50
  t146 := Tryz.underlying197
  a146 := Tryz.isAgg197
  z146 := Tryz.sizeOf197
  v146 := Tryz.zeroValue197
  g1 := by kernel_rfl }
open Go.RowKit Go.Lib in
/-- strings.Contains: "Contains reports whether substr is within s.": AT A substr OF ONE BYTE c: IT RETURNS 'decide (0 ≤ Lib.indexByte s c)'; the world is as it was. (LAID: no walk: one application.) -/
theorem Tryz.strings_Contains_one (s : ByteArray) (c : UInt8) (w : World) :
    Calls Tryz.prog 23 #[.string s, .string ⟨#[c]⟩] w fun e w' => e = .returned (.bool (decide (0 ≤ Lib.indexByte s.data.toList c))) ∧ w' = w := Any.strings_Contains_one Tryz.lays144 s c w
def Tryz.lays315_ren : Go.Shelf.Ren := ⟨fun | 315 => 233 | n => n, fun | 9 => 9 | 40 => 125 | 4 => 4 | 3 => 3 | 0 => 0 | 21 => 21 | n => n, fun | n => n⟩
theorem Tryz.lays315 : Go.Proofs.Lays.n315 Tryz.prog Tryz.lays315_ren := {
  mixed := by kernel_rfl
  f315 := Tryz.func233.trans (congrArg some (by kernel_rfl))
  t0 := Tryz.underlying0
  a0 := Tryz.isAgg0
  z0 := Tryz.sizeOf0
  v0 := Tryz.zeroValue0
  t3 := Tryz.underlying3
  a3 := Tryz.isAgg3
  z3 := Tryz.sizeOf3
  v3 := Tryz.zeroValue3
  t4 := Tryz.underlying4
  a4 := Tryz.isAgg4
  z4 := Tryz.sizeOf4
  v4 := Tryz.zeroValue4
  t9 := Tryz.underlying9
  a9 := Tryz.isAgg9
  z9 := Tryz.sizeOf9
  v9 := Tryz.zeroValue9
  t21 := Tryz.underlying21
  a21 := Tryz.isAgg21
  z21 := Tryz.sizeOf21
  v21 := Tryz.zeroValue21
  t40 := Tryz.underlying125
  a40 := Tryz.isAgg125
  z40 := Tryz.sizeOf125
  v40 := Tryz.zeroValue125 }
open Go.RowKit Go.Lib in
theorem Tryz.strings_indexFunc (g : Nat) (lb : Array Value) (eg : ∀ args w, (callFunc g args).run Tryz.prog w = .ok (.enter g args) w) (p : Nat → Bool) (truth : Bool) (s : ByteArray) (w : World) (hp : PredAt Tryz.prog g lb encR p w) :
    Calls Tryz.prog 233 #[.string s, .func (.func g) #[] lb, .bool truth] w fun e w' => e = .returned (.int .i64 (Lib.idxFunc p truth s)) ∧ Below w.heap.size w w' := Any.strings_indexFunc Tryz.lays315 g lb eg p truth s w hp
def Tryz.lays100_ren : Go.Shelf.Ren := ⟨fun | 100 => 225 | 207 => 94 | n => n, fun | 9 => 9 | 4 => 4 | 3 => 3 | n => n, fun | n => n⟩
theorem Tryz.lays100 : Go.Proofs.Lays.n100 Tryz.prog Tryz.lays100_ren := {
  mixed := by kernel_rfl
  f100 := Tryz.func225.trans (congrArg some (by kernel_rfl))
  f207 := Tryz.func94.trans (congrArg some (by kernel_rfl))
  t3 := Tryz.underlying3
  a3 := Tryz.isAgg3
  z3 := Tryz.sizeOf3
  v3 := Tryz.zeroValue3
  t4 := Tryz.underlying4
  a4 := Tryz.isAgg4
  z4 := Tryz.sizeOf4
  v4 := Tryz.zeroValue4
  t9 := Tryz.underlying9
  a9 := Tryz.isAgg9
  z9 := Tryz.sizeOf9
  v9 := Tryz.zeroValue9 }
open Go.RowKit Go.Lib in
/-- strings.HasSuffix: "HasSuffix reports whether the string s ends with suffix.": IT RETURNS 'Lib.hasSuffix s suffix'; the world is as it was. ('hs': no Go string is longer: a caller has it of every string that it was handed.) (LAID: no walk: one application.) -/
theorem Tryz.strings_HasSuffix (s p : ByteArray) (w : World) (hs : s.size ≤ 9223372036854775807) :
    Calls Tryz.prog 225 #[.string s, .string p] w fun e w' => e = .returned (.bool (Lib.hasSuffix s.data.toList p.data.toList)) ∧ w' = w := Any.strings_HasSuffix Tryz.lays100 s p w hs
def Tryz.lays102_ren : Go.Shelf.Ren := ⟨fun | 102 => 21 | 209 => 47 | 207 => 94 | n => n, fun | 9 => 9 | 4 => 4 | 3 => 3 | n => n, fun | n => n⟩
theorem Tryz.lays102 : Go.Proofs.Lays.n102 Tryz.prog Tryz.lays102_ren := {
  mixed := by kernel_rfl
  f102 := Tryz.func21.trans (congrArg some (by kernel_rfl))
  f207 := Tryz.func94.trans (congrArg some (by kernel_rfl))
  f209 := Tryz.func47.trans (congrArg some (by kernel_rfl))
  t3 := Tryz.underlying3
  a3 := Tryz.isAgg3
  z3 := Tryz.sizeOf3
  v3 := Tryz.zeroValue3
  t4 := Tryz.underlying4
  a4 := Tryz.isAgg4
  z4 := Tryz.sizeOf4
  v4 := Tryz.zeroValue4
  t9 := Tryz.underlying9
  a9 := Tryz.isAgg9
  z9 := Tryz.sizeOf9
  v9 := Tryz.zeroValue9 }
open Go.RowKit Go.Lib in
/-- strings.TrimSuffix: "TrimSuffix returns s without the provided trailing suffix string. If s doesn't end with suffix, s is returned unchanged.": IT RETURNS 'Lib.trimSuffix s suffix'; the world is as it was. (LAID: no walk: one application.) -/
theorem Tryz.strings_TrimSuffix (s p : ByteArray) (w : World) (hs : s.size ≤ 9223372036854775807) :
    Calls Tryz.prog 21 #[.string s, .string p] w fun e w' => e = .returned (.string ⟨(Lib.trimSuffix s.data.toList p.data.toList).toArray⟩) ∧ w' = w := Any.strings_TrimSuffix Tryz.lays102 s p w hs
def Tryz.lays157_ren : Go.Shelf.Ren := ⟨fun | 157 => 32 | 229 => 81 | 199 => 82 | 261 => 134 | 311 => 186 | 312 => 187 | n => n, fun | 9 => 9 | 31 => 69 | 3 => 3 | 5 => 5 | 4 => 4 | 119 => 123 | 0 => 0 | 40 => 125 | 152 => 147 | 21 => 21 | 154 => 149 | 51 => 50 | 141 => 151 | 196 => 179 | 193 => 176 | 198 => 181 | 49 => 40 | 194 => 177 | 201 => 184 | 226 => 207 | 46 => 162 | 227 => 208 | n => n, fun | 0 => 0 | 6 => 1 | n => n⟩
theorem Tryz.lays157 : Go.Proofs.Lays.n157 Tryz.prog Tryz.lays157_ren := {
  mixed := by kernel_rfl
  f157 := Tryz.func32.trans (congrArg some (by kernel_rfl))
  f199 := Tryz.func82.trans (congrArg some (by kernel_rfl))
  f229 := Tryz.func81.trans (congrArg some (by kernel_rfl))
  f261 := Tryz.func134.trans (congrArg some (by kernel_rfl))
  f311 := Tryz.func186.trans (congrArg some (by kernel_rfl))
  f312 := Tryz.func187.trans (congrArg some (by kernel_rfl))
  t0 := Tryz.underlying0
  a0 := Tryz.isAgg0
  z0 := Tryz.sizeOf0
  v0 := Tryz.zeroValue0
  t3 := Tryz.underlying3
  a3 := Tryz.isAgg3
  z3 := Tryz.sizeOf3
  v3 := Tryz.zeroValue3
  t4 := Tryz.underlying4
  a4 := Tryz.isAgg4
  z4 := Tryz.sizeOf4
  v4 := Tryz.zeroValue4
  t5 := Tryz.underlying5
  a5 := Tryz.isAgg5
  z5 := Tryz.sizeOf5
  v5 := Tryz.zeroValue5
  t9 := Tryz.underlying9
  a9 := Tryz.isAgg9
  z9 := Tryz.sizeOf9
  v9 := Tryz.zeroValue9
  t21 := Tryz.underlying21
  a21 := Tryz.isAgg21
  z21 := Tryz.sizeOf21
  v21 := Tryz.zeroValue21
  t31 := Tryz.underlying69
  a31 := Tryz.isAgg69
  z31 := Tryz.sizeOf69
  v31 := Tryz.zeroValue69
  t40 := Tryz.underlying125
  a40 := Tryz.isAgg125
  z40 := Tryz.sizeOf125
  v40 := Tryz.zeroValue125
  t46 := Tryz.underlying162
  a46 := Tryz.isAgg162
  z46 := Tryz.sizeOf162
  v46 := Tryz.zeroValue162
  t49 := Tryz.underlying40
  a49 := Tryz.isAgg40
  z49 := Tryz.sizeOf40
  v49 := Tryz.zeroValue40
  t51 := Tryz.underlying50
  a51 := Tryz.isAgg50
  z51 := Tryz.sizeOf50
  v51 := Tryz.zeroValue50
  t119 := Tryz.underlying123
  a119 := Tryz.isAgg123
  z119 := Tryz.sizeOf123
  t141 := Tryz.underlying151
  a141 := Tryz.isAgg151
  z141 := Tryz.sizeOf151
  v141 := Tryz.zeroValue151
  t152 := Tryz.underlying147
  a152 := Tryz.isAgg147
  z152 := Tryz.sizeOf147
  v152 := Tryz.zeroValue147
  t154 := Tryz.underlying149
  a154 := Tryz.isAgg149
  z154 := Tryz.sizeOf149
  v154 := Tryz.zeroValue149
  t193 := Tryz.underlying176
  a193 := Tryz.isAgg176
  z193 := Tryz.sizeOf176
  v193 := Tryz.zeroValue176
  t194 := Tryz.underlying177
  a194 := Tryz.isAgg177
  z194 := Tryz.sizeOf177
  v194 := Tryz.zeroValue177
  t196 := Tryz.underlying179
  a196 := Tryz.isAgg179
  z196 := Tryz.sizeOf179
  v196 := Tryz.zeroValue179
  t198 := Tryz.underlying181
  a198 := Tryz.isAgg181
  z198 := Tryz.sizeOf181
  v198 := Tryz.zeroValue181
  t201 := Tryz.underlying184
  a201 := Tryz.isAgg184
  z201 := Tryz.sizeOf184
  v201 := Tryz.zeroValue184
  t226 := Tryz.underlying207
  a226 := Tryz.isAgg207
  z226 := Tryz.sizeOf207
  v226 := Tryz.zeroValue207
  t227 := Tryz.underlying208
  a227 := Tryz.isAgg208
  z227 := Tryz.sizeOf208
  v227 := Tryz.zeroValue208
  g0 := by kernel_rfl
  g6 := by kernel_rfl }
open Go.RowKit Go.Lib in
/-- strings.Fields, the table by 'Lib.TabIs' (as strings.TrimSpace's contract). 'hg': the table's number, by its name: at a dump 'by kernel_rfl'. (LAID: no walk: one application.) -/
theorem Tryz.strings_Fields (s : ByteArray) (w : World) (hs : s.size < 4294967281) (hascii : ∀ (j : Nat) b, s.data.toList[j]? = some b → b.toNat < 128) (htab : Lib.TabIs Tryz.prog w "strings.asciiSpace" .u8 Lib.asciiSpaceTab) :
    Calls Tryz.prog 32 #[.string s] w fun e w' =>
      e = .returned (.slice (some ⟨w.heap.size, 0, none⟩) (Lib.fields s.data.toList).length (Lib.fields s.data.toList).length) ∧ w' = w.alloc (.cells ((Lib.fields s.data.toList).map fun l => Value.string ⟨l.toArray⟩).toArray 9) := Any.strings_Fields Tryz.lays157 (by kernel_rfl) (by kernel_rfl) s w hs hascii htab
def Tryz.lays155_ren : Go.Shelf.Ren := ⟨fun | 155 => 24 | 154 => 53 | 138 => 99 | 165 => 54 | 143 => 52 | 166 => 55 | 197 => 100 | 169 => 57 | 195 => 149 | 218 => 150 | 240 => 101 | 241 => 102 | 219 => 98 | 260 => 151 | 276 => 152 | 277 => 153 | 217 => 145 | 225 => 146 | 224 => 147 | 267 => 148 | 266 => 200 | 314 => 201 | n => n, fun | 9 => 9 | 3 => 3 | 4 => 4 | 72 => 93 | 0 => 0 | 76 => 97 | 105 => 129 | 21 => 21 | 5 => 5 | 70 => 90 | 20 => 20 | 37 => 91 | 75 => 96 | 127 => 132 | 164 => 163 | 46 => 162 | 119 => 123 | 139 => 201 | 138 => 200 | 146 => 197 | 51 => 50 | 80 => 100 | n => n, fun | 1 => 2 | 3 => 5 | 4 => 6 | n => n⟩
theorem Tryz.lays155 : Go.Proofs.Lays.n155 Tryz.prog Tryz.lays155_ren := {
  mixed := by kernel_rfl
  f138 := Tryz.func99.trans (congrArg some (by kernel_rfl))
  f143 := Tryz.func52.trans (congrArg some (by kernel_rfl))
  f154 := Tryz.func53.trans (congrArg some (by kernel_rfl))
  f155 := Tryz.func24.trans (congrArg some (by kernel_rfl))
  f165 := Tryz.func54.trans (congrArg some (by kernel_rfl))
  f166 := Tryz.func55.trans (congrArg some (by kernel_rfl))
  f169 := Tryz.func57.trans (congrArg some (by kernel_rfl))
  f195 := Tryz.func149.trans (congrArg some (by kernel_rfl))
  f197 := Tryz.func100.trans (congrArg some (by kernel_rfl))
  f217 := Tryz.func145.trans (congrArg some (by kernel_rfl))
  f218 := Tryz.func150.trans (congrArg some (by kernel_rfl))
  f219 := Tryz.func98.trans (congrArg some (by kernel_rfl))
  f224 := Tryz.func147.trans (congrArg some (by kernel_rfl))
  f225 := Tryz.func146.trans (congrArg some (by kernel_rfl))
  f240 := Tryz.func101.trans (congrArg some (by kernel_rfl))
  f241 := Tryz.func102.trans (congrArg some (by kernel_rfl))
  f260 := Tryz.func151.trans (congrArg some (by kernel_rfl))
  f266 := Tryz.func200.trans (congrArg some (by kernel_rfl))
  f267 := Tryz.func148.trans (congrArg some (by kernel_rfl))
  f276 := Tryz.func152.trans (congrArg some (by kernel_rfl))
  f277 := Tryz.func153.trans (congrArg some (by kernel_rfl))
  f314 := Tryz.func201.trans (congrArg some (by kernel_rfl))
  t0 := Tryz.underlying0
  a0 := Tryz.isAgg0
  z0 := Tryz.sizeOf0
  v0 := Tryz.zeroValue0
  t3 := Tryz.underlying3
  a3 := Tryz.isAgg3
  z3 := Tryz.sizeOf3
  v3 := Tryz.zeroValue3
  t4 := Tryz.underlying4
  a4 := Tryz.isAgg4
  z4 := Tryz.sizeOf4
  v4 := Tryz.zeroValue4
  t5 := Tryz.underlying5
  a5 := Tryz.isAgg5
  z5 := Tryz.sizeOf5
  v5 := Tryz.zeroValue5
  t9 := Tryz.underlying9
  a9 := Tryz.isAgg9
  z9 := Tryz.sizeOf9
  v9 := Tryz.zeroValue9
  t20 := Tryz.underlying20
  a20 := Tryz.isAgg20
  z20 := Tryz.sizeOf20
  v20 := Tryz.zeroValue20
  t21 := Tryz.underlying21
  a21 := Tryz.isAgg21
  z21 := Tryz.sizeOf21
  v21 := Tryz.zeroValue21
  t37 := Tryz.underlying91
  a37 := Tryz.isAgg91
  z37 := Tryz.sizeOf91
  v37 := Tryz.zeroValue91
  t46 := Tryz.underlying162
  a46 := Tryz.isAgg162
  z46 := Tryz.sizeOf162
  v46 := Tryz.zeroValue162
  t51 := Tryz.underlying50
  a51 := Tryz.isAgg50
  z51 := Tryz.sizeOf50
  v51 := Tryz.zeroValue50
  t70 := Tryz.underlying90
  a70 := Tryz.isAgg90
  z70 := Tryz.sizeOf90
  v70 := Tryz.zeroValue90
  t72 := Tryz.underlying93
  a72 := Tryz.isAgg93
  z72 := Tryz.sizeOf93
  v72 := Tryz.zeroValue93
  t75 := Tryz.underlying96
  a75 := Tryz.isAgg96
  z75 := Tryz.sizeOf96
  v75 := Tryz.zeroValue96
  t76 := Tryz.underlying97
  a76 := Tryz.isAgg97
  z76 := Tryz.sizeOf97
  v76 := Tryz.zeroValue97
  t105 := Tryz.underlying129
  a105 := Tryz.isAgg129
  z105 := Tryz.sizeOf129
  v105 := Tryz.zeroValue129
  t119 := Tryz.underlying123
  a119 := Tryz.isAgg123
  z119 := Tryz.sizeOf123
  t127 := Tryz.underlying132
  a127 := Tryz.isAgg132
  z127 := Tryz.sizeOf132
  v127 := Tryz.zeroValue132
  t138 := Tryz.underlying200
  a138 := Tryz.isAgg200
  z138 := Tryz.sizeOf200
  v138 := Tryz.zeroValue200
  t139 := Tryz.underlying201
  a139 := Tryz.isAgg201
  z139 := Tryz.sizeOf201
  v139 := Tryz.zeroValue201
  t146 := Tryz.underlying197
  a146 := Tryz.isAgg197
  z146 := Tryz.sizeOf197
  v146 := Tryz.zeroValue197
  t164 := Tryz.underlying163
  a164 := Tryz.isAgg163
  z164 := Tryz.sizeOf163
  v164 := Tryz.zeroValue163
  g1 := by kernel_rfl
  g3 := by kernel_rfl
  g4 := by kernel_rfl }
theorem Tryz.Builder_Extra_155 : Builder.Extra Tryz.prog Tryz.lays155_ren := {
  sizeBuilder := by kernel_rfl
  liesBuilder := by kernel_rfl
  t5 := Tryz.underlying5
  a5 := Tryz.isAgg5
  z5 := Tryz.sizeOf5
  v5 := Tryz.zeroValue5
  infoByte := by kernel_rfl
  cellsByte := by kernel_rfl
  sizeByte := by kernel_rfl
  neB5 := by decide }
open Go.RowKit Go.Lib in
/-- strings.ReplaceAll: "ReplaceAll returns a copy of the string s with all non-overlapping instances of old replaced by new.": AT AN old THAT IS NOT EMPTY: 'Lib.replaceAll s old new'. (LAID: no walk: one application.) -/
theorem Tryz.strings_ReplaceAll (s old new : ByteArray) (m : Int) (w : World) (hs : s.size < 4294967281) (hm : w.cell? ⟨2, 0, none⟩ = some (.int .i64 m)) (h1 : 1 ≤ old.size) (hlen : s.size + Lib.countB s old * new.size ≤ 140737488355328) :
    Calls Tryz.prog 24 #[.string s, .string old, .string new] w fun e w' =>
      e = .returned (.string ⟨(Lib.replaceAll s.data.toList old.data.toList new.data.toList).toArray⟩) ∧ Below w.heap.size w w' := Any.strings_ReplaceAll Tryz.lays155 Tryz.Builder_Extra_155 s old new m w hs hm h1 hlen
def Tryz.lays227_ren : Go.Shelf.Ren := ⟨fun | 227 => 49 | n => n, fun | 9 => 9 | 116 => 83 | 4 => 4 | 0 => 0 | 3 => 3 | 5 => 5 | n => n, fun | n => n⟩
theorem Tryz.lays227 : Go.Proofs.Lays.n227 Tryz.prog Tryz.lays227_ren := {
  mixed := by kernel_rfl
  f227 := Tryz.func49.trans (congrArg some (by kernel_rfl))
  t0 := Tryz.underlying0
  a0 := Tryz.isAgg0
  z0 := Tryz.sizeOf0
  v0 := Tryz.zeroValue0
  t3 := Tryz.underlying3
  a3 := Tryz.isAgg3
  z3 := Tryz.sizeOf3
  v3 := Tryz.zeroValue3
  t4 := Tryz.underlying4
  a4 := Tryz.isAgg4
  z4 := Tryz.sizeOf4
  v4 := Tryz.zeroValue4
  t5 := Tryz.underlying5
  a5 := Tryz.isAgg5
  z5 := Tryz.sizeOf5
  v5 := Tryz.zeroValue5
  t9 := Tryz.underlying9
  a9 := Tryz.isAgg9
  z9 := Tryz.sizeOf9
  v9 := Tryz.zeroValue9
  t116 := Tryz.underlying83
  a116 := Tryz.isAgg83
  z116 := Tryz.sizeOf83 }
open Go.RowKit Go.Lib in
theorem Tryz.strings_makeASCIISet (hv116 : ∀ w, (zeroValue 83).run Tryz.prog w = .ok (.agg (Array.replicate 256 (.bool false))) w) (chars : ByteArray) (w : World) (hs : chars.size < 4294967281) (hascii : ∀ (j : Nat) b, chars.data.toList[j]? = some b → b.toNat < 128) :
    Calls Tryz.prog 49 #[.string chars] w fun e w' => e = .returned (.tuple #[.agg (Lib.setCells chars.data.toList), .bool true]) ∧ w' = w.alloc (.cells (Lib.setCells chars.data.toList) 83) := Any.strings_makeASCIISet Tryz.lays227 hv116 (by kernel_rfl) chars w hs hascii
end Go.Proofs

set_option maxRecDepth 10000
namespace Go.Proofs.YtnondemehfkalaaGreatDoor
open Go.Sha

/-- What is known of the program's variables. -/
structure GlOk (gl : List (Nat × Obj)) : Prop where
  err : ∃ cs T fz ev, (8, Obj.cells cs T fz) ∈ gl ∧ cs[0]? = some ev ∧ (ev = .nilIface ∨ ∃ te pe, ev = .iface te pe)
  spc : ∃ g T fz, Tryz.prog.globalNamed "strings.asciiSpace" = some g ∧ (g, Obj.cells (Lib.asciiSpaceTab.map fun z => Value.int .u8 z).toArray T fz) ∈ gl

/-- Tokens as Scan returns them: the last one, and it alone, is the end. -/
def WfT : List Tok → Prop
  | [] => False
  | x :: r => (x.k = 3 ↔ r = []) ∧ (r ≠ [] → WfT r) ∧ x.t.length < 140737488355328 ∧ r.length < 500000
def hd : List Tok → Tok
  | [] => ⟨3, [], 0⟩
  | x :: _ => x
/-- A reading: what is read and the tokens behind it, or an error at an offset. -/
abbrev Rd (α : Type) := List Tok → Except (Int × Int) (α × List Tok)
def rOk {α : Type} (a : α) : Rd α := fun ts => .ok (a, ts)
def rFail {α : Type} (e : Int) : Rd α := fun ts => .error ((hd ts).a, e)
def rIf {α : Type} (c : Bool) (a b : Rd α) : Rd α := fun ts => if c = true then a ts else b ts
def rNext {α β : Type} (m : Rd α) (f : α → Rd β) : Rd β := fun ts => match m ts with
  | .ok (a, ts') => f a ts'
  | .error e => .error e
def hdIs (k : Int) (t : List UInt8) (ts : List Tok) : Bool := (hd ts).k == k && (hd ts).t == t

theorem WfT.ne {ts : List Tok} (h : WfT ts) : ts ≠ [] := fun e => by rw [e] at h; exact h
theorem WfT.tail {ts : List Tok} (h : WfT ts) (hk : (hd ts).k ≠ 3) : WfT ts.tail := by
  cases ts with
  | nil => exact h.elim
  | cons x r => exact h.2.1 (fun e => hk (h.1.2 e))
theorem WfT.txt {ts : List Tok} (h : WfT ts) : (hd ts).t.length < 140737488355328 := by
  cases ts with
  | nil => exact h.elim
  | cons x r => exact h.2.2.1
theorem WfT.small {ts : List Tok} (h : WfT ts) : ts.length ≤ 500000 := by
  cases ts with
  | nil => exact h.elim
  | cons x r => have := h.2.2.2; simp only [List.length_cons]; omega
theorem WfT.get {ts : List Tok} (h : WfT ts) : ts[0]? = some (hd ts) := by
  cases ts with
  | nil => exact h.elim
  | cons x r => rfl
theorem WfT.len {ts : List Tok} (h : WfT ts) : 0 < ts.length := List.length_pos_iff.2 h.ne

def failV (at' e : Int) : V := .iface 106 (.agg [.int .i64 at', .int .i64 e])

/-- The state behind reading. -/
def stR (st : St) (rid : Nat) (ts : List Tok) : St := st.put rid [.sl (ts.map tkV)]
/-- What a reading function does, called with a reader at ts. -/
def rdPost {α : Type} (m : Rd α) (enc : α → V) (st : St) (rid : Nat) (ts : List Tok) (r : VRes) (s : St) : Prop := match m ts with
  | .ok (a, ts') => r = .ret (enc a) ∧ s = stR st rid ts' ∧ WfT ts'
  | .error (at', e) => r = .pan (failV at' e) ∧ ∃ ts', s = stR st rid ts'

theorem stR_eq {st : St} {rid : Nat} {ts : List Tok} : stR st rid ts = ⟨st.nx, updM st.mem rid [.sl (ts.map tkV)], st.arr, st.x⟩ := @_root_.id (_ = _) rfl
theorem lookR {l : List (Nat × List V)} {i : Nat} {cs : List V} : Sha.look (updM l i cs) i = (Sha.look l i).map fun _ => cs := by rw [look_updM, if_pos rfl]
def RdC {α : Type} (f : FuncId) (args : List V) (m : Rd α) (enc : α → V) : Prop :=
  ∀ (st : St) (rid : Nat) (ts : List Tok), GlOk st.x.gl → WfT ts → Sha.look st.mem rid = some [.sl (ts.map tkV)] → VCalls Tryz.prog f (.ptr rid 0 :: args) st (rdPost m enc st rid ts)

theorem VCalls_snap {P : Program} {f : FuncId} {args args' : List V} {st : St} {R : VRes → St → Prop} (h : VCalls P f args' st R) (hd : mapO (snapA st) args = some args') : VCalls P f args st R := by
  rcases h with h | h
  · exact .inl ⟨h.1, fun w A vs hs ha => h.2 w A vs hs (ha.snap hs hd)⟩
  · exact .inr fun w A vs hs ha => h w A vs hs (ha.snap hs hd)

theorem rd_call {α : Type} {f : FuncId} {args args' : List V} {m : Rd α} {enc : α → V} (h : RdC f args' m enc) {st : St} {rid : Nat} {ts : List Tok} {K : VRes → St → Prop} (hs : mapO (snapA st) (.ptr rid 0 :: args) = some (.ptr rid 0 :: args'))
    (hg : GlOk st.x.gl) (hw : WfT ts) (hm : Sha.look st.mem rid = some [.sl (ts.map tkV)]) (hok : ∀ a ts', m ts = .ok (a, ts') → WfT ts' → K (.ret (enc a)) (stR st rid ts')) (herr : ∀ at' e ts', m ts = .error (at', e) → K (.pan (failV at' e)) (stR st rid ts')) :
    VCalls Tryz.prog f (.ptr rid 0 :: args) st K := by
  refine VCalls_snap (VCalls.mono (h st rid ts hg hw hm) (fun r s hr => ?_)) hs
  unfold rdPost at hr
  split at hr
  · rename_i a ts' he
    obtain ⟨rfl, rfl, hw'⟩ := hr
    exact hok a ts' he hw'
  · rename_i at' e he
    obtain ⟨rfl, ts', rfl⟩ := hr
    exact herr at' e ts' he

theorem wfR {st : St} (hwf : st.Wf) {rid : Nat} (ts : List Tok) : (stR st rid ts).Wf := hwf.put (by simp [V.bdL, V.bd, bdL_tk])
theorem finRd {α : Type} {m : Rd α} {enc : α → V} {res : List Res} {st st1 : St} {rid : Nat} {ts ts' : List Tok} {env : Env} {vs : List V} {a : α} (hwf : st.Wf) (h1 : resV env st1 res = some vs) (h2 : enc a = resOne vs ∨ snapV st1 (resOne vs) = some (enc a)) (hb : (enc a).bd st.nx = true)
    (hn : st.nx ≤ st1.nx) (hm : Sub st.nx st1.mem (stR st rid ts').mem) (ha : Sub st.nx st1.arr st.arr) (hx : ExSub st.nx st1.x st.x) (he : m ts = .ok (a, ts')) (hw : WfT ts') : finQ res st.nx (rdPost m enc st rid ts) .ret env st1 := by
  refine ⟨vs, h1, enc a, stR st rid ts', h2, hb, Weak.wf rfl hn hm ha hx (wfR hwf ts'), Nat.le_refl _, ?_⟩
  unfold rdPost
  rw [he]
  exact ⟨rfl, rfl, hw⟩
theorem finRn {α : Type} {m : Rd α} {enc : α → V} {res : List Res} {st st1 : St} {rid : Nat} {ts ts' : List Tok} {env : Env} {vs : List V} {a : α} (hwf : st.Wf) (h1 : resV env st1 res = some vs) (h2 : enc a = resOne vs ∨ snapV st1 (resOne vs) = some (enc a)) (hb : (enc a).bd st.nx = true)
    (hn : st.nx ≤ st1.nx) (hm : Sub st.nx st1.mem (stR st rid ts').mem) (ha : Sub st.nx st1.arr st.arr) (hx : ExSub st.nx st1.x st.x) (he : m ts = .ok (a, ts')) (hw : WfT ts') : finQ res st.nx (rdPost m enc st rid ts) .normal env st1 :=
  finRd hwf h1 h2 hb hn hm ha hx he hw
theorem finRe {α : Type} {m : Rd α} {enc : α → V} {res : List Res} {st st1 : St} {rid : Nat} {ts ts' : List Tok} {env : Env} {at' e : Int} (hwf : st.Wf) (he : m ts = .error (at', e)) (hn : st.nx ≤ st1.nx) (hm : Sub st.nx st1.mem (stR st rid ts').mem) (ha : Sub st.nx st1.arr st.arr) (hx : ExSub st.nx st1.x st.x) :
    finQ res st.nx (rdPost m enc st rid ts) (.pan (failV at' e)) env st1 := by
  refine ⟨stR st rid ts', by rfl, Weak.wf rfl hn hm ha hx (wfR hwf ts'), Nat.le_refl _, ?_⟩
  unfold rdPost
  rw [he]
  exact ⟨rfl, ts', rfl⟩
theorem stR_same {st : St} {rid : Nat} {ts : List Tok} (hm : Sha.look st.mem rid = some [.sl (ts.map tkV)]) : stR st rid ts = st := by
  rw [stR_eq, updM_same hm]

theorem next_v (st : St) (rid : Nat) (ts : List Tok) (hw : WfT ts) (hm : Sha.look st.mem rid = some [.sl (ts.map tkV)]) : VRet Tryz.prog 62 [.ptr rid 0] st (tkV (hd ts)) st := by
  have hg := hw.get
  have hl := hw.len
  refine VCalls_of F62_ok mixed (Nat.le_of_ble_eq_true rfl) (fun hwf => ?_)
  have e1 : (st.nx = rid) = False := eq_false (by have := (hwf.mem _ _ hm).1; omega)
  (repeat' first | ((first | refine go rfl rfl ?_ | (refine Fk.by_ ?_ ?_ <;> intro hc <;> try simp only [hc]) | refine storeK_eq rfl ?_ | with_reducible refine And.intro ?_ ?_ | fail) <;> try simp only [hm, hg, hl, e1, cells_tkV, push_cast, reduceIte, Nat.reduceEqDiff, reduceCtorEq, Nat.reduceAdd, Nat.reduceLeDiff, Nat.reduceBEq]))
  all_goals refine finB (hwf) (by simp only [F62, push_cast, reduceIte, Nat.reduceEqDiff, reduceCtorEq, Nat.reduceAdd, Nat.reduceLeDiff, Nat.reduceBEq]; exact rfl) (by first | exact .inl rfl | (right; simp only [F62, push_cast, reduceIte, Nat.reduceEqDiff, reduceCtorEq, Nat.reduceAdd, Nat.reduceLeDiff, Nat.reduceBEq]; try rfl)) (by first | rfl | assumption) (by simp) (by simp) (by (repeat first | exact (hwf).subm | exact (hwf).suba | refine Sub.drop (by simp) ?_)) (by (repeat first | exact (hwf).subm | exact (hwf).suba | refine Sub.drop (by simp) ?_)) (by (repeat first | exact (hwf).subx | refine ExSub.dropt (by simp) ?_ | refine ExSub.drop (by simp) ?_))

theorem pass_v (st : St) (rid : Nat) (ts : List Tok) (hw : WfT ts) (hm : Sha.look st.mem rid = some [.sl (ts.map tkV)]) : VRet Tryz.prog 66 [.ptr rid 0] st (tkV (hd ts)) (stR st rid ts.tail) := by
  have hg := hw.get
  have hl := hw.len
  have hlt : (ts.map tkV).length = ts.length := by simp
  refine VCalls_of F66_ok mixed (Nat.le_of_ble_eq_true rfl) (fun hwf => ?_)
  have e1 : (st.nx = rid) = False := eq_false (by have := (hwf.mem _ _ hm).1; omega)
  have e2 : (st.nx + 1 = rid) = False := eq_false (by have := (hwf.mem _ _ hm).1; omega)
  have hle : 1 ≤ ts.length := hl
  have hdr : List.drop 1 (List.take ts.length (ts.map tkV)) = ts.tail.map tkV := by rw [List.take_of_length_le (by omega)]; simp
  have hw2 := wfR hwf (rid := rid) ts.tail
  rw [stR_eq] at hw2 ⊢
  (repeat' first | ((first | refine go rfl rfl ?_ | (refine Fk.by_ ?_ ?_ <;> intro hc <;> try simp only [hc]) | refine storeK_eq rfl ?_ | with_reducible refine And.intro ?_ ?_ | fail) <;> try simp only [hm, hg, hl, e1, e2, cells_tkV, all_tk, hlt, hle, hdr, Nat.le_refl, push_cast, reduceIte, Nat.reduceEqDiff, reduceCtorEq, Nat.reduceAdd, Nat.reduceLeDiff, Nat.reduceBEq]))
  all_goals refine finB (hw2) (by simp only [F66, push_cast, reduceIte, Nat.reduceEqDiff, reduceCtorEq, Nat.reduceAdd, Nat.reduceLeDiff, Nat.reduceBEq]; exact rfl) (by first | exact .inl rfl | (right; simp only [F66, push_cast, reduceIte, Nat.reduceEqDiff, reduceCtorEq, Nat.reduceAdd, Nat.reduceLeDiff, Nat.reduceBEq]; try rfl)) (by first | rfl | assumption) (by simp) (by simp) (by (repeat first | exact (hw2).subm | exact (hw2).suba | refine Sub.drop (by simp) ?_)) (by (repeat first | exact (hw2).subm | exact (hw2).suba | refine Sub.drop (by simp) ?_)) (by (repeat first | exact (hw2).subx | refine ExSub.dropt (by simp) ?_ | refine ExSub.drop (by simp) ?_))

theorem fail_x (e : Int) (st : St) (rid : Nat) (ts : List Tok) (hw : WfT ts) (hm : Sha.look st.mem rid = some [.sl (ts.map tkV)]) : VCalls Tryz.prog 63 [.ptr rid 0, .int .i64 e] st fun r s => r = .pan (failV (hd ts).a e) ∧ s = st := by
  refine VCalls_of F63_ok mixed (Nat.le_of_ble_eq_true rfl) (fun hwf => ?_)
  (repeat' first | ((first | refine go rfl rfl ?_ | refine Cl.by_ (by (first | refine next_v _ _ _ hw hm)) ?_ | (refine Fk.by_ ?_ ?_ <;> intro hc <;> try simp only [hc]) | refine storeK_eq rfl ?_ | with_reducible refine And.intro ?_ ?_ | fail) <;> try simp only [tkV, push_cast, reduceIte, Nat.reduceEqDiff, reduceCtorEq, Nat.reduceAdd, Nat.reduceLeDiff, Nat.reduceBEq]))
  exact ⟨st, rfl, Weak.refl hwf, Nat.le_refl _, rfl, rfl⟩
theorem fail_call {e : Int} {st : St} {rid : Nat} {ts : List Tok} {K : VRes → St → Prop} (hw : WfT ts) (hm : Sha.look st.mem rid = some [.sl (ts.map tkV)]) (h : K (.pan (failV (hd ts).a e)) st) : VCalls Tryz.prog 63 [.ptr rid 0, .int .i64 e] st K :=
  VCalls.mono (fail_x e st rid ts hw hm) (fun r s ⟨h1, h2⟩ => by subst h1; subst h2; exact h)
theorem ris_v (st : St) (rid : Nat) (ts : List Tok) (k : Int) (t : List UInt8) (hw : WfT ts) (hm : Sha.look st.mem rid = some [.sl (ts.map tkV)]) : VRet Tryz.prog 142 [.ptr rid 0, .int .i64 k, .str t] st (.bool (hdIs k t ts)) st := by
  refine VCalls_of F142_ok mixed (Nat.le_of_ble_eq_true rfl) (fun hwf => ?_)
  (repeat' first | ((first | refine go rfl rfl ?_ | refine Cl.by_ (by (first | refine next_v _ _ _ hw hm)) ?_ | (refine Fk.by_ ?_ ?_ <;> intro hc <;> try simp only [hc]) | refine storeK_eq rfl ?_ | with_reducible refine And.intro ?_ ?_ | fail) <;> try simp only [tkV, push_cast, reduceIte, Nat.reduceEqDiff, reduceCtorEq, Nat.reduceAdd, Nat.reduceLeDiff, Nat.reduceBEq]))
  all_goals exact finRet0 hwf rfl (by simp [resOne, hdIs, *]) rfl
/-! Contracts found by the function's number and its arguments. -/
class RdK (f : FuncId) (args : List V) (Post : outParam (St → Nat → List Tok → (VRes → St → Prop) → Prop)) : Prop where
  c : ∀ {st : St} {rid : Nat} {ts : List Tok} {K : VRes → St → Prop}, Sha.look st.mem rid = some [.sl (ts.map tkV)] → GlOk st.x.gl → WfT ts → Post st rid ts K → VCalls Tryz.prog f (.ptr rid 0 :: args) st K
abbrev RdP {α : Type} (m : Rd α) (enc : α → V) (st : St) (rid : Nat) (ts : List Tok) (K : VRes → St → Prop) : Prop :=
  (∀ a ts', m ts = .ok (a, ts') → WfT ts' → K (.ret (enc a)) (stR st rid ts')) ∧ ∀ q e ts', m ts = .error (q, e) → K (.pan (failV q e)) (stR st rid ts')
theorem RdC.k {α : Type} {f : FuncId} {args : List V} {m : Rd α} {enc : α → V} (h : RdC f args m enc) : RdK f args (RdP m enc) where
  c {st rid ts K} hm hg hw k := by
    refine VCalls.mono (h st rid ts hg hw hm) (fun r s hr => ?_)
    unfold rdPost at hr
    split at hr
    · rename_i a ts' he
      obtain ⟨rfl, rfl, hw'⟩ := hr
      exact k.1 a ts' he hw'
    · rename_i at' e he
      obtain ⟨rfl, ts', rfl⟩ := hr
      exact k.2 at' e ts' he
instance : RdK 62 [] (fun st _ ts K => K (.ret (tkV (hd ts))) st) := ⟨fun hm _ hw h => (next_v _ _ _ hw hm).use h⟩
instance : RdK 66 [] (fun st rid ts K => K (.ret (tkV (hd ts))) (stR st rid ts.tail)) := ⟨fun hm _ hw h => (pass_v _ _ _ hw hm).use h⟩
instance {e : Int} : RdK 63 [.int .i64 e] (fun st _ ts K => K (.pan (failV (hd ts).a e)) st) := ⟨fun hm _ hw h => fail_call hw hm h⟩
instance {k : Int} {t : List UInt8} : RdK 142 [.int .i64 k, .str t] (fun st _ ts K => K (.ret (.bool (hdIs k t ts))) st) := ⟨fun hm _ hw h => (ris_v _ _ _ _ _ hw hm).use h⟩
theorem snap_two {f : FuncId} {rid id n : Nat} {v : V} {st : St} {K : VRes → St → Prop} (h : mapO (snapA st) [.ptr rid 0, .osl id n] = some [.ptr rid 0, v]) (k : VCalls Tryz.prog f [.ptr rid 0, v] st K) : VCalls Tryz.prog f [.ptr rid 0, .osl id n] st K := VCalls_snap k h
theorem finRo {α : Type} {m : Rd α} {enc : α → V} {res : List Res} {st st1 : St} {rid : Nat} {ts ts' : List Tok} {env : Env} {vs : List V} {a : α} {x : VX} (hwf : st.Wf) (k : x = .ret ∨ x = .normal) (h1 : resV env st1 res = some vs) (h2 : enc a = resOne vs ∨ snapV st1 (resOne vs) = some (enc a)) (hb : (enc a).bd st.nx = true)
    (hn : st.nx ≤ st1.nx) (hm : Sub st.nx st1.mem (stR st rid ts').mem) (ha : Sub st.nx st1.arr st.arr) (hx : ExSub st.nx st1.x st.x) (he : m ts = .ok (a, ts')) (hw : WfT ts') : finQ res st.nx (rdPost m enc st rid ts) x env st1 := by
  rcases k with rfl | rfl <;> exact finRd hwf h1 h2 hb hn hm ha hx he hw
theorem subR {st : St} {rid : Nat} {ts : List Tok} (hm : Sha.look st.mem rid = some [.sl (ts.map tkV)]) (hwf : st.Wf) : Sub st.nx st.mem (stR st rid ts).mem := by rw [stR_same hm]; exact hwf.subm
end Go.Proofs.YtnondemehfkalaaGreatDoor

set_option maxRecDepth 10000
namespace Go.Proofs.YtnondemehfkalaaGreatDoor
open Go.Sha Go.ChangeShapes Go.WideShapes Go.ChangeAt Go.RowKit

def GlOk2 (gl : List (Nat × Obj)) : Prop := GlOk gl ∧ ∃ g T fz, Tryz.prog.globalNamed "internal/strconv.uint64pow10" = some g ∧ (g, Obj.cells (Lib.pow10Tab.map fun z => Value.int .u64 z).toArray T fz) ∈ gl

theorem vars_read {w : World} : ∀ {l : List (String × DataW Unit)} {ps : List MemPlace}, DataW.LaidVars Tryz.prog w l ps → ∀ n d, (n, d) ∈ l →
    ∃ g t cs T fz fuel p, Tryz.prog.globalNamed n = some g ∧ (Tryz.prog.globals[g]?).map (·.type) = some t ∧ w.heap[g]? = some (.cells cs T fz) ∧ DataW.trod (fun _ => ()) Tryz.prog w 0 (fun _ => true) false fuel t cs.toList = some (d, p)
  | [], _, _, _, _, hm => by cases hm
  | (n', d') :: r, ps, h, n, d, hm => by
    obtain ⟨g, t, cs, fuel, p, q, h1, h2, h3, h4, h5, _⟩ := h
    rcases List.mem_cons.1 hm with e | e
    · cases e
      unfold World.var? at h3
      rw [h1] at h3
      simp only [Option.bind_some] at h3
      split at h3
      · rename_i cs' T fz hh
        cases h3
        exact ⟨g, t, cs, T, fz, fuel, p, h1, h2, hh, h4⟩
      · cases h3
    · exact vars_read h5 n d e
theorem iface_cell {w : World} {fuel : Nat} {t : TypeId} {m : Array String} {cs : List Value} {d : DataW Unit} {p : List MemPlace} (hu : ∃ m, Tryz.prog.underlying t = some (.interface m))
    (hd : DataW.trod (fun _ => ()) Tryz.prog w 0 (fun _ => true) false fuel t cs = some (d, p)) : ∃ ev, cs[0]? = some ev ∧ (ev = .nilIface ∨ ∃ te pe, ev = .iface te pe) := by
  obtain ⟨m, hu⟩ := hu
  cases fuel with
  | zero => simp [DataW.trod] at hd
  | succ fuel =>
    match cs, hd with
    | [], hd => simp [DataW.trod, hu] at hd
    | x :: y :: r, hd => simp [DataW.trod, hu] at hd
    | [x], hd => cases x <;> simp [DataW.trod, hu] at hd ⊢
theorem laid_gl {laid : List (String × DataW Unit)} {W : World} (hn : (laid.all fun x => x.2.handleName?.isNone) = true) (m1 : ("strconv.ErrRange", Rows.laid_strconv_ErrRange) ∈ laid) (m2 : ("strings.asciiSpace", Rows.laid_strings_asciiSpace) ∈ laid) (m3 : ("internal/strconv.uint64pow10", Rows.laid_internal_strconv_uint64pow10) ∈ laid)
    (h : laidMetH Tryz.prog laid W) : ∃ gl, GlOk2 gl ∧ ∀ p ∈ gl, W.heap[p.1]? = some p.2 := by
  rw [MakeChecks.laidMetH_plain _ _ _ hn] at h
  obtain ⟨ps, hv, _⟩ := h
  obtain ⟨g1, t1, cs1, T1, fz1, f1, p1, a1, b1, c1, d1⟩ := vars_read hv _ _ m1
  obtain ⟨g2, t2, cs2, T2, fz2, f2, p2, a2, b2, c2, d2⟩ := vars_read hv _ _ m2
  obtain ⟨g3, t3, cs3, T3, fz3, f3, p3, a3, b3, c3, d3⟩ := vars_read hv _ _ m3
  have q2 : (Rows.laid_strings_asciiSpace : DataW Unit) = Lib.tabData .u8 Lib.asciiSpaceTab := by kernel_rfl
  have q3 : (Rows.laid_internal_strconv_uint64pow10 : DataW Unit) = Lib.tabData .u64 Lib.pow10Tab := by kernel_rfl
  rw [q2] at d2
  rw [q3] at d3
  have k1 : Tryz.prog.globalNamed "strconv.ErrRange" = some 8 := by kernel_rfl
  obtain rfl := Option.some.inj (k1.symm.trans a1)
  have u1 : (match (Tryz.prog.globals[8]?).map (·.type) with | some t => (match Tryz.prog.underlying t with | some (.interface _) => true | _ => false) | none => false) = true := by kernel_rfl
  rw [b1] at u1
  have u1 : ∃ m, Tryz.prog.underlying t1 = some (.interface m) := by
    simp only at u1
    split at u1
    · exact ⟨_, ‹_›⟩
    · cases u1
  obtain ⟨ev, e1, e2⟩ := iface_cell (m := #[]) u1 d1
  have key : ∀ (g : Nat) (k : IntKind) (n : Nat) (zs : List Int) (fuel : Nat) (t : TypeId) (cs : Array Value) (p : List MemPlace), (Tryz.prog.globals[g]?).map (·.type) = some t →
      (match (Tryz.prog.globals[g]?).map (·.type) with | some t => (match Tryz.prog.underlying t with | some (.array m e) => decide (m = n) && (match Tryz.prog.underlying e with | some (.int k') => decide (k' = k) | _ => false) && decide (Tryz.prog.cellsOf e = 1) && decide (Tryz.prog.cellsOf t = n) | _ => false) | none => false) = true →
      DataW.trod (fun _ => ()) Tryz.prog W 0 (fun _ => true) false fuel t cs.toList = some (Lib.tabData k zs, p) → cs = (zs.map fun z => Value.int k z).toArray := by
    intro g k n zs fuel t cs p ht hc hd
    rw [ht] at hc
    simp only at hc
    split at hc
    · rename_i m e hu
      simp only [Bool.and_eq_true, decide_eq_true_eq] at hc
      obtain ⟨⟨⟨h1, h2⟩, h3⟩, h4⟩ := hc
      subst h1
      split at h2
      · rename_i k' hk
        have h2 : k' = k := by simpa using h2
        subst h2
        have := Lib.cells_of_tab hu hk h3 h4 hd
        cases cs; simp at this; rw [this]
      · cases h2
    · cases hc
  have k2 : Tryz.prog.globalNamed "strings.asciiSpace" = some g2 := a2
  have e3 := key g2 .u8 256 Lib.asciiSpaceTab f2 t2 cs2 p2 b2 (by
    have : Tryz.prog.globalNamed "strings.asciiSpace" = some 0 := by kernel_rfl
    obtain rfl := Option.some.inj (this.symm.trans a2)
    refine Eq.trans ?_ rfl
    kernel_rfl) d2
  have e4 := key g3 .u64 20 Lib.pow10Tab f3 t3 cs3 p3 b3 (by
    have : Tryz.prog.globalNamed "internal/strconv.uint64pow10" = some 4 := by kernel_rfl
    obtain rfl := Option.some.inj (this.symm.trans a3)
    refine Eq.trans ?_ rfl
    kernel_rfl) d3
  subst e3; subst e4
  refine ⟨[(8, .cells cs1 T1 fz1), (g2, .cells (Lib.asciiSpaceTab.map fun z => Value.int .u8 z).toArray T2 fz2), (g3, .cells (Lib.pow10Tab.map fun z => Value.int .u64 z).toArray T3 fz3)], ⟨⟨⟨cs1, T1, fz1, ev, .head _, by simpa using e1, e2⟩, ⟨g2, T2, fz2, a2, .tail _ (.head _)⟩⟩, g3, T3, fz3, a3, .tail _ (.tail _ (.head _))⟩, fun p hp => ?_⟩
  simp only [List.mem_cons, List.not_mem_nil, or_false] at hp
  rcases hp with rfl | rfl | rfl
  · exact c1
  · exact c2
  · exact c3

/-- A law over known variables: it returns true, and all that was there stays. -/
theorem law_callsG {f : FuncId} {fn : Func} (hf : Tryz.prog.funcs[f]? = some fn) (hname : (fn.name == "runtime.NumGoroutine") = false) (hb : fn.body.isNone = false) {gl : List (Nat × Obj)} {ds : List V} {st' : St} (h : VRet Tryz.prog f ds (stG gl) (.bool true) st') {w : World} (hgl : ∀ p ∈ gl, w.heap[p.1]? = some p.2)
    {vs : List Value} (ha : Reps w (abs0 w) vs ds) : Calls Tryz.prog f vs.toArray w fun e w' => e = .returned (.bool true) ∧ Kept w w' := by
  refine (VCalls.calls hf hname hb h (simG w hgl) ha).mono fun e w' ⟨r, A', s, ⟨hr, _⟩, he, _, hx⟩ => ?_
  subst hr
  cases e with
  | returned v =>
    have hv : Rep w' A' v (.bool true) := he
    rw [hv.bool_inv]
    exact ⟨rfl, hx.os, hx.output, hx.size, fun i hi => hx.fr i hi rfl⟩
  | panicked ch => exact he.elim
  | outgrown => exact he.elim
end Go.Proofs.YtnondemehfkalaaGreatDoor
