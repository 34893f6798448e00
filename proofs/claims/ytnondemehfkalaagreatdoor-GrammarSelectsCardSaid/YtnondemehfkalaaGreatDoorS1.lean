/- Zero values of structs, as rows of cells. The compiled code of functions of this seat, printed by a program (ShaMain), and that it is the translation's: checked by the kernel. The lexer's small functi .. -/
import Derived.Test.YtnondemehfkalaaGreatDoorSShaYB
import Derived.Test.YtnondemehfkalaaGreatDoorProg
import Derived.KernelRfl
import Derived.Test.YtnondemehfkalaaGreatDoorSShaY
import Derived.Test.YtnondemehfkalaaGreatDoorSShaV
import Derived.Shelf.Strings.Builder1
import Derived.Shelf.Strings.Builder2
import Derived.Shelf.Strings.OnBuilder
import Derived.Shelf.Strings.Trim
import Derived.Shelf.Small.Utf8
import Derived.Shelf.Small.Strs
import Derived.Shelf.Strings.BuilderF
import Derived.Shelf.Strconv.Atoi
import Derived.Shelf.Strconv.Itoa0
import Derived.Shelf.Strconv.Itoa1
import Derived.Shelf.LaysM
import Derived.Shelf.Strconv.Itoa2
import Derived.Shelf.Strconv.Itoa3
import Derived.Shelf.Strconv.AtoiErrFast
import Derived.Shelf.Strconv.ParseIntEmpty
import Derived.Shelf.Strconv.AtoiFail
import Derived.Shelf.Strconv.Clone
import Derived.Shelf.Strconv.SyntaxError
import Derived.Shelf.LaysC
import Derived.Shelf.Strconv.ToError
import Derived.Shelf.Strconv.Lower
import Derived.Shelf.Strconv.ParseUint10
import Derived.Shelf.Strconv.ParseUint10Empty
import Derived.Shelf.Strconv.ParseUint10Any
import Derived.Shelf.Strconv.ParseInt10
import Derived.Shelf.Strconv.AtoiLong
import Derived.Shelf.Strconv.AtoiInnerAll
import Derived.Shelf.Strconv.RangeError
import Derived.Shelf.Strconv.ToErrorRange
import Derived.Shelf.Strconv.AtoiAll
import Derived.Shelf.Strings.Search1
import Derived.Shelf.Strings.Search2
import Derived.Shelf.Strings.Search3
import Derived.Shelf.Strings.Cut
import Derived.Shelf.Strings.Count
import Derived.Shelf.Strings.Shaped
import Derived.Shelf.GgClosure.StringsIndexFunc
import Derived.Shelf.Strings.Prefix
import Derived.Shelf.Strings.Split
import Derived.Shelf.Strings.Fields
import Derived.Shelf.Strings.Replace
import Derived.Shelf.Strings.SplitShaped
import Derived.Shelf.Unicode.Latin
import Derived.Shelf.Strings.Runes
import Derived.Shelf.Strings.AsciiSet
import Derived.Shelf.Unicode.DecodeSlow
import Derived.Shelf.Unicode.Is16White
import Derived.Shelf.Unicode.IsSpaceAny
import Derived.Shelf.Unicode.Is16WhiteD
import Derived.Shelf.Unicode.IsSpaceAnyD
import Derived.Shelf.Strings.FieldsAny
import Derived.Shelf.Strings.FieldsFuncAny
import Derived.Shelf.Unicode.CaseLookup
import Derived.Shelf.Unicode.CaseConvert
import Derived.Shelf.Unicode.CaseTo
import Derived.Shelf.Unicode.CaseLaid
import Derived.Shelf.Unicode.Is16Any
import Derived.Shelf.Unicode.Is32Any
import Derived.Shelf.Unicode.ExclAny
import Derived.Test.YtnondemehfkalaaGreatDoorSShaBB
import Derived.Test.YtnondemehfkalaaGreatDoorSShaT
import Derived.Lib.AtoiAllCases
import Derived.Lib.AtoiErrMem
set_option linter.unusedSimpArgs false
set_option linter.unusedVariables false
set_option maxRecDepth 10000
namespace Go.Proofs.YtnondemehfkalaaGreatDoor
open Go.Sha
open Nat renaming reduceEqDiff → ed, reduceLeDiff → ld
open Option renaming map_some → om
open Bool renaming false_eq_true → bf
abbrev Z0 : List V := [(.i 0), (.str []), (.str []), (.str []), (.i 0), .nils, (.i 0), (.i 0), (.i 0), (.i 0), (.i 0), (.i 0), (.i 0), (.str []), (.i 0), (.i 0), (.i 0), (.str []), .nils]
abbrev Z1 : List V := [(.i 0), (.i 0), (.str []), (.i 0), (.i 0), (.i 0), (.str [])]
abbrev Z2 : List V := [(.bool false), (.bool false), (.bool false), (.bool false), (.bool false), (.bool false), (.bool false), (.bool false), (.bool false), (.bool false), (.bool false), (.bool false), (.bool false), (.bool false), (.bool false), (.bool false), (.bool false), (.bool false), (.bool false), (.bool false), (.bool false), (.bool false), (.bool false), (.bool false), (.bool false), (.bool false), (.bool false), (.bool false), (.bool false), (.bool false), (.bool false), (.bool false), (.bool false), (.bool false), (.bool false), (.bool false), (.bool false), (.bool false), (.bool false), (.bool false), (.bool false), (.bool false), (.bool false), (.bool false), (.bool false), (.bool false), (.bool false), (.bool false), (.bool false), (.bool false), (.bool false), (.bool false), (.bool false), (.bool false), (.bool false), (.bool false), (.bool false), (.bool false), (.bool false), (.bool false), (.bool false), (.bool false), (.bool false), (.bool false), (.bool false), (.bool false), (.bool false), (.bool false), (.bool false), (.bool false), (.bool false), (.bool false), (.bool false), (.bool false), (.bool false), (.bool false), (.bool false), (.bool false), (.bool false), (.bool false), (.bool false), (.bool false), (.bool false), (.bool false), (.bool false), (.bool false), (.bool false), (.bool false), (.bool false), (.bool false), (.bool false), (.bool false), (.bool false), (.bool false), (.bool false), (.bool false), (.bool false), (.bool false), (.bool false), (.bool false), (.bool false), (.bool false), (.bool false), (.bool false), (.bool false), (.bool false), (.bool false), (.bool false), (.bool false), (.bool false), (.bool false), (.bool false), (.bool false), (.bool false), (.bool false), (.bool false), (.bool false), (.bool false), (.bool false), (.bool false), (.bool false), (.bool false), (.bool false), (.bool false), (.bool false), (.bool false), (.bool false), (.bool false), (.bool false), (.bool false), (.bool false), (.bool false), (.bool false), (.bool false), (.bool false), (.bool false), (.bool false), (.bool false), (.bool false), (.bool false), (.bool false), (.bool false), (.bool false), (.bool false), (.bool false), (.bool false), (.bool false), (.bool false), (.bool false), (.bool false), (.bool false), (.bool false), (.bool false), (.bool false), (.bool false), (.bool false), (.bool false), (.bool false), (.bool false), (.bool false), (.bool false), (.bool false), (.bool false), (.bool false), (.bool false), (.bool false), (.bool false), (.bool false), (.bool false), (.bool false), (.bool false), (.bool false), (.bool false), (.bool false), (.bool false), (.bool false), (.bool false), (.bool false), (.bool false), (.bool false), (.bool false), (.bool false), (.bool false), (.bool false), (.bool false), (.bool false), (.bool false), (.bool false), (.bool false), (.bool false), (.bool false), (.bool false), (.bool false), (.bool false), (.bool false), (.bool false), (.bool false), (.bool false), (.bool false), (.bool false), (.bool false), (.bool false), (.bool false), (.bool false), (.bool false), (.bool false), (.bool false), (.bool false), (.bool false), (.bool false), (.bool false), (.bool false), (.bool false), (.bool false), (.bool false), (.bool false), (.bool false), (.bool false), (.bool false), (.bool false), (.bool false), (.bool false), (.bool false), (.bool false), (.bool false), (.bool false), (.bool false), (.bool false), (.bool false), (.bool false), (.bool false), (.bool false), (.bool false), (.bool false), (.bool false), (.bool false), (.bool false), (.bool false), (.bool false), (.bool false), (.bool false), (.bool false), (.bool false), (.bool false), (.bool false), (.bool false), (.bool false), (.bool false), (.bool false), (.bool false), (.bool false), (.bool false), (.bool false), (.bool false), (.bool false), (.bool false)]
theorem mixed : Tryz.prog.follows .mixedOrders = true := by kernel_rfl
theorem an {a b : Prop} (h : a) (k : b) : a ∧ b := ⟨h, k⟩
theorem vc {f : FuncId} {F : FT} (hF : compFn Tryz.prog f = some F) {args : List V} (ha : Nat.ble args.length F.N = true) {st : St} {R : VRes → St → Prop} (h : st.Wf → WT Tryz.prog F.N F.T 0 (argEnv 0 args) st (finQ F.res st.nx R)) : VCalls Tryz.prog f args st R := VCalls_of hF mixed (Nat.le_of_ble_eq_true ha) h
def F60 : FT := ⟨41, 1, [.tmp 2, .tmp 3, .tmp 4],
 [.seq 1 2,
 .reg [.s 2 (.mv (.c .nils)),
 .s 3 (.mv (.i 0)),
 .s 4 (.mv (.i 0))],
 .seq 3 10,
 .seq 4 5,
 .reg [.s 9 (.m 0),
 .s 10 (.lens (.t 9)),
 .s 11 (.bin .gtr (.t 10) (.i 4096))],
 .cond (.t 11) 6 9,
 .seq 7 8,
 .reg [.s 2 (.mv (.c .nils)),
 .s 3 (.mv (.i 0)),
 .s 4 (.mv (.i 13))],
 .ret,
 .skip,
 .seq 11 12,
 .reg [.s 12 (.m 0),
 .s 13 (.build [(.str []), (.i 0)] [(0, 1, (.t 12))]),
 .s 14 (.box 139 (.t 13)),
 .s 5 (.m 14)],
 .seq 13 14,
 .reg [.s 6 (.mv (.c .nils))],
 .block 0 15,
 .loop 16,
 .block 1 17,
 .seq 18 19,
 .reg [.s 16 (.m 5),
 .s 17 (.f 107 [(.t 16)]),
 .s 15 (.m 17),
 .s 18 (.ext 0 (.t 15)),
 .s 19 (.ext 1 (.t 15)),
 .s 7 (.alloc 111 [(.i 0), (.str []), (.i 0)]),
 .n (.store 3 (.t 7) (.t 18)),
 .s 8 (.m 19)],
 .seq 20 34,
 .block 2 21,
 .seq 22 23,
 .reg [.s 21 (.m 8),
 .s 22 (.un .not (.t 21)),
 .s 20 (.m 22)],
 .cond (.t 20) 24 27,
 .seq 25 26,
 .dreg 7 [.s 23 (.m 5),
 .s 24 (.k 23),
 .s 25 (.a 1 24),
 .s 26 (.l 25),
 .s 2 (.mv (.c .nils)),
 .s 3 (.m 26),
 .s 4 (.mv (.i 4))],
 .ret,
 .seq 28 29,
 .reg [.s 28 (.m 6),
 .s 29 (.len (.t 28)),
 .s 30 (.bin .eql (.t 29) (.i 256)),
 .s 27 (.m 30)],
 .cond (.t 27) 30 33,
 .seq 31 32,
 .dreg 5 [.s 31 (.a 2 7),
 .s 32 (.l 31),
 .s 2 (.mv (.c .nils)),
 .s 3 (.m 32),
 .s 4 (.mv (.i 5))],
 .ret,
 .skip,
 .seq 35 36,
 .reg [.s 33 (.m 6),
 .s 34 (.load (some 3) (.t 7)),
 .s 35 (.bslice 111 3 [(.t 34)]),
 .s 36 (.append 111 3 32 (.t 33) (.t 35)),
 .s 6 (.m 36)],
 .seq 37 38,
 .reg [.s 37 (.a 0 7),
 .s 38 (.l 37),
 .s 39 (.bin .eql (.t 38) (.i 3))],
 .cond (.t 39) 39 42,
 .seq 40 41,
 .reg [.s 40 (.m 6),
 .s 2 (.m 40),
 .s 3 (.mv (.i 0)),
 .s 4 (.mv (.i 0))],
 .ret,
 .skip]⟩
def F107 : FT := ⟨124, 1, [.cell 2 (some 3), .tmp 3],
 [.seq 1 2,
 .reg [.s 1 (.box 137 (.t 0)),
 .s 2 (.alloc 111 [(.i 0), (.str []), (.i 0)]),
 .s 3 (.mv (.c (.bool false)))],
 .seq 3 4,
 .reg [.s 8 (.l 1),
 .s 9 (.f 156 [(.t 8), (.c (.fn (.func 157) [] []))])],
 .seq 5 6,
 .reg [.s 10 (.l 1),
 .s 11 (.k 10),
 .s 12 (.a 1 11),
 .s 13 (.l 12),
 .s 4 (.alloc 3 [(.i 0)]),
 .n (.store 1 (.t 4) (.t 13))],
 .seq 7 8,
 .reg [.s 14 (.mkfn (.func 158) [] [(.t 1), (.t 4)]),
 .s 5 (.m 14)],
 .seq 9 75,
 .block 0 10,
 .seq 11 12,
 .dreg 11 [.s 16 (.l 1),
 .s 17 (.k 16),
 .s 18 (.a 1 17),
 .s 19 (.l 18),
 .s 20 (.l 1),
 .s 21 (.k 20),
 .s 22 (.a 0 21),
 .s 23 (.l 22),
 .s 24 (.lens (.t 23)),
 .s 25 (.bin .eql (.t 19) (.t 24)),
 .s 15 (.m 25)],
 .cond (.t 15) 13 16,
 .seq 14 15,
 .reg [.s 26 (.m 5),
 .s 27 (.call (.t 26) [(.i 3)]),
 .s 28 (.ext 0 (.t 27)),
 .s 29 (.ext 1 (.t 27)),
 .n (.store 3 (.t 2) (.t 28)),
 .s 3 (.m 29)],
 .ret,
 .seq 17 18,
 .reg [.s 31 (.l 1),
 .s 32 (.f 159 [(.t 31), (.i 0), (.c (.fn (.func 160) [] []))]),
 .s 30 (.m 32)],
 .cond (.t 30) 19 28,
 .seq 20 21,
 .reg [.s 33 (.l 1),
 .s 34 (.f 156 [(.t 33), (.c (.fn (.func 161) [] []))])],
 .seq 22 23,
 .reg [.s 36 (.m 5),
 .s 37 (.call (.t 36) [(.i 0)]),
 .s 35 (.m 37),
 .s 38 (.ext 0 (.t 35)),
 .s 39 (.ext 1 (.t 35)),
 .s 6 (.alloc 111 [(.i 0), (.str []), (.i 0)]),
 .n (.store 3 (.t 6) (.t 38)),
 .s 7 (.m 39)],
 .seq 24 25,
 .reg [.s 40 (.a 1 6),
 .s 41 (.l 40),
 .s 42 (.f 162 [(.t 41)]),
 .s 43 (.a 1 6),
 .n (.store 1 (.t 43) (.t 42))],
 .seq 26 27,
 .reg [.s 44 (.load (some 3) (.t 6)),
 .s 45 (.m 7),
 .n (.store 3 (.t 2) (.t 44)),
 .s 3 (.m 45)],
 .ret,
 .seq 29 30,
 .dreg 11 [.s 47 (.l 1),
 .s 48 (.k 47),
 .s 49 (.a 0 48),
 .s 50 (.l 49),
 .s 51 (.l 1),
 .s 52 (.k 51),
 .s 53 (.a 1 52),
 .s 54 (.l 53),
 .s 55 (.ichr (.t 50) (.t 54)),
 .s 56 (.bin .eql (.t 55) (.c (.int .u8 34))),
 .s 46 (.m 56)],
 .cond (.t 46) 31 50,
 .seq 32 33,
 .reg [.s 57 (.l 1),
 .s 58 (.k 57),
 .s 59 (.a 1 58),
 .s 60 (.l 59),
 .s 61 (.bin .add (.t 60) (.i 1)),
 .s 62 (.k 57),
 .s 63 (.a 1 62),
 .n (.store 1 (.t 63) (.t 61))],
 .seq 34 35,
 .reg [.s 64 (.l 1),
 .s 65 (.f 156 [(.t 64), (.c (.fn (.func 163) [] []))])],
 .seq 36 45,
 .seq 37 38,
 .reg [.s 66 (.l 1),
 .s 67 (.f 159 [(.t 66), (.i 0), (.c (.fn (.func 164) [] []))]),
 .s 68 (.un .not (.t 67))],
 .cond (.t 68) 39 44,
 .seq 40 41,
 .reg [.s 69 (.l 1),
 .s 70 (.l 4),
 .s 71 (.k 69),
 .s 72 (.a 1 71),
 .n (.store 1 (.t 72) (.t 70))],
 .seq 42 43,
 .reg [.s 73 (.build [(.i 0), (.str []), (.i 0)] []),
 .n (.store 3 (.t 2) (.t 73)),
 .s 3 (.mv (.c (.bool false)))],
 .ret,
 .skip,
 .seq 46 47,
 .reg [.s 74 (.l 1),
 .s 75 (.k 74),
 .s 76 (.a 1 75),
 .s 77 (.l 76),
 .s 78 (.bin .add (.t 77) (.i 1)),
 .s 79 (.k 74),
 .s 80 (.a 1 79),
 .n (.store 1 (.t 80) (.t 78))],
 .seq 48 49,
 .reg [.s 81 (.m 5),
 .s 82 (.call (.t 81) [(.i 0)]),
 .s 83 (.ext 0 (.t 82)),
 .s 84 (.ext 1 (.t 82)),
 .n (.store 3 (.t 2) (.t 83)),
 .s 3 (.m 84)],
 .ret,
 .seq 51 52,
 .reg [.s 86 (.l 1),
 .s 87 (.f 159 [(.t 86), (.i 0), (.c (.fn (.func 165) [] []))]),
 .s 85 (.m 87)],
 .cond (.t 85) 53 66,
 .seq 54 55,
 .reg [.s 88 (.l 1),
 .s 89 (.f 156 [(.t 88), (.c (.fn (.func 165) [] []))])],
 .seq 56 63,
 .seq 57 58,
 .reg [.s 90 (.l 1),
 .s 91 (.f 159 [(.t 90), (.i 0), (.c (.fn (.func 166) [] []))]),
 .s 92 (.m 91),
 .y 93 (.l 1) 92,
 .y 94 (.f 159 [(.t 93), (.i 1), (.c (.fn (.func 165) [] []))]) 92,
 .s 95 (.pick (.t 92) (.t 94) (.c (.bool false)))],
 .cond (.t 95) 59 62,
 .seq 60 61,
 .reg [.s 96 (.l 1),
 .s 97 (.k 96),
 .s 98 (.a 1 97),
 .s 99 (.l 98),
 .s 100 (.bin .add (.t 99) (.i 1)),
 .s 101 (.k 96),
 .s 102 (.a 1 101),
 .n (.store 1 (.t 102) (.t 100))],
 .reg [.s 103 (.l 1),
 .s 104 (.f 156 [(.t 103), (.c (.fn (.func 165) [] []))])],
 .skip,
 .seq 64 65,
 .reg [.s 105 (.m 5),
 .s 106 (.call (.t 105) [(.i 1)]),
 .s 107 (.ext 0 (.t 106)),
 .s 108 (.ext 1 (.t 106)),
 .n (.store 3 (.t 2) (.t 107)),
 .s 3 (.m 108)],
 .ret,
 .seq 67 68,
 .reg [.s 110 (.l 1),
 .s 111 (.f 159 [(.t 110), (.i 0), (.c (.fn (.func 167) [] []))]),
 .s 109 (.m 111)],
 .cond (.t 109) 69 74,
 .seq 70 71,
 .reg [.s 112 (.l 1),
 .s 113 (.k 112),
 .s 114 (.a 1 113),
 .s 115 (.l 114),
 .s 116 (.bin .add (.t 115) (.i 1)),
 .s 117 (.k 112),
 .s 118 (.a 1 117),
 .n (.store 1 (.t 118) (.t 116))],
 .seq 72 73,
 .reg [.s 119 (.m 5),
 .s 120 (.call (.t 119) [(.i 2)]),
 .s 121 (.ext 0 (.t 120)),
 .s 122 (.ext 1 (.t 120)),
 .n (.store 3 (.t 2) (.t 121)),
 .s 3 (.m 122)],
 .ret,
 .skip,
 .seq 76 77,
 .reg [.s 123 (.build [(.i 0), (.str []), (.i 0)] []),
 .n (.store 3 (.t 2) (.t 123)),
 .s 3 (.mv (.c (.bool false)))],
 .ret]⟩
def F156 : FT := ⟨14, 2, [],
 [.block 0 1,
 .loop 2,
 .seq 3 8,
 .seq 4 5,
 .reg [.s 4 (.m 0),
 .s 5 (.m 1),
 .s 6 (.f 159 [(.t 4), (.i 0), (.t 5)])],
 .cond (.t 6) 6 7,
 .skip,
 .exit 0,
 .block 1 9,
 .reg [.s 7 (.m 0),
 .s 8 (.k 7),
 .s 9 (.a 1 8),
 .s 10 (.l 9),
 .s 11 (.bin .add (.t 10) (.i 1)),
 .s 12 (.k 7),
 .s 13 (.a 1 12),
 .n (.store 1 (.t 13) (.t 11))]]⟩
def F157 : FT := ⟨5, 1, [.tmp 2],
 [.seq 1 2,
 .reg [.s 2 (.mv (.c (.bool false)))],
 .seq 3 4,
 .reg [.s 3 (.m 0),
 .s 4 (.bin .eql (.t 3) (.c (.int .u8 32))),
 .s 2 (.m 4)],
 .ret]⟩
def F158 : FT := ⟨19, 1, [.cell 4 (some 3), .tmp 5],
 [.seq 1 2,
 .reg [.s 4 (.alloc 111 [(.i 0), (.str []), (.i 0)]),
 .s 5 (.mv (.c (.bool false)))],
 .seq 3 4,
 .dreg 13 [.s 6 (.m 0),
 .s 7 (.l 1),
 .s 8 (.k 7),
 .s 9 (.a 0 8),
 .s 10 (.l 9),
 .s 11 (.l 2),
 .s 12 (.l 1),
 .s 13 (.k 12),
 .s 14 (.a 1 13),
 .s 15 (.l 14),
 .s 16 (.slices (.t 10) (some (.t 11)) (some (.t 15))),
 .s 17 (.l 2),
 .s 18 (.build [(.i 0), (.str []), (.i 0)] [(0, 1, (.t 6)), (1, 1, (.t 16)), (2, 1, (.t 17))]),
 .n (.store 3 (.t 4) (.t 18)),
 .s 5 (.mv (.c (.bool true)))],
 .ret]⟩
def F159 : FT := ⟨34, 3, [.tmp 6],
 [.seq 1 2,
 .reg [.s 6 (.mv (.c (.bool false)))],
 .seq 3 4,
 .dreg 28 [.s 7 (.m 0),
 .s 8 (.k 7),
 .s 9 (.a 1 8),
 .s 10 (.l 9),
 .s 11 (.m 1),
 .s 12 (.bin .add (.t 10) (.t 11)),
 .s 13 (.m 0),
 .s 14 (.k 13),
 .s 15 (.a 0 14),
 .s 16 (.l 15),
 .s 17 (.lens (.t 16)),
 .s 18 (.bin .lss (.t 12) (.t 17)),
 .s 19 (.m 18),
 .y 20 (.m 2) 19,
 .y 21 (.m 0) 19,
 .y 22 (.k 21) 19,
 .y 23 (.a 0 22) 19,
 .y 24 (.l 23) 19,
 .y 25 (.m 0) 19,
 .y 26 (.k 25) 19,
 .y 27 (.a 1 26) 19,
 .y 28 (.l 27) 19,
 .y 29 (.m 1) 19,
 .y 30 (.bin .add (.t 28) (.t 29)) 19,
 .y 31 (.ichr (.t 24) (.t 30)) 19,
 .y 32 (.call (.t 20) [(.t 31)]) 19,
 .s 33 (.pick (.t 19) (.t 32) (.c (.bool false))),
 .s 6 (.m 33)],
 .ret]⟩
def F160 : FT := ⟨17, 1, [.tmp 2],
 [.seq 1 2,
 .reg [.s 2 (.mv (.c (.bool false)))],
 .seq 3 4,
 .reg [.s 3 (.m 0),
 .s 4 (.bin .geq (.t 3) (.c (.int .u8 97))),
 .s 5 (.m 4),
 .y 6 (.m 0) 5,
 .y 7 (.bin .leq (.t 6) (.c (.int .u8 122))) 5,
 .s 8 (.pick (.t 5) (.t 7) (.c (.bool false))),
 .s 9 (.m 8),
 .x 10 (.m 0) 9,
 .x 11 (.bin .geq (.t 10) (.c (.int .u8 65))) 9,
 .x 12 (.m 11) 9,
 .y 13 (.m 0) 12,
 .y 14 (.bin .leq (.t 13) (.c (.int .u8 90))) 12,
 .x 15 (.pick (.t 12) (.t 14) (.c (.bool false))) 9,
 .s 16 (.pick (.t 9) (.c (.bool true)) (.t 15)),
 .s 2 (.m 16)],
 .ret]⟩
def F161 : FT := ⟨13, 1, [.tmp 2],
 [.seq 1 2,
 .reg [.s 2 (.mv (.c (.bool false)))],
 .seq 3 4,
 .reg [.s 3 (.m 0),
 .s 4 (.f 160 [(.t 3)]),
 .s 5 (.m 4),
 .x 6 (.m 0) 5,
 .x 7 (.f 165 [(.t 6)]) 5,
 .s 8 (.pick (.t 5) (.c (.bool true)) (.t 7)),
 .s 9 (.m 8),
 .x 10 (.m 0) 9,
 .x 11 (.bin .eql (.t 10) (.c (.int .u8 95))) 9,
 .s 12 (.pick (.t 9) (.c (.bool true)) (.t 11)),
 .s 2 (.m 12)],
 .ret]⟩
def F162 : FT := ⟨30, 1, [.tmp 2],
 [.seq 1 2,
 .reg [.s 2 (.mv (.w []))],
 .seq 3 4,
 .reg [.s 6 (.m 0),
 .s 7 (.cvsb 5 (.t 6)),
 .s 3 (.m 7)],
 .seq 5 25,
 .seq 6 7,
 .reg [.s 8 (.m 3),
 .s 9 (.len (.t 8)),
 .s 10 (.mv (.i 0))],
 .block 0 8,
 .loop 9,
 .seq 10 11,
 .reg [.s 11 (.bin .lss (.t 10) (.t 9))],
 .seq 12 15,
 .cond (.t 11) 13 14,
 .skip,
 .exit 0,
 .seq 16 24,
 .block 1 17,
 .seq 18 19,
 .reg [.s 12 (.m 10),
 .s 13 (.iadr 1 (.t 8) (.t 10)),
 .s 14 (.l 13),
 .s 4 (.m 12),
 .s 5 (.m 14)],
 .seq 20 21,
 .reg [.s 15 (.m 5),
 .s 16 (.bin .geq (.t 15) (.c (.int .u8 65))),
 .s 17 (.m 16),
 .y 18 (.m 5) 17,
 .y 19 (.bin .leq (.t 18) (.c (.int .u8 90))) 17,
 .s 20 (.pick (.t 17) (.t 19) (.c (.bool false)))],
 .cond (.t 20) 22 23,
 .reg [.s 21 (.m 3),
 .s 22 (.m 4),
 .s 23 (.m 5),
 .s 24 (.bin .add (.t 23) (.c (.int .u8 97))),
 .s 25 (.bin .sub (.t 24) (.c (.int .u8 65))),
 .s 26 (.iadr 1 (.t 21) (.t 22)),
 .n (.store 1 (.t 26) (.t 25))],
 .skip,
 .reg [.s 27 (.bin .add (.t 10) (.i 1)),
 .s 10 (.m 27)],
 .seq 26 27,
 .reg [.s 28 (.m 3),
 .s 29 (.cvbs (.t 28)),
 .s 2 (.m 29)],
 .ret]⟩
def F163 : FT := ⟨13, 1, [.tmp 2],
 [.seq 1 2,
 .reg [.s 2 (.mv (.c (.bool false)))],
 .seq 3 4,
 .reg [.s 3 (.m 0),
 .s 4 (.bin .geq (.t 3) (.c (.int .u8 32))),
 .s 5 (.m 4),
 .y 6 (.m 0) 5,
 .y 7 (.bin .leq (.t 6) (.c (.int .u8 126))) 5,
 .s 8 (.pick (.t 5) (.t 7) (.c (.bool false))),
 .s 9 (.m 8),
 .y 10 (.m 0) 9,
 .y 11 (.bin .neq (.t 10) (.c (.int .u8 34))) 9,
 .s 12 (.pick (.t 9) (.t 11) (.c (.bool false))),
 .s 2 (.m 12)],
 .ret]⟩
def F164 : FT := ⟨5, 1, [.tmp 2],
 [.seq 1 2,
 .reg [.s 2 (.mv (.c (.bool false)))],
 .seq 3 4,
 .reg [.s 3 (.m 0),
 .s 4 (.bin .eql (.t 3) (.c (.int .u8 34))),
 .s 2 (.m 4)],
 .ret]⟩
def F165 : FT := ⟨9, 1, [.tmp 2],
 [.seq 1 2,
 .reg [.s 2 (.mv (.c (.bool false)))],
 .seq 3 4,
 .reg [.s 3 (.m 0),
 .s 4 (.bin .geq (.t 3) (.c (.int .u8 48))),
 .s 5 (.m 4),
 .y 6 (.m 0) 5,
 .y 7 (.bin .leq (.t 6) (.c (.int .u8 57))) 5,
 .s 8 (.pick (.t 5) (.t 7) (.c (.bool false))),
 .s 2 (.m 8)],
 .ret]⟩
def F166 : FT := ⟨5, 1, [.tmp 2],
 [.seq 1 2,
 .reg [.s 2 (.mv (.c (.bool false)))],
 .seq 3 4,
 .reg [.s 3 (.m 0),
 .s 4 (.bin .eql (.t 3) (.c (.int .u8 46))),
 .s 2 (.m 4)],
 .ret]⟩
def F167 : FT := ⟨6, 1, [.tmp 2],
 [.seq 1 2,
 .reg [.s 2 (.mv (.c (.bool false)))],
 .seq 3 4,
 .reg [.s 3 (.m 0),
 .s 4 (.f 198 [(.w [43, 45, 47, 46, 44, 64, 58, 61, 37, 40, 41]), (.t 3)]),
 .s 5 (.bin .geq (.t 4) (.i 0)),
 .s 2 (.m 5)],
 .ret]⟩
def F145 : FT := ⟨8, 2, [.tmp 4],
 [.seq 1 2,
 .reg [.s 4 (.mv (.i 0))],
 .seq 3 4,
 .reg [.s 5 (.m 0),
 .s 6 (.m 1),
 .s 7 (.f 200 [(.t 5), (.t 6)]),
 .s 4 (.m 7)],
 .ret]⟩
def F198 : FT := ⟨8, 2, [.tmp 4],
 [.seq 1 2,
 .reg [.s 4 (.mv (.i 0))],
 .seq 3 4,
 .reg [.s 5 (.m 0),
 .s 6 (.m 1),
 .s 7 (.f 145 [(.t 5), (.t 6)]),
 .s 4 (.m 7)],
 .ret]⟩
def F221 : FT := ⟨36, 1, [.cell 2 (some 3), .tmp 3],
 [.seq 1 2,
 .reg [.s 2 (.alloc 111 [(.i 0), (.str []), (.i 0)]),
 .s 3 (.mv (.c (.bool false)))],
 .seq 3 4,
 .reg [.s 7 (.m 0),
 .s 8 (.build [(.str []), (.i 0)] [(0, 1, (.t 7))]),
 .s 9 (.box 139 (.t 8)),
 .s 4 (.m 9)],
 .seq 5 6,
 .reg [.s 11 (.m 4),
 .s 12 (.f 107 [(.t 11)]),
 .s 10 (.m 12),
 .s 13 (.ext 0 (.t 10)),
 .s 14 (.ext 1 (.t 10)),
 .s 5 (.alloc 111 [(.i 0), (.str []), (.i 0)]),
 .n (.store 3 (.t 5) (.t 13)),
 .s 6 (.m 14)],
 .seq 7 8,
 .sreg 21 [.s 15 (.load (some 3) (.t 5)),
 .s 16 (.m 6),
 .s 17 (.m 16),
 .y 18 (.a 2 5) 17,
 .y 19 (.l 18) 17,
 .y 20 (.bin .eql (.t 19) (.i 0)) 17,
 .s 21 (.pick (.t 17) (.t 20) (.c (.bool false))),
 .s 22 (.m 21),
 .y 23 (.m 4) 22,
 .y 24 (.k 23) 22,
 .y 25 (.a 1 24) 22,
 .y 26 (.l 25) 22,
 .y 27 (.m 0) 22,
 .y 28 (.lens (.t 27)) 22,
 .y 29 (.bin .eql (.t 26) (.t 28)) 22,
 .s 30 (.pick (.t 22) (.t 29) (.c (.bool false))),
 .s 31 (.m 30),
 .y 32 (.a 0 5) 31,
 .y 33 (.l 32) 31,
 .y 34 (.bin .neq (.t 33) (.i 3)) 31,
 .s 35 (.pick (.t 31) (.t 34) (.c (.bool false))),
 .n (.store 3 (.t 2) (.t 15)),
 .s 3 (.m 35)],
 .ret]⟩
def F207 : FT := ⟨31, 1, [.tmp 2],
 [.seq 1 2,
 .reg [.s 2 (.mv (.i 0))],
 .seq 3 4,
 .reg [.s 6 (.m 0),
 .s 7 (.f 221 [(.t 6)]),
 .s 5 (.m 7),
 .s 8 (.ext 0 (.t 5)),
 .s 9 (.ext 1 (.t 5)),
 .s 3 (.alloc 111 [(.i 0), (.str []), (.i 0)]),
 .n (.store 3 (.t 3) (.t 8)),
 .s 4 (.m 9)],
 .seq 5 12,
 .seq 6 7,
 .reg [.s 10 (.m 4),
 .s 11 (.un .not (.t 10)),
 .s 12 (.m 11),
 .x 13 (.a 0 3) 12,
 .x 14 (.l 13) 12,
 .x 15 (.bin .neq (.t 14) (.i 0)) 12,
 .s 16 (.pick (.t 12) (.c (.bool true)) (.t 15)),
 .s 17 (.m 16),
 .x 18 (.a 1 3) 17,
 .x 19 (.l 18) 17,
 .x 20 (.m 0) 17,
 .x 21 (.bin .neq (.t 19) (.t 20)) 17,
 .s 22 (.pick (.t 17) (.c (.bool true)) (.t 21)),
 .s 23 (.m 22),
 .x 24 (.m 0) 23,
 .x 25 (.ichr (.t 24) (.i 0)) 23,
 .x 26 (.bin .eql (.t 25) (.c (.int .u8 34))) 23,
 .s 27 (.pick (.t 23) (.c (.bool true)) (.t 26))],
 .cond (.t 27) 8 11,
 .seq 9 10,
 .reg [.s 2 (.mv (.i 8))],
 .ret,
 .skip,
 .seq 13 20,
 .seq 14 15,
 .reg [.s 28 (.m 0),
 .s 29 (.lens (.t 28)),
 .s 30 (.bin .gtr (.t 29) (.i 24))],
 .cond (.t 30) 16 19,
 .seq 17 18,
 .reg [.s 2 (.mv (.i 13))],
 .ret,
 .skip,
 .seq 21 22,
 .reg [.s 2 (.mv (.i 0))],
 .ret]⟩
def F67 : FT := ⟨50, 1, [.tmp 2, .tmp 3, .tmp 4],
 [.seq 1 2,
 .reg [.s 2 (.mv (.c .nils)),
 .s 3 (.mv (.i 0)),
 .s 4 (.mv (.i 0))],
 .seq 3 10,
 .seq 4 5,
 .reg [.s 9 (.m 0),
 .s 10 (.lens (.t 9)),
 .s 11 (.bin .gtr (.t 10) (.i 4096))],
 .cond (.t 11) 6 9,
 .seq 7 8,
 .reg [.s 2 (.mv (.c .nils)),
 .s 3 (.mv (.i 0)),
 .s 4 (.mv (.i 13))],
 .ret,
 .skip,
 .seq 11 12,
 .reg [.s 5 (.mv (.c .nils))],
 .seq 13 64,
 .seq 14 15,
 .reg [.s 6 (.mv (.i 0))],
 .block 0 16,
 .loop 17,
 .seq 18 23,
 .seq 19 20,
 .reg [.s 12 (.m 6),
 .s 13 (.m 0),
 .s 14 (.lens (.t 13)),
 .s 15 (.bin .leq (.t 12) (.t 14))],
 .cond (.t 15) 21 22,
 .skip,
 .exit 0,
 .block 1 24,
 .seq 25 35,
 .block 2 26,
 .loop 27,
 .seq 28 33,
 .seq 29 30,
 .reg [.s 16 (.m 6),
 .s 17 (.m 0),
 .s 18 (.lens (.t 17)),
 .s 19 (.bin .lss (.t 16) (.t 18)),
 .s 20 (.m 19),
 .y 21 (.m 0) 20,
 .y 22 (.m 6) 20,
 .y 23 (.ichr (.t 21) (.t 22)) 20,
 .y 24 (.bin .eql (.t 23) (.c (.int .u8 32))) 20,
 .s 25 (.pick (.t 20) (.t 24) (.c (.bool false)))],
 .cond (.t 25) 31 32,
 .skip,
 .exit 2,
 .block 3 34,
 .reg [.s 26 (.m 6),
 .s 27 (.bin .add (.t 26) (.i 1)),
 .s 6 (.m 27)],
 .seq 36 37,
 .reg [.s 29 (.m 0),
 .s 30 (.m 6),
 .s 31 (.f 125 [(.t 29), (.t 30)]),
 .s 28 (.m 31),
 .s 32 (.ext 0 (.t 28)),
 .s 33 (.ext 1 (.t 28)),
 .s 7 (.alloc 111 [(.i 0), (.str []), (.i 0)]),
 .n (.store 3 (.t 7) (.t 32)),
 .s 8 (.m 33)],
 .seq 38 45,
 .seq 39 40,
 .reg [.s 34 (.m 8),
 .s 35 (.bin .lss (.t 34) (.i 0))],
 .cond (.t 35) 41 44,
 .seq 42 43,
 .reg [.s 36 (.m 6),
 .s 2 (.mv (.c .nils)),
 .s 3 (.m 36),
 .s 4 (.mv (.i 4))],
 .ret,
 .skip,
 .seq 46 53,
 .seq 47 48,
 .reg [.s 37 (.m 5),
 .s 38 (.len (.t 37)),
 .s 39 (.bin .eql (.t 38) (.i 256))],
 .cond (.t 39) 49 52,
 .seq 50 51,
 .reg [.s 40 (.m 6),
 .s 2 (.mv (.c .nils)),
 .s 3 (.m 40),
 .s 4 (.mv (.i 5))],
 .ret,
 .skip,
 .seq 54 55,
 .reg [.s 41 (.m 5),
 .s 42 (.load (some 3) (.t 7)),
 .s 43 (.bslice 111 3 [(.t 42)]),
 .s 44 (.append 111 3 32 (.t 41) (.t 43)),
 .s 5 (.m 44)],
 .seq 56 63,
 .seq 57 58,
 .reg [.s 45 (.a 0 7),
 .s 46 (.l 45),
 .s 47 (.bin .eql (.t 46) (.i 3))],
 .cond (.t 47) 59 62,
 .seq 60 61,
 .reg [.s 48 (.m 5),
 .s 2 (.m 48),
 .s 3 (.mv (.i 0)),
 .s 4 (.mv (.i 0))],
 .ret,
 .skip,
 .reg [.s 49 (.m 8),
 .s 6 (.m 49)],
 .seq 65 66,
 .reg [.s 2 (.mv (.c .nils)),
 .s 3 (.mv (.i 0)),
 .s 4 (.mv (.i 4))],
 .ret]⟩
def F125 : FT := ⟨66, 2, [.cell 4 (some 3), .tmp 5],
 [.seq 1 2,
 .reg [.s 4 (.alloc 111 [(.i 0), (.str []), (.i 0)]),
 .s 5 (.mv (.i 0))],
 .seq 3 10,
 .seq 4 5,
 .reg [.s 8 (.m 1),
 .s 9 (.m 0),
 .s 10 (.lens (.t 9)),
 .s 11 (.bin .eql (.t 8) (.t 10))],
 .cond (.t 11) 6 9,
 .seq 7 8,
 .reg [.s 12 (.m 1),
 .s 13 (.build [(.i 0), (.str []), (.i 0)] [(0, 1, (.i 3)), (2, 1, (.t 12))]),
 .s 14 (.m 1),
 .n (.store 3 (.t 4) (.t 13)),
 .s 5 (.m 14)],
 .ret,
 .skip,
 .seq 11 12,
 .reg [.s 6 (.mv (.i (-1))),
 .s 7 (.mv (.i 0))],
 .seq 13 35,
 .block 0 14,
 .seq 15 16,
 .reg [.s 16 (.m 0),
 .s 17 (.m 1),
 .s 18 (.ichr (.t 16) (.t 17)),
 .s 19 (.f 176 [(.t 18)]),
 .s 15 (.m 19)],
 .cond (.t 15) 17 22,
 .seq 18 19,
 .reg [.s 20 (.m 0),
 .s 21 (.m 1),
 .s 22 (.f 177 [(.t 20), (.t 21)]),
 .s 6 (.m 22)],
 .seq 20 21,
 .reg [.s 23 (.m 7),
 .s 24 (.m 0),
 .s 25 (.m 1),
 .s 26 (.m 6),
 .s 27 (.slices (.t 24) (some (.t 25)) (some (.t 26))),
 .s 28 (.f 178 [(.t 27)]),
 .s 29 (.m 1),
 .s 30 (.build [(.i 0), (.str []), (.i 0)] [(0, 1, (.t 23)), (1, 1, (.t 28)), (2, 1, (.t 29))]),
 .s 31 (.m 6),
 .n (.store 3 (.t 4) (.t 30)),
 .s 5 (.m 31)],
 .ret,
 .seq 23 24,
 .reg [.s 33 (.m 0),
 .s 34 (.m 1),
 .s 35 (.ichr (.t 33) (.t 34)),
 .s 36 (.bin .eql (.t 35) (.c (.int .u8 34))),
 .s 32 (.m 36)],
 .cond (.t 32) 25 26,
 .reg [.s 37 (.m 0),
 .s 38 (.m 1),
 .s 39 (.f 179 [(.t 37), (.t 38)]),
 .s 6 (.m 39)],
 .seq 27 28,
 .reg [.s 41 (.m 0),
 .s 42 (.m 1),
 .s 43 (.ichr (.t 41) (.t 42)),
 .s 44 (.f 180 [(.t 43)]),
 .s 40 (.m 44)],
 .cond (.t 40) 29 30,
 .reg [.s 45 (.m 0),
 .s 46 (.m 1),
 .s 47 (.f 181 [(.t 45), (.t 46)]),
 .s 6 (.m 47),
 .s 7 (.mv (.i 1))],
 .seq 31 32,
 .reg [.s 49 (.m 0),
 .s 50 (.m 1),
 .s 51 (.ichr (.t 49) (.t 50)),
 .s 52 (.f 182 [(.t 51)]),
 .s 48 (.m 52)],
 .cond (.t 48) 33 34,
 .reg [.s 53 (.m 1),
 .s 54 (.bin .add (.t 53) (.i 1)),
 .s 6 (.m 54),
 .s 7 (.mv (.i 2))],
 .skip,
 .seq 36 43,
 .seq 37 38,
 .reg [.s 55 (.m 6),
 .s 56 (.bin .lss (.t 55) (.i 0))],
 .cond (.t 56) 39 42,
 .seq 40 41,
 .reg [.s 57 (.build [(.i 0), (.str []), (.i 0)] []),
 .n (.store 3 (.t 4) (.t 57)),
 .s 5 (.mv (.i (-1)))],
 .ret,
 .skip,
 .seq 44 45,
 .reg [.s 58 (.m 7),
 .s 59 (.m 0),
 .s 60 (.m 1),
 .s 61 (.m 6),
 .s 62 (.slices (.t 59) (some (.t 60)) (some (.t 61))),
 .s 63 (.m 1),
 .s 64 (.build [(.i 0), (.str []), (.i 0)] [(0, 1, (.t 58)), (1, 1, (.t 62)), (2, 1, (.t 63))]),
 .s 65 (.m 6),
 .n (.store 3 (.t 4) (.t 64)),
 .s 5 (.m 65)],
 .ret]⟩
def F176 : FT := ⟨17, 1, [.tmp 2],
 [.seq 1 2,
 .reg [.s 2 (.mv (.c (.bool false)))],
 .seq 3 4,
 .reg [.s 3 (.m 0),
 .s 4 (.bin .geq (.t 3) (.c (.int .u8 97))),
 .s 5 (.m 4),
 .y 6 (.m 0) 5,
 .y 7 (.bin .leq (.t 6) (.c (.int .u8 122))) 5,
 .s 8 (.pick (.t 5) (.t 7) (.c (.bool false))),
 .s 9 (.m 8),
 .x 10 (.m 0) 9,
 .x 11 (.bin .geq (.t 10) (.c (.int .u8 65))) 9,
 .x 12 (.m 11) 9,
 .y 13 (.m 0) 12,
 .y 14 (.bin .leq (.t 13) (.c (.int .u8 90))) 12,
 .x 15 (.pick (.t 12) (.t 14) (.c (.bool false))) 9,
 .s 16 (.pick (.t 9) (.c (.bool true)) (.t 15)),
 .s 2 (.m 16)],
 .ret]⟩
def F177 : FT := ⟨30, 2, [.tmp 4],
 [.seq 1 2,
 .reg [.s 4 (.mv (.i 0))],
 .seq 3 13,
 .block 0 4,
 .loop 5,
 .seq 6 11,
 .seq 7 8,
 .reg [.s 5 (.m 1),
 .s 6 (.m 0),
 .s 7 (.lens (.t 6)),
 .s 8 (.bin .lss (.t 5) (.t 7)),
 .s 9 (.m 8),
 .y 10 (.m 0) 9,
 .y 11 (.m 1) 9,
 .y 12 (.ichr (.t 10) (.t 11)) 9,
 .y 13 (.f 176 [(.t 12)]) 9,
 .y 14 (.m 13) 9,
 .x 15 (.m 0) 14,
 .x 16 (.m 1) 14,
 .x 17 (.ichr (.t 15) (.t 16)) 14,
 .x 18 (.f 180 [(.t 17)]) 14,
 .y 19 (.pick (.t 14) (.c (.bool true)) (.t 18)) 9,
 .y 20 (.m 19) 9,
 .x 21 (.m 0) 20,
 .x 22 (.m 1) 20,
 .x 23 (.ichr (.t 21) (.t 22)) 20,
 .x 24 (.bin .eql (.t 23) (.c (.int .u8 95))) 20,
 .y 25 (.pick (.t 20) (.c (.bool true)) (.t 24)) 9,
 .s 26 (.pick (.t 9) (.t 25) (.c (.bool false)))],
 .cond (.t 26) 9 10,
 .skip,
 .exit 0,
 .block 1 12,
 .reg [.s 27 (.m 1),
 .s 28 (.bin .add (.t 27) (.i 1)),
 .s 1 (.m 28)],
 .seq 14 15,
 .reg [.s 29 (.m 1),
 .s 4 (.m 29)],
 .ret]⟩
def F178 : FT := ⟨30, 1, [.tmp 2],
 [.seq 1 2,
 .reg [.s 2 (.mv (.w []))],
 .seq 3 4,
 .reg [.s 3 (.mv (.w []))],
 .seq 5 27,
 .seq 6 7,
 .reg [.s 4 (.mv (.i 0))],
 .block 0 8,
 .loop 9,
 .seq 10 15,
 .seq 11 12,
 .reg [.s 6 (.m 4),
 .s 7 (.m 0),
 .s 8 (.lens (.t 7)),
 .s 9 (.bin .lss (.t 6) (.t 8))],
 .cond (.t 9) 13 14,
 .skip,
 .exit 0,
 .seq 16 26,
 .block 1 17,
 .seq 18 19,
 .reg [.s 12 (.m 0),
 .s 13 (.m 4),
 .s 14 (.ichr (.t 12) (.t 13)),
 .s 5 (.m 14)],
 .seq 20 25,
 .seq 21 22,
 .reg [.s 15 (.m 5),
 .s 16 (.bin .geq (.t 15) (.c (.int .u8 65))),
 .s 17 (.m 16),
 .y 18 (.m 5) 17,
 .y 19 (.bin .leq (.t 18) (.c (.int .u8 90))) 17,
 .s 20 (.pick (.t 17) (.t 19) (.c (.bool false)))],
 .cond (.t 20) 23 24,
 .reg [.s 21 (.m 5),
 .s 22 (.bin .sub (.t 21) (.c (.int .u8 65))),
 .s 23 (.bin .add (.t 22) (.c (.int .u8 97))),
 .s 5 (.m 23)],
 .skip,
 .reg [.s 24 (.m 3),
 .s 25 (.m 5),
 .s 26 (.cvi .i32 (.t 25)),
 .s 27 (.cvis (.t 26)),
 .s 28 (.bin .add (.t 24) (.t 27)),
 .s 3 (.m 28)],
 .reg [.s 10 (.m 4),
 .s 11 (.bin .add (.t 10) (.i 1)),
 .s 4 (.m 11)],
 .seq 28 29,
 .reg [.s 29 (.m 3),
 .s 2 (.m 29)],
 .ret]⟩
def F179 : FT := ⟨32, 2, [.tmp 4],
 [.seq 1 2,
 .reg [.s 4 (.mv (.i 0))],
 .seq 3 4,
 .reg [.s 6 (.m 1),
 .s 7 (.bin .add (.t 6) (.i 1)),
 .s 5 (.m 7)],
 .seq 5 15,
 .block 0 6,
 .loop 7,
 .seq 8 13,
 .seq 9 10,
 .reg [.s 8 (.m 5),
 .s 9 (.m 0),
 .s 10 (.lens (.t 9)),
 .s 11 (.bin .lss (.t 8) (.t 10)),
 .s 12 (.m 11),
 .y 13 (.m 0) 12,
 .y 14 (.m 5) 12,
 .y 15 (.ichr (.t 13) (.t 14)) 12,
 .y 16 (.f 209 [(.t 15)]) 12,
 .s 17 (.pick (.t 12) (.t 16) (.c (.bool false)))],
 .cond (.t 17) 11 12,
 .skip,
 .exit 0,
 .block 1 14,
 .reg [.s 18 (.m 5),
 .s 19 (.bin .add (.t 18) (.i 1)),
 .s 5 (.m 19)],
 .seq 16 23,
 .seq 17 18,
 .reg [.s 20 (.m 5),
 .s 21 (.m 0),
 .s 22 (.lens (.t 21)),
 .s 23 (.bin .eql (.t 20) (.t 22)),
 .s 24 (.m 23),
 .x 25 (.m 0) 24,
 .x 26 (.m 5) 24,
 .x 27 (.ichr (.t 25) (.t 26)) 24,
 .x 28 (.bin .neq (.t 27) (.c (.int .u8 34))) 24,
 .s 29 (.pick (.t 24) (.c (.bool true)) (.t 28))],
 .cond (.t 29) 19 22,
 .seq 20 21,
 .reg [.s 4 (.mv (.i (-1)))],
 .ret,
 .skip,
 .seq 24 25,
 .reg [.s 30 (.m 5),
 .s 31 (.bin .add (.t 30) (.i 1)),
 .s 4 (.m 31)],
 .ret]⟩
def F180 : FT := ⟨9, 1, [.tmp 2],
 [.seq 1 2,
 .reg [.s 2 (.mv (.c (.bool false)))],
 .seq 3 4,
 .reg [.s 3 (.m 0),
 .s 4 (.bin .geq (.t 3) (.c (.int .u8 48))),
 .s 5 (.m 4),
 .y 6 (.m 0) 5,
 .y 7 (.bin .leq (.t 6) (.c (.int .u8 57))) 5,
 .s 8 (.pick (.t 5) (.t 7) (.c (.bool false))),
 .s 2 (.m 8)],
 .ret]⟩
def F181 : FT := ⟨50, 2, [.tmp 4],
 [.seq 1 2,
 .reg [.s 4 (.mv (.i 0))],
 .seq 3 13,
 .block 0 4,
 .loop 5,
 .seq 6 11,
 .seq 7 8,
 .reg [.s 5 (.m 1),
 .s 6 (.m 0),
 .s 7 (.lens (.t 6)),
 .s 8 (.bin .lss (.t 5) (.t 7)),
 .s 9 (.m 8),
 .y 10 (.m 0) 9,
 .y 11 (.m 1) 9,
 .y 12 (.ichr (.t 10) (.t 11)) 9,
 .y 13 (.f 180 [(.t 12)]) 9,
 .s 14 (.pick (.t 9) (.t 13) (.c (.bool false)))],
 .cond (.t 14) 9 10,
 .skip,
 .exit 0,
 .block 1 12,
 .reg [.s 15 (.m 1),
 .s 16 (.bin .add (.t 15) (.i 1)),
 .s 1 (.m 16)],
 .seq 14 30,
 .seq 15 16,
 .reg [.s 17 (.m 1),
 .s 18 (.bin .add (.t 17) (.i 1)),
 .s 19 (.m 0),
 .s 20 (.lens (.t 19)),
 .s 21 (.bin .lss (.t 18) (.t 20)),
 .s 22 (.m 21),
 .y 23 (.m 0) 22,
 .y 24 (.m 1) 22,
 .y 25 (.ichr (.t 23) (.t 24)) 22,
 .y 26 (.bin .eql (.t 25) (.c (.int .u8 46))) 22,
 .s 27 (.pick (.t 22) (.t 26) (.c (.bool false))),
 .s 28 (.m 27),
 .y 29 (.m 0) 28,
 .y 30 (.m 1) 28,
 .y 31 (.bin .add (.t 30) (.i 1)) 28,
 .y 32 (.ichr (.t 29) (.t 31)) 28,
 .y 33 (.f 180 [(.t 32)]) 28,
 .s 34 (.pick (.t 28) (.t 33) (.c (.bool false)))],
 .cond (.t 34) 17 29,
 .seq 18 19,
 .reg [.s 35 (.m 1),
 .s 36 (.bin .add (.t 35) (.i 1)),
 .s 1 (.m 36)],
 .block 2 20,
 .loop 21,
 .seq 22 27,
 .seq 23 24,
 .reg [.s 37 (.m 1),
 .s 38 (.m 0),
 .s 39 (.lens (.t 38)),
 .s 40 (.bin .lss (.t 37) (.t 39)),
 .s 41 (.m 40),
 .y 42 (.m 0) 41,
 .y 43 (.m 1) 41,
 .y 44 (.ichr (.t 42) (.t 43)) 41,
 .y 45 (.f 180 [(.t 44)]) 41,
 .s 46 (.pick (.t 41) (.t 45) (.c (.bool false)))],
 .cond (.t 46) 25 26,
 .skip,
 .exit 2,
 .block 3 28,
 .reg [.s 47 (.m 1),
 .s 48 (.bin .add (.t 47) (.i 1)),
 .s 1 (.m 48)],
 .skip,
 .seq 31 32,
 .reg [.s 49 (.m 1),
 .s 4 (.m 49)],
 .ret]⟩
def F182 : FT := ⟨12, 1, [.tmp 2],
 [.seq 1 2,
 .reg [.s 2 (.mv (.c (.bool false)))],
 .seq 3 23,
 .seq 4 5,
 .reg [.s 3 (.mv (.i 0))],
 .block 0 6,
 .loop 7,
 .seq 8 13,
 .seq 9 10,
 .reg [.s 4 (.m 3),
 .s 5 (.bin .lss (.t 4) (.i 11))],
 .cond (.t 5) 11 12,
 .skip,
 .exit 0,
 .seq 14 22,
 .block 1 15,
 .seq 16 17,
 .reg [.s 8 (.m 3),
 .s 9 (.ichr (.w [43, 45, 47, 46, 44, 64, 58, 61, 37, 40, 41]) (.t 8)),
 .s 10 (.m 0),
 .s 11 (.bin .eql (.t 9) (.t 10))],
 .cond (.t 11) 18 21,
 .seq 19 20,
 .reg [.s 2 (.mv (.c (.bool true)))],
 .ret,
 .skip,
 .reg [.s 6 (.m 3),
 .s 7 (.bin .add (.t 6) (.i 1)),
 .s 3 (.m 7)],
 .seq 24 25,
 .reg [.s 2 (.mv (.c (.bool false)))],
 .ret]⟩
def F185 : FT := ⟨27, 1, [.tmp 2],
 [.seq 1 2,
 .reg [.s 2 (.mv (.i 0))],
 .seq 3 10,
 .seq 4 5,
 .reg [.s 3 (.m 0),
 .s 4 (.bin .eql (.t 3) (.w [])),
 .s 5 (.m 4),
 .x 6 (.m 0) 5,
 .x 7 (.ichr (.t 6) (.i 0)) 5,
 .x 8 (.f 176 [(.t 7)]) 5,
 .x 9 (.un .not (.t 8)) 5,
 .s 10 (.pick (.t 5) (.c (.bool true)) (.t 9)),
 .s 11 (.m 10),
 .x 12 (.m 0) 11,
 .x 13 (.f 177 [(.t 12), (.i 0)]) 11,
 .x 14 (.m 0) 11,
 .x 15 (.lens (.t 14)) 11,
 .x 16 (.bin .neq (.t 13) (.t 15)) 11,
 .s 17 (.pick (.t 11) (.c (.bool true)) (.t 16)),
 .s 18 (.m 17),
 .x 19 (.m 0) 18,
 .x 20 (.f 178 [(.t 19)]) 18,
 .x 21 (.m 0) 18,
 .x 22 (.bin .neq (.t 20) (.t 21)) 18,
 .s 23 (.pick (.t 18) (.c (.bool true)) (.t 22))],
 .cond (.t 23) 6 9,
 .seq 7 8,
 .reg [.s 2 (.mv (.i 8))],
 .ret,
 .skip,
 .seq 11 18,
 .seq 12 13,
 .reg [.s 24 (.m 0),
 .s 25 (.lens (.t 24)),
 .s 26 (.bin .gtr (.t 25) (.i 24))],
 .cond (.t 26) 14 17,
 .seq 15 16,
 .reg [.s 2 (.mv (.i 13))],
 .ret,
 .skip,
 .seq 19 20,
 .reg [.s 2 (.mv (.i 0))],
 .ret]⟩
def F209 : FT := ⟨13, 1, [.tmp 2],
 [.seq 1 2,
 .reg [.s 2 (.mv (.c (.bool false)))],
 .seq 3 4,
 .reg [.s 3 (.m 0),
 .s 4 (.bin .geq (.t 3) (.c (.int .u8 32))),
 .s 5 (.m 4),
 .y 6 (.m 0) 5,
 .y 7 (.bin .leq (.t 6) (.c (.int .u8 126))) 5,
 .s 8 (.pick (.t 5) (.t 7) (.c (.bool false))),
 .s 9 (.m 8),
 .y 10 (.m 0) 9,
 .y 11 (.bin .neq (.t 10) (.c (.int .u8 34))) 9,
 .s 12 (.pick (.t 9) (.t 11) (.c (.bool false))),
 .s 2 (.m 12)],
 .ret]⟩
theorem F60_ok : compFn Tryz.prog 60 = some F60 := by kernel_rfl
theorem F107_ok : compFn Tryz.prog 107 = some F107 := by kernel_rfl
theorem F156_ok : compFn Tryz.prog 156 = some F156 := by kernel_rfl
theorem F157_ok : compFn Tryz.prog 157 = some F157 := by kernel_rfl
theorem F158_ok : compFn Tryz.prog 158 = some F158 := by kernel_rfl
theorem F159_ok : compFn Tryz.prog 159 = some F159 := by kernel_rfl
theorem F160_ok : compFn Tryz.prog 160 = some F160 := by kernel_rfl
theorem F161_ok : compFn Tryz.prog 161 = some F161 := by kernel_rfl
theorem F162_ok : compFn Tryz.prog 162 = some F162 := by kernel_rfl
theorem F163_ok : compFn Tryz.prog 163 = some F163 := by kernel_rfl
theorem F164_ok : compFn Tryz.prog 164 = some F164 := by kernel_rfl
theorem F165_ok : compFn Tryz.prog 165 = some F165 := by kernel_rfl
theorem F166_ok : compFn Tryz.prog 166 = some F166 := by kernel_rfl
theorem F167_ok : compFn Tryz.prog 167 = some F167 := by kernel_rfl
theorem F145_ok : compFn Tryz.prog 145 = some F145 := by kernel_rfl
theorem F198_ok : compFn Tryz.prog 198 = some F198 := by kernel_rfl
theorem F221_ok : compFn Tryz.prog 221 = some F221 := by kernel_rfl
theorem F207_ok : compFn Tryz.prog 207 = some F207 := by kernel_rfl
theorem F67_ok : compFn Tryz.prog 67 = some F67 := by kernel_rfl
theorem F125_ok : compFn Tryz.prog 125 = some F125 := by kernel_rfl
theorem F176_ok : compFn Tryz.prog 176 = some F176 := by kernel_rfl
theorem F177_ok : compFn Tryz.prog 177 = some F177 := by kernel_rfl
theorem F178_ok : compFn Tryz.prog 178 = some F178 := by kernel_rfl
theorem F179_ok : compFn Tryz.prog 179 = some F179 := by kernel_rfl
theorem F180_ok : compFn Tryz.prog 180 = some F180 := by kernel_rfl
theorem F181_ok : compFn Tryz.prog 181 = some F181 := by kernel_rfl
theorem F182_ok : compFn Tryz.prog 182 = some F182 := by kernel_rfl
theorem F185_ok : compFn Tryz.prog 185 = some F185 := by kernel_rfl
theorem F209_ok : compFn Tryz.prog 209 = some F209 := by kernel_rfl
def isDig (c : Int) : Bool := decide (48 ≤ c) && decide (c ≤ 57)
def isLet (c : Int) : Bool := decide (97 ≤ c) && decide (c ≤ 122) || decide (65 ≤ c) && decide (c ≤ 90)
def isWrd (c : Int) : Bool := isLet c || isDig c || c == 95
def isPln (c : Int) : Bool := decide (32 ≤ c) && decide (c ≤ 126) && c != 34
def signs : List UInt8 := [43, 45, 47, 46, 44, 64, 58, 61, 37, 40, 41]
def isSgn (c : Int) : Bool := signs.any fun b => (b.toNat : Int) == c
theorem isDigit_v (c : Int) (st : St) : VRet Tryz.prog 165 [.int .u8 c] st (.bool (isDig c)) st := by
 refine vc F165_ok rfl (fun hwf => ?_)
 (repeat' first | ((first | refine go rfl rfl ?_ | (refine Fk.by_ ?_ ?_ <;> intro hc <;> try simp only [hc]) | refine storeK_eq rfl ?_ | with_reducible refine an ?_ ?_) <;> try simp only [push_cast, ed, reduceCtorEq, ld]))
 all_goals exact finRet0 hwf rfl (by simp [resOne, isDig, hc]) rfl
theorem digit_v (c : Int) (st : St) : VRet Tryz.prog 180 [.int .u8 c] st (.bool (isDig c)) st := by
 refine vc F180_ok rfl (fun hwf => ?_)
 (repeat' first | ((first | refine go rfl rfl ?_ | (refine Fk.by_ ?_ ?_ <;> intro hc <;> try simp only [hc]) | refine storeK_eq rfl ?_ | with_reducible refine an ?_ ?_) <;> try simp only [push_cast, ed, reduceCtorEq, ld]))
 all_goals exact finRet0 hwf rfl (by simp [resOne, isDig, hc]) rfl
theorem isLetter_v (c : Int) (st : St) : VRet Tryz.prog 160 [.int .u8 c] st (.bool (isLet c)) st := by
 refine vc F160_ok rfl (fun hwf => ?_)
 (repeat' first | ((first | refine go rfl rfl ?_ | (refine Fk.by_ ?_ ?_ <;> intro hc <;> try simp only [hc]) | refine storeK_eq rfl ?_ | with_reducible refine an ?_ ?_) <;> try simp only [push_cast, ed, reduceCtorEq, ld]))
 all_goals exact finRet0 hwf rfl (by simp [resOne, isLet, *] ) rfl
theorem letter_v (c : Int) (st : St) : VRet Tryz.prog 176 [.int .u8 c] st (.bool (isLet c)) st := by
 refine vc F176_ok rfl (fun hwf => ?_)
 (repeat' first | ((first | refine go rfl rfl ?_ | (refine Fk.by_ ?_ ?_ <;> intro hc <;> try simp only [hc]) | refine storeK_eq rfl ?_ | with_reducible refine an ?_ ?_) <;> try simp only [push_cast, ed, reduceCtorEq, ld]))
 all_goals exact finRet0 hwf rfl (by simp [resOne, isLet, *] ) rfl
theorem isPlain_v (c : Int) (st : St) : VRet Tryz.prog 163 [.int .u8 c] st (.bool (isPln c)) st := by
 refine vc F163_ok rfl (fun hwf => ?_)
 (repeat' first | ((first | refine go rfl rfl ?_ | (refine Fk.by_ ?_ ?_ <;> intro hc <;> try simp only [hc]) | refine storeK_eq rfl ?_ | with_reducible refine an ?_ ?_) <;> try simp only [push_cast, ed, reduceCtorEq, ld]))
 all_goals exact finRet0 hwf rfl (by simp [resOne, isPln, *] ) rfl
theorem plain_v (c : Int) (st : St) : VRet Tryz.prog 209 [.int .u8 c] st (.bool (isPln c)) st := by
 refine vc F209_ok rfl (fun hwf => ?_)
 (repeat' first | ((first | refine go rfl rfl ?_ | (refine Fk.by_ ?_ ?_ <;> intro hc <;> try simp only [hc]) | refine storeK_eq rfl ?_ | with_reducible refine an ?_ ?_) <;> try simp only [push_cast, ed, reduceCtorEq, ld]))
 all_goals exact finRet0 hwf rfl (by simp [resOne, isPln, *] ) rfl
theorem isWord_v (c : Int) (st : St) : VRet Tryz.prog 161 [.int .u8 c] st (.bool (isWrd c)) st := by
 refine vc F161_ok rfl (fun hwf => ?_)
 (repeat' first | ((first | refine go rfl rfl ?_ | refine Cl.by_ (by (first | refine isLetter_v _ _ | refine isDigit_v _ _)) ?_ | (refine Fk.by_ ?_ ?_ <;> intro hc <;> try simp only [hc]) | refine storeK_eq rfl ?_ | with_reducible refine an ?_ ?_) <;> try simp only [push_cast, ed, reduceCtorEq, ld]))
 all_goals exact finRet0 hwf rfl (by simp [resOne, isWrd, *] ) rfl
theorem blank_v (c : Int) (st : St) : VRet Tryz.prog 157 [.int .u8 c] st (.bool (c == 32)) st := by
 refine vc F157_ok rfl (fun hwf => ?_)
 (repeat' first | ((first | refine go rfl rfl ?_ | (refine Fk.by_ ?_ ?_ <;> intro hc <;> try simp only [hc]) | refine storeK_eq rfl ?_ | with_reducible refine an ?_ ?_) <;> try simp only [push_cast, ed, reduceCtorEq, ld]))
 all_goals exact finRet0 hwf rfl rfl rfl
theorem quote_v (c : Int) (st : St) : VRet Tryz.prog 164 [.int .u8 c] st (.bool (c == 34)) st := by
 refine vc F164_ok rfl (fun hwf => ?_)
 (repeat' first | ((first | refine go rfl rfl ?_ | (refine Fk.by_ ?_ ?_ <;> intro hc <;> try simp only [hc]) | refine storeK_eq rfl ?_ | with_reducible refine an ?_ ?_) <;> try simp only [push_cast, ed, reduceCtorEq, ld]))
 all_goals exact finRet0 hwf rfl rfl rfl
theorem dot_v (c : Int) (st : St) : VRet Tryz.prog 166 [.int .u8 c] st (.bool (c == 46)) st := by
 refine vc F166_ok rfl (fun hwf => ?_)
 (repeat' first | ((first | refine go rfl rfl ?_ | (refine Fk.by_ ?_ ?_ <;> intro hc <;> try simp only [hc]) | refine storeK_eq rfl ?_ | with_reducible refine an ?_ ?_) <;> try simp only [push_cast, ed, reduceCtorEq, ld]))
 all_goals exact finRet0 hwf rfl rfl rfl
theorem sign_v (c : Int) (st : St) : VRet Tryz.prog 182 [.int .u8 c] st (.bool (isSgn c)) st := by
  refine vc F182_ok rfl (fun hwf => ?_)
  (repeat' first | ((first | refine go rfl rfl ?_ | (refine Fk.by_ ?_ ?_ <;> intro hc <;> try simp only [hc]) | refine storeK_eq rfl ?_ | with_reducible refine an ?_ ?_) <;> try simp only [push_cast, ed, reduceCtorEq, ld]))
  refine WT_loop rfl (fun n e s => ∃ i : Nat, n = 11 - i ∧ i ≤ 11 ∧ (signs.take i).any (fun b => (b.toNat : Int) == c) = false ∧ e = [(3, .int .i64 i), (0, .int .u8 c)] ∧ s = st) st.nx (Nat.le_refl _) (by rintro _ _ _ ⟨i, _, _, _, _, rfl⟩; rfl)
    ⟨11, _, _, ⟨0, rfl, by omega, rfl, rfl, rfl⟩, .cons rfl rfl (.cons rfl rfl .nil), .refl hwf⟩ ?_
  rintro n e s ⟨i, rfl, hi, hno, rfl, rfl⟩
  (repeat' first | ((first | refine go rfl rfl ?_ | (refine Fk.by_ ?_ ?_ <;> intro hc <;> try simp only [hc]) | refine storeK_eq rfl ?_ | with_reducible refine an ?_ ?_) <;> try simp only [push_cast, ed, reduceCtorEq, ld]))
  · have hi' : i < 11 := by have : (i : Int) < 11 := by simpa using hc
                            omega
    obtain ⟨b, hb⟩ : ∃ b, signs[i]? = some b := ⟨_, List.getElem?_eq_getElem (by simpa [signs] using hi')⟩
    refine afterE_map hb ?_
    simp only [push_cast, ed, reduceCtorEq, ld]
    (repeat' first | ((first | refine go rfl rfl ?_ | (refine Fk.by_ ?_ ?_ <;> intro hc <;> try simp only [hc]) | refine storeK_eq rfl ?_ | with_reducible refine an ?_ ?_) <;> try simp only [push_cast, ed, reduceCtorEq, ld]))
    · refine finRet0 hwf rfl ?_ rfl
      have : isSgn c = true := List.any_eq_true.2 ⟨b, List.mem_of_getElem? hb, hc⟩
      simp [resOne, this]
    · rw [wrap64 (by omega) (by omega)]
      refine ⟨_, _, _, ?_, ⟨i + 1, rfl, by omega, ?_, rfl, rfl⟩, .cons rfl rfl (.cons rfl rfl .nil), .refl hwf⟩
      · omega
      · rw [List.take_add_one, hb]; simp [hno, hc]
  · have hi' : i = 11 := by have : ¬ ((i : Int) < 11) := by simpa using hc
                            omega
    subst hi'
    refine finRet0 hwf rfl ?_ rfl
    have : isSgn c = false := hno
    simp [resOne, this]
theorem f60 (s : List UInt8) (c : Int) (st : St) : VRet Tryz.prog 200 [.str s, .int .u8 c] st (.int .i64 (Lib.indexByte s c.toNat.toUInt8)) st :=
 indexByteString_v Tryz.func200 (by kernel_rfl) (by kernel_rfl) (by kernel_rfl) (by kernel_rfl) s c st
theorem f57 (s : List UInt8) (c : Int) (st : St) : VRet Tryz.prog 145 [.str s, .int .u8 c] st (.int .i64 (Lib.indexByte s c.toNat.toUInt8)) st := by
 refine vc F145_ok rfl (fun hwf => ?_)
 (repeat' first | ((first | refine go rfl rfl ?_ | refine Cl.by_ (by (first | refine f60 _ _ _)) ?_ | (refine Fk.by_ ?_ ?_ <;> intro hc <;> try simp only [hc]) | refine storeK_eq rfl ?_ | with_reducible refine an ?_ ?_) <;> try simp only [push_cast, ed, reduceCtorEq, ld]))
 all_goals exact finRet0 hwf rfl rfl rfl
theorem f54 (s : List UInt8) (c : Int) (st : St) : VRet Tryz.prog 198 [.str s, .int .u8 c] st (.int .i64 (Lib.indexByte s c.toNat.toUInt8)) st := by
 refine vc F198_ok rfl (fun hwf => ?_)
 (repeat' first | ((first | refine go rfl rfl ?_ | refine Cl.by_ (by (first | refine f57 _ _ _)) ?_ | (refine Fk.by_ ?_ ?_ <;> intro hc <;> try simp only [hc]) | refine storeK_eq rfl ?_ | with_reducible refine an ?_ ?_) <;> try simp only [push_cast, ed, reduceCtorEq, ld]))
 all_goals exact finRet0 hwf rfl rfl rfl
theorem indexByte_any (l : List UInt8) (c : UInt8) : decide (0 ≤ Lib.indexByte l c) = l.any fun b => (b.toNat : Int) == (c.toNat : Int) := by
 induction l with
 | nil => rfl
 | cons b l ih =>
  have hb : (b == c) = ((b.toNat : Int) == (c.toNat : Int)) := by
   rw [Bool.eq_iff_iff]
   simp only [beq_iff_eq]
   constructor
   ·rintro rfl; rfl
   ·intro h; exact UInt8.toNat_inj.1 (by omega)
  have hg := Lib.indexByte_ge l c
  rw [List.any_cons, ← hb, ← ih]
  by_cases h : (b == c) = true
  ·simp [Lib.indexByte, h]
  ·have h' : (b == c) = false := by simpa using h
   rw [h', Bool.false_or]
   apply decide_eq_decide.2
   have e : Lib.indexByte (b :: l) c = if (b == c) = true then 0 else if (Lib.indexByte l c == -1) = true then -1 else Lib.indexByte l c + 1 := rfl
   rw [e, if_neg h]
   split
   ·rename_i h; have : Lib.indexByte l c = -1 := by simpa using h
    omega
   ·rename_i h; have : Lib.indexByte l c ≠ -1 := by simpa using h
    omega
theorem isSign_v (b : UInt8) (st : St) : VRet Tryz.prog 167 [.int .u8 b.toNat] st (.bool (isSgn b.toNat)) st := by
 refine vc F167_ok rfl (fun hwf => ?_)
 (repeat' first | ((first | refine go rfl rfl ?_ | refine Cl.by_ (by (first | refine f54 _ _ _)) ?_ | (refine Fk.by_ ?_ ?_ <;> intro hc <;> try simp only [hc]) | refine storeK_eq rfl ?_ | with_reducible refine an ?_ ?_) <;> try simp only [push_cast, ed, reduceCtorEq, ld]))
 refine finRet0 hwf rfl ?_ rfl
 have : ((b.toNat : Int).toNat).toUInt8 = b := by simp
 simp only [resOne, isSgn, ← indexByte_any, this]
 rfl
def atIs (ok : UInt8 → Bool) (s : List UInt8) (i : Nat) : Bool := match s[i]? with
 | some b => ok b
 | none => false
theorem is_v {k : FuncId} {ok : UInt8 → Bool} (hk : ∀ (b : UInt8) (st : St), VRet Tryz.prog k [.int .u8 b.toNat] st (.bool (ok b)) st) {st : St} {id : Nat} {s : List UInt8} {i n : Nat}
  (hm : Sha.look st.mem id = some [.str s, .int .i64 (i : Int)]) (hn : i + n < 4611686018427387904) :
  VRet Tryz.prog 159 [.ptr id 0, .int .i64 (n : Int), .fn (.func k) [] []] st (.bool (atIs ok s (i + n))) st := by
 refine vc F159_ok rfl (fun hwf => ?_)
 have hw : IntKind.i64.wrap ((i : Int) + (n : Int)) = (i : Int) + (n : Int) := wrap64 (by omega) (by omega)
 cases hb : s[i + n]? with
 | none =>
  have hlt : decide ((i : Int) + (n : Int) < (s.length : Int)) = false := by
   have := List.getElem?_eq_none_iff.1 hb
   simp; omega
  (repeat' first | ((first | refine go rfl rfl ?_ | (refine Fk.by_ ?_ ?_ <;> intro hc <;> try simp only [hc]) | refine storeK_eq rfl ?_ | with_reducible refine an ?_ ?_) <;> try simp only [hm, hw, hlt, push_cast, ed, reduceCtorEq, ld]))
  exact finRet0 hwf rfl (by simp [resOne, atIs, hb]) rfl
 | some b =>
  have hlt : decide ((i : Int) + (n : Int) < (s.length : Int)) = true := by
   have := (List.getElem?_eq_some_iff.1 hb).1
   simp; omega
  (repeat' first | ((first | refine go rfl rfl ?_ | refine Cl.by_ (by (first | refine hk _ _)) ?_ | (refine Fk.by_ ?_ ?_ <;> intro hc <;> try simp only [hc]) | refine storeK_eq rfl ?_ | with_reducible refine an ?_ ?_) <;> try simp only [hm, hw, hlt, hb, push_cast, ed, reduceCtorEq, ld]))
  exact finRet0 hwf rfl (by simp [resOne, atIs, hb]) rfl
def runTo (ok : UInt8 → Bool) (s : List UInt8) (i : Nat) : Nat := i + ((s.drop i).takeWhile ok).length
theorem runTo_stop {ok : UInt8 → Bool} {s : List UInt8} {i : Nat} (h : atIs ok s i = false) : runTo ok s i = i := by
 unfold runTo
 unfold atIs at h
 cases hb : s[i]? with
 | none => rw [List.drop_eq_nil_of_le (List.getElem?_eq_none_iff.1 hb)]; rfl
 | some b =>
  rw [hb] at h
  obtain ⟨hlt, e⟩ := List.getElem?_eq_some_iff.1 hb
  rw [List.drop_eq_getElem_cons hlt, e, List.takeWhile_cons, if_neg (by simpa using h)]; rfl
theorem runTo_go {ok : UInt8 → Bool} {s : List UInt8} {i : Nat} (h : atIs ok s i = true) : runTo ok s (i + 1) = runTo ok s i ∧ i < s.length := by
 unfold runTo
 unfold atIs at h
 cases hb : s[i]? with
 | none => rw [hb] at h; cases h
 | some b =>
  rw [hb] at h
  obtain ⟨hlt, e⟩ := List.getElem?_eq_some_iff.1 hb
  refine ⟨?_, hlt⟩
  rw [List.drop_eq_getElem_cons hlt, e, List.takeWhile_cons, if_pos (by simpa using h), List.length_cons]; omega
theorem runTo_le {ok : UInt8 → Bool} {s : List UInt8} {i : Nat} (h : i ≤ s.length) : runTo ok s i ≤ s.length := by
 unfold runTo
 have := (List.takeWhile_sublist ok (l := s.drop i)).length_le
 rw [List.length_drop] at this; omega
theorem skip_v {k : FuncId} {ok : UInt8 → Bool} (hk : ∀ (b : UInt8) (st : St), VRet Tryz.prog k [.int .u8 b.toNat] st (.bool (ok b)) st) {st : St} {id : Nat} {s : List UInt8} {i : Nat}
  (hm : Sha.look st.mem id = some [.str s, .int .i64 (i : Int)]) (hi : i ≤ s.length) (hs : s.length < 2305843009213693952) :
  VRet Tryz.prog 156 [.ptr id 0, .fn (.func k) [] []] st (.tup []) (st.put id [.str s, .int .i64 (runTo ok s i : Nat)]) := by
 refine vc F156_ok rfl (fun hwf => ?_)
 have hid := (hwf.mem _ _ hm).1
 (repeat' first | ((first | refine go rfl rfl ?_ | (refine Fk.by_ ?_ ?_ <;> intro hc <;> try simp only [hc]) | refine storeK_eq rfl ?_ | with_reducible refine an ?_ ?_) <;> try simp only [push_cast, ed, reduceCtorEq, ld]))
 refine WT_loop rfl (fun n e z => ∃ j : Nat, n = s.length - j ∧ j ≤ s.length ∧ runTo ok s j = runTo ok s i ∧ e = [(0, .ptr id 0), (1, .fn (.func k) [] [])] ∧ z = st.put id [.str s, .int .i64 (j : Int)]) st.nx (Nat.le_refl _) (by rintro _ _ _ ⟨j, _, _, _, _, rfl⟩; rfl)
  ⟨_, _, _, ⟨i, rfl, hi, rfl, rfl, rfl⟩, .cons (by simpa [V.bd] using hid) rfl (.cons rfl rfl .nil), by rw [put_self hm]; exact .refl hwf⟩ ?_
 rintro n e z ⟨j, rfl, hj, hr, rfl, rfl⟩
 have hm' : Sha.look (updM st.mem id [.str s, .int .i64 (j : Int)]) id = some [.str s, .int .i64 (j : Int)] := look_upd hm
 have hw : j < s.length → IntKind.i64.wrap ((j : Int) + 1) = (j : Int) + 1 := fun h => wrap64 (by omega) (by omega)
 (repeat' first | ((first | refine go rfl rfl ?_ | refine Cl.by_ (by (first | refine is_v (n := 0) hk hm' (by omega))) ?_ | (refine Fk.by_ ?_ ?_ <;> intro hc <;> try simp only [hc]) | refine storeK_eq rfl ?_ | with_reducible refine an ?_ ?_) <;> try simp only [hm', push_cast, ed, reduceCtorEq, ld]))
 ·obtain ⟨g1, g2⟩ := runTo_go hc
  rw [hw g2]
  exact ⟨_, _, _, by omega, ⟨j + 1, rfl, by omega, by rw [g1, hr], rfl, rfl⟩, .cons (by simpa [V.bd] using hid) rfl (.cons rfl rfl .nil), .refl (hwf.put rfl)⟩
 ·refine (finAt (vs := []) (r := .tup []) (hwf.put rfl) (Nat.le_refl _) ?_ rfl rfl rfl).1
  rw [← hr, runTo_stop hc]; rfl
structure Tok where
 k : Int
 t : List UInt8
 a : Int
 deriving DecidableEq
def tkV (x : Tok) : V := .agg [.int .i64 x.k, .str x.t, .int .i64 x.a]
theorem cells_tkV {x : Tok} : (tkV x).cells = [.int .i64 x.k, .str x.t, .int .i64 x.a] := @_root_.id (_ = _) rfl
theorem bdL_tk {n : Nat} {l : List Tok} : V.bdL n (l.map tkV) = true := bdL_map fun _ _ => rfl
theorem all_tk {l : List Tok} : (l.map tkV).all (fun x => x.cells.length == 3) = true := by simp [tkV, V.cells]
def tokV (k : Int) (t : List UInt8) (a : Nat) : V := .agg [.int .i64 k, .str t, .int .i64 (a : Int)]
theorem app_tk {l : List Tok} {k : Int} {t : List UInt8} {a : Int} : l.map tkV ++ [.agg [.int .i64 k, .str t, .int .i64 a]] = (l ++ [Tok.mk k t a]).map tkV := by simp [tkV]
theorem made_v {st : St} {p q id : Nat} {s : List UInt8} {a i : Nat} (k : Int) (hp : Sha.look st.mem p = some [.ptr id 0]) (hq : Sha.look st.mem q = some [.int .i64 (a : Int)]) (hm : Sha.look st.mem id = some [.str s, .int .i64 (i : Int)]) (ha : a ≤ i) (hi : i ≤ s.length) :
  VRet Tryz.prog 158 [.int .i64 k, .ptr p 0, .ptr q 0] st (.tup [tokV k ((s.take i).drop a) a, .bool true]) st := by
 refine vc F158_ok rfl (fun hwf => ?_)
 have hp' := (hwf.mem _ _ hp).1
 have hq' := (hwf.mem _ _ hq).1
 have hm' := (hwf.mem _ _ hm).1
 have e1 : (st.nx = p) = False := eq_false (by omega)
 have e2 : (st.nx = q) = False := eq_false (by omega)
 have e3 : (st.nx = id) = False := eq_false (by omega)
 (repeat' first | ((first | refine go rfl rfl ?_ | (refine Fk.by_ ?_ ?_ <;> intro hc <;> try simp only [hc]) | refine storeK_eq rfl ?_ | with_reducible refine an ?_ ?_) <;> try simp only [hp, hq, hm, e1, e2, e3, ha, hi, push_cast, ed, reduceCtorEq, ld]))
 refine finC (hwf) (by simp only [F158, push_cast, ed, reduceCtorEq, ld]; exact rfl) (by first | exact .inl rfl | (right; simp only [F158, push_cast, ed, reduceCtorEq, ld]; try rfl)) (by first | rfl | assumption) (by simp [(hwf).z])
def lowB (b : UInt8) : UInt8 := if 65 ≤ b.toNat ∧ b.toNat ≤ 90 then b + 32 else b
def lowN (s : List UInt8) (j : Nat) : List UInt8 := (s.take j).map lowB ++ s.drop j
theorem lowN_length {s : List UInt8} {j : Nat} : (lowN s j).length = s.length := by simp [lowN]; omega
theorem lowN_get {s : List UInt8} {j : Nat} (h : j < s.length) : (lowN s j)[j]? = s[j]? := by
 unfold lowN
 have e : ((s.take j).map lowB).length = j := by simp; omega
 rw [List.getElem?_append_right (by omega), e]
 simp
theorem lowN_set {s : List UInt8} {j : Nat} {b : UInt8} (h : s[j]? = some b) : lowN s (j + 1) = (lowN s j).set j (lowB b) := by
 obtain ⟨hlt, e⟩ := List.getElem?_eq_some_iff.1 h
 unfold lowN
 have e1 : ((s.take j).map lowB).length = j := by simp; omega
 rw [List.take_add_one, h, List.set_append_right _ _ (by omega), e1, List.drop_eq_getElem_cons hlt]
 simp only [Option.toList_some, List.map_append, List.map_cons, List.map_nil, Nat.sub_self, List.set_cons_zero, List.append_assoc, List.singleton_append]
theorem set_self {α : Type} {l : List α} {i : Nat} {a : α} (h : l[i]? = some a) : l.set i a = l := by
 obtain ⟨hl, rfl⟩ := List.getElem?_eq_some_iff.1 h
 exact List.set_getElem_self hl
theorem lowN_zero {s : List UInt8} : lowN s 0 = s := by simp [lowN]
theorem lowN_all {s : List UInt8} : lowN s s.length = s.map lowB := by simp [lowN]
theorem lowB_up {b : UInt8} (h1 : 65 ≤ b.toNat) (h2 : b.toNat ≤ 90) : bV (lowB b) = .int .u8 (IntKind.u8.wrap (IntKind.u8.wrap ((b.toNat : Int) + 97) - 65)) := by
 have e : lowB b = b + 32 := if_pos ⟨h1, h2⟩
 rw [e, bV]
 congr 1
 simp only [IntKind.wrap, IntKind.bits, IntKind.signed, UInt8.toNat_add]
 simp
 omega
theorem lowB_no {b : UInt8} (h : ¬ (65 ≤ b.toNat ∧ b.toNat ≤ 90)) : lowB b = b := if_neg h
theorem lower_v (s : List UInt8) (st : St) (hs : s.length ≤ 140737488355328) : VRet Tryz.prog 162 [.str s] st (.str (s.map lowB)) st := by
 refine vc F162_ok rfl (fun hwf => ?_)
 have hml : (s.length ≤ maxLen) = True := eq_true (by unfold maxLen; omega)
 (repeat' first | ((first | refine go rfl rfl ?_ | (refine Fk.by_ ?_ ?_ <;> intro hc <;> try simp only [hc]) | refine storeK_eq rfl ?_ | with_reducible refine an ?_ ?_) <;> try simp only [hml, push_cast, ed, reduceCtorEq, ld]))
 refine WT_loop rfl (fun n e z => ∃ j : Nat, n = s.length - j ∧ j ≤ s.length ∧ e = [(10, .int .i64 (j : Int)), (9, .int .i64 (s.length : Int)), (8, .osl st.nx s.length), (3, .osl st.nx s.length)] ∧
   z = ⟨st.nx + 1, st.mem, (st.nx, ⟨5, 1, (lowN s j).map bV, true, true⟩) :: st.arr, st.x⟩) (st.nx + 1) (Nat.le_refl _) (by rintro _ _ _ ⟨j, _, _, _, rfl⟩; rfl)
  ⟨_, _, _, ⟨0, rfl, Nat.zero_le _, rfl, rfl⟩, ?_, ?_⟩ ?_
 ·simp only [Int.ofNat_zero]
  refine .cons rfl rfl (.cons rfl rfl (.cons ?_ rfl (.cons ?_ rfl .nil))) <;> simp [V.bd]
 ·rw [lowN_zero]; exact .refl (hwf.newA bdL_bV)
 rintro n e z ⟨j, rfl, hj, rfl, rfl⟩
 have hw : j < s.length → IntKind.i64.wrap ((j : Int) + 1) = (j : Int) + 1 := fun h => wrap64 (by omega) (by omega)
 rcases Nat.lt_or_ge j s.length with hlt | hge
 ·obtain ⟨b, hb⟩ : ∃ b, s[j]? = some b := ⟨_, List.getElem?_eq_getElem hlt⟩
  have h1 : decide ((j : Int) < (s.length : Int)) = true := by simp; omega
  have hg : (lowN s j)[j]? = some b := by rw [lowN_get hlt, hb]
  (repeat' first | ((first | refine go rfl rfl ?_ | (refine Fk.by_ ?_ ?_ <;> intro hc <;> try simp only [hc]) | refine storeK_eq rfl ?_ | with_reducible refine an ?_ ?_) <;> try simp only [h1, hg, hlt, hw hlt, lowN_length, push_cast, ed, reduceCtorEq, ld]))
  case refine_1.refine_1 hc1 =>
   have e : (List.map bV (lowN s j)).set j (.int .u8 (IntKind.u8.wrap (IntKind.u8.wrap ((b.toNat : Int) + 97) - 65))) = (lowN s (j + 1)).map bV := by
    rw [lowN_set hb, List.map_set, lowB_up (by have := of_decide_eq_true hc1; omega) (by have := of_decide_eq_true hc; omega)]
   rw [e]
   exact ⟨_, _, _, by omega, ⟨j + 1, rfl, by omega, rfl, rfl⟩, (by repeat first | exact .nil | refine .cons (by first | rfl | (simp [V.bd, V.bdL]; try first | omega | assumption)) (by first | rfl | simp only [push_cast, ed, reduceCtorEq, ld]) ?_), .refl (hwf.newA bdL_bV)⟩
  all_goals
   have e : (List.map bV (lowN s j)) = (lowN s (j + 1)).map bV := by
    rw [lowN_set hb, lowB_no (by have := of_decide_eq_false ‹_›; omega)]
    congr 1
    exact (set_self hg).symm
   rw [e]
   exact ⟨_, _, _, by omega, ⟨j + 1, rfl, by omega, rfl, rfl⟩, (by repeat first | exact .nil | refine .cons (by first | rfl | (simp [V.bd, V.bdL]; try first | omega | assumption)) (by first | rfl | simp only [push_cast, ed, reduceCtorEq, ld]) ?_), .refl (hwf.newA bdL_bV)⟩
 ·have h1 : decide ((j : Int) < (s.length : Int)) = false := by simp; omega
  have hj' : j = s.length := by omega
  subst hj'
  rw [lowN_all]
  (repeat' first | ((first | refine go rfl rfl ?_ | (refine Fk.by_ ?_ ?_ <;> intro hc <;> try simp only [hc]) | refine storeK_eq rfl ?_ | with_reducible refine an ?_ ?_) <;> try simp only [h1, push_cast, ed, reduceCtorEq, ld]))
  refine finC (hwf) (by simp only [F162, push_cast, ed, reduceCtorEq, ld]; exact rfl) (by first | exact .inl rfl | (right; simp only [F162, push_cast, ed, reduceCtorEq, ld]; try rfl)) (by first | rfl | assumption) (by simp [(hwf).z])
def letB (b : UInt8) : Bool := isLet b.toNat
def digB (b : UInt8) : Bool := isDig b.toNat
def wrdB (b : UInt8) : Bool := isWrd b.toNat
def plnB (b : UInt8) : Bool := isPln b.toNat
def sgnB (b : UInt8) : Bool := isSgn b.toNat
def isB (n : Int) (b : UInt8) : Bool := (b.toNat : Int) == n
theorem c42 (b : UInt8) (st : St) : VRet Tryz.prog 160 [.int .u8 b.toNat] st (.bool (letB b)) st := isLetter_v _ _
theorem c43 (b : UInt8) (st : St) : VRet Tryz.prog 161 [.int .u8 b.toNat] st (.bool (wrdB b)) st := isWord_v _ _
theorem c46 (b : UInt8) (st : St) : VRet Tryz.prog 165 [.int .u8 b.toNat] st (.bool (digB b)) st := isDigit_v _ _
theorem c27 (b : UInt8) (st : St) : VRet Tryz.prog 163 [.int .u8 b.toNat] st (.bool (plnB b)) st := isPlain_v _ _
theorem c48 (b : UInt8) (st : St) : VRet Tryz.prog 167 [.int .u8 b.toNat] st (.bool (sgnB b)) st := isSign_v _ _
theorem c39 (b : UInt8) (st : St) : VRet Tryz.prog 157 [.int .u8 b.toNat] st (.bool (isB 32 b)) st := blank_v _ _
theorem c45 (b : UInt8) (st : St) : VRet Tryz.prog 164 [.int .u8 b.toNat] st (.bool (isB 34 b)) st := quote_v _ _
theorem c47 (b : UInt8) (st : St) : VRet Tryz.prog 166 [.int .u8 b.toNat] st (.bool (isB 46 b)) st := dot_v _ _
theorem le_runTo {ok : UInt8 → Bool} {s : List UInt8} {i : Nat} : i ≤ runTo ok s i := Nat.le_add_right _ _
theorem atIs_lt {ok : UInt8 → Bool} {s : List UInt8} {i : Nat} (h : atIs ok s i = true) : i < s.length := by
 unfold atIs at h
 cases e : s[i]? with
 | none => rw [e] at h; cases h
 | some b => exact (List.getElem?_eq_some_iff.1 e).1
def lexAt (s : List UInt8) (a : Nat) : Option (Int × List UInt8 × Nat) :=
 if a = s.length then some (3, [], a)
 else if atIs letB s a then some (0, ((s.take (runTo wrdB s a)).drop a).map lowB, runTo wrdB s a)
 else if atIs (isB 34) s a then
  if atIs (isB 34) s (runTo plnB s (a + 1)) then some (0, (s.take (runTo plnB s (a + 1) + 1)).drop a, runTo plnB s (a + 1) + 1) else none
 else if atIs digB s a then
  if atIs (isB 46) s (runTo digB s a) && atIs digB s (runTo digB s a + 1) then some (1, (s.take (runTo digB s (runTo digB s a + 1))).drop a, runTo digB s (runTo digB s a + 1))
  else some (1, (s.take (runTo digB s a)).drop a, runTo digB s a)
 else if atIs sgnB s a then some (2, (s.take (a + 1)).drop a, a + 1)
 else none
def tokR (s : List UInt8) (i : Nat) : V × Nat := match lexAt s (runTo (isB 32) s i) with
 | some (k, t, e) => (.tup [tokV k t (runTo (isB 32) s i), .bool true], e)
 | none => (.tup [tokV 0 [] 0, .bool false], runTo (isB 32) s i)
theorem cells_tokV {k : Int} {t : List UInt8} {a : Nat} : (tokV k t a).cells = [.int .i64 k, .str t, .int .i64 (a : Int)] := @_root_.id (_ = _) rfl
theorem token_v {st : St} {id : Nat} {s : List UInt8} {i : Nat} (hm : Sha.look st.mem id = some [.str s, .int .i64 (i : Int)]) (hi : i ≤ s.length) (hs : s.length < 140737488355328) :
  VRet Tryz.prog 107 [.ptr id 0] st (tokR s i).1 (st.put id [.str s, .int .i64 (((tokR s i).2 : Nat) : Int)]) := by
 refine vc F107_ok rfl (fun hwf => ?_)
 have hid := (hwf.mem _ _ hm).1
 have e3 : ∀ n, (st.nx + n = id) = False := fun n => eq_false (by omega)
 have e4 : (st.nx = id) = False := eq_false (by omega)
 obtain ⟨R, hR⟩ : ∃ R, tokR s i = R := ⟨_, rfl⟩
 rw [hR]
 obtain ⟨a, ha⟩ : ∃ a, runTo (isB 32) s i = a := ⟨_, rfl⟩
 have hal : a ≤ s.length := by rw [← ha]; exact runTo_le hi
 have hN : lexAt s a = none → R = (.tup [tokV 0 [] 0, .bool false], a) := fun h => by rw [← hR, tokR, ha, h]
 have hS : ∀ k t e, lexAt s a = some (k, t, e) → R = (.tup [tokV k t a, .bool true], e) := fun k t e h => by rw [← hR, tokR, ha, h]
 unfold lexAt at hN hS
 obtain ⟨a1, ha1⟩ : ∃ a1, a + 1 = a1 := ⟨_, rfl⟩
 obtain ⟨b, hb⟩ : ∃ b, runTo wrdB s a = b := ⟨_, rfl⟩
 have hbl : b ≤ s.length := by rw [← hb]; exact runTo_le hal
 have hab : a ≤ b := by rw [← hb]; exact le_runTo
 obtain ⟨q, hq⟩ : ∃ q, runTo plnB s a1 = q := ⟨_, rfl⟩
 obtain ⟨q1, hq1⟩ : ∃ q1, q + 1 = q1 := ⟨_, rfl⟩
 have haq : a1 ≤ q := by rw [← hq]; exact le_runTo
 obtain ⟨d, hd⟩ : ∃ d, runTo digB s a = d := ⟨_, rfl⟩
 obtain ⟨d1, hd1⟩ : ∃ d1, d + 1 = d1 := ⟨_, rfl⟩
 have hdl : d ≤ s.length := by rw [← hd]; exact runTo_le hal
 have had : a ≤ d := by rw [← hd]; exact le_runTo
 obtain ⟨c, hdc⟩ : ∃ c, runTo digB s d1 = c := ⟨_, rfl⟩
 have hdc1 : d1 ≤ c := by rw [← hdc]; exact le_runTo
 rw [hb, ha1, hq, hq1, hd, hd1, hdc] at hN hS
 have hlk : ∀ n : Int, Sha.look (updM st.mem id [.str s, .int .i64 n]) id = some [.str s, .int .i64 n] := fun n => look_upd hm
 rcases Nat.lt_or_ge a s.length with hlt | hge
 ·obtain ⟨x, hx⟩ : ∃ x, s[a]? = some x := ⟨_, List.getElem?_eq_getElem hlt⟩
  rw [if_neg (by omega)] at hN hS
  have h0 : ((a : Int) == (s.length : Int)) = false := by simp; omega
  have hql : q ≤ s.length := by rw [← hq]; exact runTo_le (by omega)
  have hdc2 : d < s.length → c ≤ s.length := fun h => by rw [← hdc]; exact runTo_le (by omega)
  have hw1 : IntKind.i64.wrap ((a : Int) + 1) = (a1 : Int) := by rw [wrap64 (by omega) (by omega)]; omega
  have hw2 : IntKind.i64.wrap ((q : Int) + 1) = (q1 : Int) := by rw [wrap64 (by omega) (by omega)]; omega
  have hw3 : IntKind.i64.wrap ((d : Int) + 1) = (d1 : Int) := by rw [wrap64 (by omega) (by omega)]; omega
  have hll : ∀ x y, ((s.take x).drop y).length ≤ 140737488355328 := fun x y => by simp only [List.length_drop, List.length_take]; omega
  have hx2 : ((x.toNat : Int) == 34) = atIs (isB 34) s a := by simp [atIs, hx, isB]
  (repeat' first | ((first | refine go rfl rfl ?_ | refine Cl.by_ (by (first | apply skip_v c39 | apply is_v (n := 0) c42 | apply is_v (n := 0) c45 | apply is_v (n := 0) c46 | apply is_v (n := 0) c47 | apply is_v (n := 0) c48 | apply is_v (n := 1) c46 | apply skip_v c43 | apply skip_v c27 | apply skip_v c46 | apply made_v _ | refine lower_v _ _ (hll _ _)) <;> first | omega | (have h9 := atIs_lt hc; omega) | (simp only [cells_tokV, hm, ha, hb, hq, hd, hd1, hdc, e3, e4, hlk, h0, hx, hw1, hw2, hw3, hx2, push_cast, ed, reduceCtorEq, ld]; done) | (simp only [cells_tokV, hm, ha, hb, hq, hd, hd1, hdc, e3, e4, hlk, h0, hx, hw1, hw2, hw3, hx2, push_cast, ed, reduceCtorEq, ld]; exact rfl) | fail) ?_ | (refine Fk.by_ ?_ ?_ <;> intro hc <;> try simp only [hc]) | refine storeK_eq rfl ?_ | with_reducible refine an ?_ ?_) <;> try simp only [cells_tokV, hm, ha, hb, hq, hd, hd1, hdc, e3, e4, hlk, h0, hx, hw1, hw2, hw3, hx2, push_cast, ed, reduceCtorEq, ld]))
  all_goals
   simp [*, -List.map_take, -List.map_drop] at hS hN
   try rw [hS]
   try rw [hN]
   refine finB ((hwf.put rfl)) (by simp only [F107, cells_tokV, e3, e4, hlk, push_cast, ed, reduceCtorEq, ld]; exact rfl) (by first | exact .inl rfl | (right; simp only [F107, cells_tokV, e3, e4, hlk, push_cast, ed, reduceCtorEq, ld]; try rfl)) (by first | rfl | assumption) (by simp) (by simp) (by (repeat first | exact ((hwf.put rfl)).subm | exact ((hwf.put rfl)).suba | refine Sub.drop (by simp) ?_)) (by (repeat first | exact ((hwf.put rfl)).subm | exact ((hwf.put rfl)).suba | refine Sub.drop (by simp) ?_)) (by (repeat first | exact ((hwf.put rfl)).subx | refine ExSub.dropt (by simp) ?_ | refine ExSub.drop (by simp) ?_))
 ·have hae : a = s.length := by omega
  have h0 : ((a : Int) == (s.length : Int)) = true := by simp [hae]
  have hR2 : R = (.tup [tokV 3 [] a, .bool true], a) := hS _ _ _ (if_pos hae)
  rw [hR2]
  have hem : (s.take a).drop a = [] := List.drop_eq_nil_of_le (by simp; omega)
  (repeat' first | ((first | refine go rfl rfl ?_ | refine Cl.by_ (by (first | apply skip_v c39 | apply made_v _) <;> first | omega | (simp only [cells_tokV, hm, ha, e3, e4, hlk, h0, hem, push_cast, ed, reduceCtorEq, ld]; done) | (simp only [cells_tokV, hm, ha, e3, e4, hlk, h0, hem, push_cast, ed, reduceCtorEq, ld]; exact rfl) | fail) ?_ | (refine Fk.by_ ?_ ?_ <;> intro hc <;> try simp only [hc]) | refine storeK_eq rfl ?_ | with_reducible refine an ?_ ?_) <;> try simp only [cells_tokV, hm, ha, e3, e4, hlk, h0, hem, push_cast, ed, reduceCtorEq, ld]))
  refine finB ((hwf.put rfl)) (by simp only [F107, cells_tokV, e3, e4, hlk, push_cast, ed, reduceCtorEq, ld]; exact rfl) (by first | exact .inl rfl | (right; simp only [F107, cells_tokV, e3, e4, hlk, push_cast, ed, reduceCtorEq, ld]; try rfl)) (by first | rfl | assumption) (by simp) (by simp) (by (repeat first | exact ((hwf.put rfl)).subm | exact ((hwf.put rfl)).suba | refine Sub.drop (by simp) ?_)) (by (repeat first | exact ((hwf.put rfl)).subm | exact ((hwf.put rfl)).suba | refine Sub.drop (by simp) ?_)) (by (repeat first | exact ((hwf.put rfl)).subx | refine ExSub.dropt (by simp) ?_ | refine ExSub.drop (by simp) ?_))
theorem runTo_bd {ok : UInt8 → Bool} {s : List UInt8} {i : Nat} (h : i ≤ s.length) : i ≤ runTo ok s i ∧ runTo ok s i ≤ s.length := ⟨le_runTo, runTo_le h⟩
theorem runTo_lt {ok : UInt8 → Bool} {s : List UInt8} {i : Nat} (h : atIs ok s i = true) : i < runTo ok s i := by
 have := (runTo_go h).1
 have := le_runTo (ok := ok) (s := s) (i := i + 1)
 omega
theorem letB_wrdB {s : List UInt8} {i : Nat} (h : atIs letB s i = true) : atIs wrdB s i = true := by
 unfold atIs at h ⊢
 cases hb : s[i]? with
 | none => rw [hb] at h; exact h
 | some b =>
  rw [hb] at h
  simp only [letB, wrdB, isWrd] at h ⊢
  rw [h]; rfl
theorem lexAt_bd {s : List UInt8} {a : Nat} (ha : a ≤ s.length) {k : Int} {t : List UInt8} {e : Nat} (h : lexAt s a = some (k, t, e)) : a ≤ e ∧ e ≤ s.length ∧ (k ≠ 3 → a < e) := by
 unfold lexAt at h
 split at h
 ·cases h; exact ⟨Nat.le_refl _, ha, fun h => absurd rfl h⟩
 ·split at h
  ·rename_i h1 h2
   cases h
   have := runTo_bd (ok := wrdB) ha
   exact ⟨this.1, this.2, fun _ => runTo_lt (letB_wrdB h2)⟩
  ·split at h
   ·rename_i h1 h2 h3
    have hl := atIs_lt h3
    have := runTo_bd (ok := plnB) (s := s) (i := a + 1) (by omega)
    split at h
    ·rename_i h4
     have := atIs_lt h4
     cases h
     exact ⟨by omega, by omega, fun _ => by omega⟩
    ·cases h
   ·split at h
    ·rename_i h1 h2 h3 h4
     have := runTo_bd (ok := digB) ha
     have := runTo_lt h4
     split at h
     ·rename_i h5
      simp only [Bool.and_eq_true] at h5
      have h6 := atIs_lt h5.2
      have := runTo_bd (ok := digB) (s := s) (i := runTo digB s a + 1) (by omega)
      cases h
      exact ⟨by omega, by omega, fun _ => by omega⟩
     ·cases h
      exact ⟨by omega, by omega, fun _ => by omega⟩
    ·split at h
     ·rename_i h5
      have := atIs_lt h5
      cases h
      exact ⟨by omega, by omega, fun _ => by omega⟩
     ·cases h
def scanG : Nat → List UInt8 → Nat → List Tok → List Tok × Nat × Int
 | 0, _, _, _ => ([], 0, 4)
 | f + 1, s, i, acc => match lexAt s (runTo (isB 32) s i) with
  | none => ([], runTo (isB 32) s i, 4)
  | some (k, t, e) => if acc.length = 256 then ([], runTo (isB 32) s i, 5)
   else if k = 3 then (acc ++ [⟨k, t, (runTo (isB 32) s i : Nat)⟩], 0, 0)
   else scanG f s e (acc ++ [⟨k, t, (runTo (isB 32) s i : Nat)⟩])
def scanR (s : List UInt8) : List Tok × Nat × Int := if 4096 < s.length then ([], 0, 13) else scanG (s.length + 1) s 0 []
def scanV (r : List Tok × Nat × Int) : V := .tup [.sl (r.1.map tkV), .int .i64 (r.2.1 : Int), .int .i64 r.2.2]
theorem scan_v (s : List UInt8) (st : St) : VRet Tryz.prog 60 [.str s] st (scanV (scanR s)) st := by
 refine vc F60_ok rfl (fun hwf => ?_)
 by_cases hl : 4096 < s.length
 ·have hR : scanR s = ([], 0, 13) := if_pos hl
  have h0 : decide ((4096 : Int) < (s.length : Int)) = true := by simp; omega
  rw [hR]
  (repeat' first | ((first | refine go rfl rfl ?_ | (refine Fk.by_ ?_ ?_ <;> intro hc <;> try simp only [hc]) | refine storeK_eq rfl ?_ | with_reducible refine an ?_ ?_) <;> try simp only [h0, push_cast, ed, reduceCtorEq, ld]))
  refine finC (hwf) (by simp only [F60, scanV, push_cast, ed, reduceCtorEq, ld]; exact rfl) (by first | exact .inl rfl | (right; simp only [F60, scanV, push_cast, ed, reduceCtorEq, ld]; try rfl)) (by first | rfl | assumption) (by simp [(hwf).z])
 ·have hR : scanR s = scanG (s.length + 1) s 0 [] := if_neg hl
  have hs : s.length < 140737488355328 := by omega
  have h0 : decide ((4096 : Int) < (s.length : Int)) = false := by simp; omega
  obtain ⟨R, hRR⟩ : ∃ R, scanR s = R := ⟨_, rfl⟩
  rw [hRR]
  rw [hRR] at hR
  (repeat' first | ((first | refine go rfl rfl ?_ | (refine Fk.by_ ?_ ?_ <;> intro hc <;> try simp only [hc]) | refine storeK_eq rfl ?_ | with_reducible refine an ?_ ?_) <;> try simp only [h0, push_cast, ed, reduceCtorEq, ld]))
  refine WT_own 111 3 (t := 6) rfl ?_
  refine WT_loop rfl (fun n e z => ∃ f i acc, n = s.length - i ∧ i ≤ s.length ∧ s.length - i < f ∧ acc.length ≤ 256 ∧ R = scanG f s i acc ∧ e = [(5, .ptr st.nx 0), (6, .osl (st.nx + 1) acc.length)] ∧
   z = ⟨st.nx + 2, (st.nx, [.str s, .int .i64 (i : Int)]) :: st.mem, (st.nx + 1, ⟨111, 3, acc.map tkV, false, false⟩) :: st.arr, st.x⟩) (st.nx + 2) (Nat.le_refl _) (by rintro _ _ _ ⟨_, _, _, _, _, _, _, _, _, rfl⟩; rfl)
   ⟨_, _, _, ⟨s.length + 1, 0, [], rfl, Nat.zero_le _, by omega, by simp, hR, rfl, rfl⟩, (by repeat first | exact .nil | refine .cons (by first | rfl | (simp [V.bd, V.bdL]; try first | omega | assumption)) (by first | rfl | simp only [push_cast, ed, reduceCtorEq, ld]) ?_), .refl ((hwf.new rfl).newA rfl)⟩ ?_
  rintro n e z ⟨f, i, acc, rfl, hi, hf, hac, hR, rfl, rfl⟩
  cases f with
  | zero => omega
  | succ f =>
  rw [scanG] at hR
  obtain ⟨a, ha⟩ : ∃ a, runTo (isB 32) s i = a := ⟨_, rfl⟩
  have hal : a ≤ s.length := by rw [← ha]; exact runTo_le hi
  rw [ha] at hR
  have hm : Sha.look ((st.nx, [V.str s, .int .i64 (i : Int)]) :: st.mem) st.nx = some [.str s, .int .i64 (i : Int)] := by simp [Sha.look]
  cases h : lexAt s a with
  | none =>
   have ht : tokR s i = (.tup [tokV 0 [] 0, .bool false], a) := by rw [tokR, ha, h]
   rw [h] at hR
   subst hR
   (repeat' first | ((first | refine go rfl rfl ?_ | refine Cl.by_ (by (first | refine token_v (i := i) hm hi hs)) ?_ | (refine Fk.by_ ?_ ?_ <;> intro hc <;> try simp only [hc]) | refine storeK_eq rfl ?_ | with_reducible refine an ?_ ?_) <;> try simp only [ht, cells_tokV, push_cast, ed, reduceCtorEq, ld]))
   refine finC (hwf) (by simp only [F60, scanV, push_cast, ed, reduceCtorEq, ld]; exact rfl) (by first | exact .inl rfl | (right; simp only [F60, scanV, push_cast, ed, reduceCtorEq, ld]; try rfl)) (by first | rfl | assumption) (by simp [(hwf).z])
  | some r =>
   obtain ⟨k, t, e⟩ := r
   have ht : tokR s i = (.tup [tokV k t a, .bool true], e) := by rw [tokR, ha, h]
   simp only [h] at hR
   by_cases hn : acc.length = 256
   ·rw [if_pos hn] at hR
    subst hR
    have h1 : ((acc.length : Int) == 256) = true := by simp; omega
    (repeat' first | ((first | refine go rfl rfl ?_ | refine Cl.by_ (by (first | refine token_v (i := i) hm hi hs)) ?_ | (refine Fk.by_ ?_ ?_ <;> intro hc <;> try simp only [hc]) | refine storeK_eq rfl ?_ | with_reducible refine an ?_ ?_) <;> try simp only [ht, cells_tokV, h1, push_cast, ed, reduceCtorEq, ld]))
    refine finC (hwf) (by simp only [F60, scanV, push_cast, ed, reduceCtorEq, ld]; exact rfl) (by first | exact .inl rfl | (right; simp only [F60, scanV, push_cast, ed, reduceCtorEq, ld]; try rfl)) (by first | rfl | assumption) (by simp [(hwf).z])
   ·rw [if_neg hn] at hR
    have h1 : ((acc.length : Int) == 256) = false := by simp; omega
    by_cases hk : k = 3
    ·rw [if_pos hk] at hR
     subst hR
     have h2 : (k == 3) = true := by simp [hk]
     have hrm : roomV (acc.length + 1) 32 = true := by simp [roomV, maxLen]; omega
     have hbr : V.bd st.nx (scanV (acc ++ [⟨k, t, (a : Int)⟩], 0, 0)) = true := by
      simp only [scanV, V.bd, V.bdL, bdL_tk]; rfl
     (repeat' first | ((first | refine go rfl rfl ?_ | refine Cl.by_ (by (first | refine token_v (i := i) hm hi hs)) ?_ | (refine Fk.by_ ?_ ?_ <;> intro hc <;> try simp only [hc]) | refine storeK_eq rfl ?_ | with_reducible refine an ?_ ?_) <;> try simp only [ht, cells_tokV, app_tk, h1, h2, hrm, push_cast, ed, reduceCtorEq, ld]))
     refine finC (hwf) (by simp only [F60, scanV, push_cast, ed, reduceCtorEq, ld]; exact rfl) (by first | exact .inl rfl | (right; simp only [F60, scanV, push_cast, ed, reduceCtorEq, ld]; try rfl)) (by first | rfl | assumption) (by simp [(hwf).z])
    ·rw [if_neg hk] at hR
     have h2 : (k == 3) = false := by simp [hk]
     have hrm : roomV (acc.length + 1) 32 = true := by simp [roomV, maxLen]; omega
     (repeat' first | ((first | refine go rfl rfl ?_ | refine Cl.by_ (by (first | refine token_v (i := i) hm hi hs)) ?_ | (refine Fk.by_ ?_ ?_ <;> intro hc <;> try simp only [hc]) | refine storeK_eq rfl ?_ | with_reducible refine an ?_ ?_) <;> try simp only [ht, cells_tokV, app_tk, h1, h2, hrm, push_cast, ed, reduceCtorEq, ld]))
     obtain ⟨g1, g2, g3⟩ := lexAt_bd hal h
     have := g3 hk
     have := le_runTo (ok := isB 32) (s := s) (i := i)
     refine ⟨_, _, _, by omega, ⟨f, e, acc ++ [⟨k, t, (a : Int)⟩], rfl, by omega, by omega, by simp; omega, hR, rfl, rfl⟩, (by repeat first | exact .nil | refine .cons (by first | rfl | (simp [V.bd, V.bdL]; try first | omega | assumption)) (by first | rfl | simp only [push_cast, ed, reduceCtorEq, ld]) ?_), Weak.wf rfl (by simp) (by (repeat first | exact ((hwf.new rfl).newA (bdL_tk)).subm | exact ((hwf.new rfl).newA (bdL_tk)).suba | refine Sub.drop (by simp) ?_)) (by (repeat first | exact ((hwf.new rfl).newA (bdL_tk)).subm | exact ((hwf.new rfl).newA (bdL_tk)).suba | refine Sub.drop (by simp) ?_)) (by (repeat first | exact ((hwf.new rfl).newA (bdL_tk)).subx | refine ExSub.dropt (by simp) ?_ | refine ExSub.drop (by simp) ?_)) ((hwf.new rfl).newA (bdL_tk))⟩
theorem atIs_some {ok : UInt8 → Bool} {s : List UInt8} {i : Nat} {b : UInt8} (h : s[i]? = some b) : atIs ok s i = ok b := by simp [atIs, h]
theorem atIs_none {ok : UInt8 → Bool} {s : List UInt8} {i : Nat} (h : s.length ≤ i) : atIs ok s i = false := by simp [atIs, List.getElem?_eq_none h]
theorem word_v {s : List UInt8} {i : Nat} (st : St) (hi : i ≤ s.length) (hs : s.length < 140737488355328) : VRet Tryz.prog 177 [.str s, .int .i64 (i : Int)] st (.int .i64 (runTo wrdB s i : Nat)) st := by
 refine vc F177_ok rfl (fun hwf => ?_)
 (repeat' first | ((first | refine go rfl rfl ?_ | (refine Fk.by_ ?_ ?_ <;> intro hc <;> try simp only [hc]) | refine storeK_eq rfl ?_ | with_reducible refine an ?_ ?_) <;> try simp only [push_cast, ed, reduceCtorEq, ld]))
 refine WT_loop rfl (fun n e z => ∃ j : Nat, n = s.length - j ∧ j ≤ s.length ∧ runTo wrdB s j = runTo wrdB s i ∧ e = [(1, .int .i64 (j : Int)), (0, .str s)] ∧ z = st) st.nx (Nat.le_refl _) (by rintro _ _ _ ⟨j, _, _, _, _, rfl⟩; rfl)
  ⟨_, _, _, ⟨i, rfl, hi, rfl, rfl, rfl⟩, (by repeat first | exact .nil | refine .cons (by first | rfl | (simp [V.bd, V.bdL]; try first | omega | assumption)) (by first | rfl | simp only [push_cast, ed, reduceCtorEq, ld]) ?_), .refl hwf⟩ ?_
 rintro n e z ⟨j, rfl, hj, hr, rfl, rfl⟩
 rcases Nat.lt_or_ge j s.length with hlt | hge
 ·obtain ⟨b, hb⟩ : ∃ b, s[j]? = some b := ⟨_, List.getElem?_eq_getElem hlt⟩
  have h1 : decide ((j : Int) < (s.length : Int)) = true := by simp; omega
  have hw : IntKind.i64.wrap ((j : Int) + 1) = (j : Int) + 1 := wrap64 (by omega) (by omega)
  have h5 : ∀ x, isWrd b.toNat = x → atIs wrdB s j = x := fun x h => by rw [atIs_some hb]; exact h
  (repeat' first | ((first | refine go rfl rfl ?_ | refine Cl.by_ (by (first | refine letter_v _ _ | refine digit_v _ _)) ?_ | (refine Fk.by_ ?_ ?_ <;> intro hc <;> try simp only [hc]) | refine storeK_eq rfl ?_ | with_reducible refine an ?_ ?_) <;> try simp only [h1, hb, hw, push_cast, ed, reduceCtorEq, ld]))
  all_goals first
   | exact ⟨_, _, _, by omega, ⟨j + 1, rfl, by omega, by rw [(runTo_go (h5 true (by simp [isWrd, *]))).1, hr], rfl, rfl⟩, (by repeat first | exact .nil | refine .cons (by first | rfl | (simp [V.bd, V.bdL]; try first | omega | assumption)) (by first | rfl | simp only [push_cast, ed, reduceCtorEq, ld]) ?_), .refl hwf⟩
   | (rw [← hr, runTo_stop (h5 false (by simp [isWrd, *]))]; refine finC (hwf) (by simp only [F177, push_cast, ed, reduceCtorEq, ld]; exact rfl) (by first | exact .inl rfl | (right; simp only [F177, push_cast, ed, reduceCtorEq, ld]; try rfl)) (by first | rfl | assumption) (by simp [(hwf).z]))
 ·have h1 : decide ((j : Int) < (s.length : Int)) = false := by simp; omega
  (repeat' first | ((first | refine go rfl rfl ?_ | (refine Fk.by_ ?_ ?_ <;> intro hc <;> try simp only [hc]) | refine storeK_eq rfl ?_ | with_reducible refine an ?_ ?_) <;> try simp only [h1, push_cast, ed, reduceCtorEq, ld]))
  rw [← hr, runTo_stop (atIs_none hge)]
  refine finC (hwf) (by simp only [F177, push_cast, ed, reduceCtorEq, ld]; exact rfl) (by first | exact .inl rfl | (right; simp only [F177, push_cast, ed, reduceCtorEq, ld]; try rfl)) (by first | rfl | assumption) (by simp [(hwf).z])
def numEnd (s : List UInt8) (i : Nat) : Nat := if atIs (isB 46) s (runTo digB s i) && atIs digB s (runTo digB s i + 1) then runTo digB s (runTo digB s i + 1) else runTo digB s i
theorem number_v {s : List UInt8} {i : Nat} (st : St) (hi : i ≤ s.length) (hs : s.length < 140737488355328) : VRet Tryz.prog 181 [.str s, .int .i64 (i : Int)] st (.int .i64 (numEnd s i : Nat)) st := by
 refine vc F181_ok rfl (fun hwf => ?_)
 unfold numEnd
 obtain ⟨d, hd⟩ : ∃ d, runTo digB s i = d := ⟨_, rfl⟩
 have hdl : d ≤ s.length := by rw [← hd]; exact runTo_le hi
 obtain ⟨c, hdc⟩ : ∃ c, runTo digB s (d + 1) = c := ⟨_, rfl⟩
 rw [hd, hdc]
 have key : ∀ j : Nat, j = d → WT Tryz.prog F181.N F181.T 14 [(1, .int .i64 (j : Int)), (0, .str s)] st (seqT Tryz.prog F181.N F181.T 30 (finQ F181.res st.nx fun x z => x = .ret (.int .i64 ((if (atIs (isB 46) s d && atIs digB s (d + 1)) = true then c else d : Nat) : Int)) ∧ z = st)) := by
  intro j ej
  rw [ej]
  clear ej
  have hw : IntKind.i64.wrap ((d : Int) + 1) = (d : Int) + 1 := wrap64 (by omega) (by omega)
  rcases Nat.lt_or_ge (d + 1) s.length with hlt | hge
  ·obtain ⟨b, hb⟩ : ∃ b, s[d]? = some b := ⟨_, List.getElem?_eq_getElem (by omega)⟩
   obtain ⟨b2, hb2⟩ : ∃ b, s[d + 1]? = some b := ⟨_, List.getElem?_eq_getElem (by omega)⟩
   have h1 : decide ((d : Int) + 1 < (s.length : Int)) = true := by simp; omega
   rw [atIs_some hb, atIs_some hb2]
   (repeat' first | ((first | refine go rfl rfl ?_ | refine Cl.by_ (by (first | refine digit_v _ _)) ?_ | (refine Fk.by_ ?_ ?_ <;> intro hc <;> try simp only [hc]) | refine storeK_eq rfl ?_ | with_reducible refine an ?_ ?_) <;> try simp only [h1, hb, hb2, hw, push_cast, ed, reduceCtorEq, ld]))
   ·have hc2 : ((isB 46 b && digB b2) = true) = True := by simp [isB, digB, *]
    simp only [hc2, if_true]
    refine WT_loop rfl (fun n e z => ∃ j : Nat, n = s.length - j ∧ j ≤ s.length ∧ runTo digB s j = c ∧ e = [(1, .int .i64 (j : Int)), (0, .str s)] ∧ z = st) st.nx (Nat.le_refl _) (by rintro _ _ _ ⟨j, _, _, _, _, rfl⟩; rfl)
     ⟨_, _, _, ⟨d + 1, rfl, by omega, hdc, rfl, rfl⟩, (by repeat first | exact .nil | refine .cons (by first | rfl | (simp [V.bd, V.bdL]; try first | omega | assumption)) (by first | rfl | simp only [push_cast, ed, reduceCtorEq, ld]) ?_), .refl hwf⟩ ?_
    rintro n e z ⟨j, rfl, hj, hr, rfl, rfl⟩
    rcases Nat.lt_or_ge j s.length with hlt | hge
    ·obtain ⟨b, hb⟩ : ∃ b, s[j]? = some b := ⟨_, List.getElem?_eq_getElem hlt⟩
     have h1 : decide ((j : Int) < (s.length : Int)) = true := by simp; omega
     have hw : IntKind.i64.wrap ((j : Int) + 1) = (j : Int) + 1 := wrap64 (by omega) (by omega)
     have h5 : ∀ x, isDig b.toNat = x → atIs digB s j = x := fun x h => by rw [atIs_some hb]; exact h
     (repeat' first | ((first | refine go rfl rfl ?_ | refine Cl.by_ (by (first | refine digit_v _ _)) ?_ | (refine Fk.by_ ?_ ?_ <;> intro hc <;> try simp only [hc]) | refine storeK_eq rfl ?_ | with_reducible refine an ?_ ?_) <;> try simp only [h1, hb, hw, push_cast, ed, reduceCtorEq, ld]))
     ·exact ⟨_, _, _, by omega, ⟨j + 1, rfl, by omega, by rw [(runTo_go (h5 true hc)).1, hr], rfl, rfl⟩, (by repeat first | exact .nil | refine .cons (by first | rfl | (simp [V.bd, V.bdL]; try first | omega | assumption)) (by first | rfl | simp only [push_cast, ed, reduceCtorEq, ld]) ?_), .refl hwf⟩
     ·rw [← hr, runTo_stop (h5 false hc)]
      refine finC (hwf) (by simp only [F181, push_cast, ed, reduceCtorEq, ld]; exact rfl) (by first | exact .inl rfl | (right; simp only [F181, push_cast, ed, reduceCtorEq, ld]; try rfl)) (by first | rfl | assumption) (by simp [(hwf).z])
    ·have h1 : decide ((j : Int) < (s.length : Int)) = false := by simp; omega
     (repeat' first | ((first | refine go rfl rfl ?_ | (refine Fk.by_ ?_ ?_ <;> intro hc <;> try simp only [hc]) | refine storeK_eq rfl ?_ | with_reducible refine an ?_ ?_) <;> try simp only [h1, push_cast, ed, reduceCtorEq, ld]))
     rw [← hr, runTo_stop (atIs_none hge)]
     refine finC (hwf) (by simp only [F181, push_cast, ed, reduceCtorEq, ld]; exact rfl) (by first | exact .inl rfl | (right; simp only [F181, push_cast, ed, reduceCtorEq, ld]; try rfl)) (by first | rfl | assumption) (by simp [(hwf).z])
   all_goals
    have hc2 : ((isB 46 b && digB b2) = true) = False := by simp [isB, digB, *]
    simp only [hc2, if_false]
    refine finC (hwf) (by simp only [F181, push_cast, ed, reduceCtorEq, ld]; exact rfl) (by first | exact .inl rfl | (right; simp only [F181, push_cast, ed, reduceCtorEq, ld]; try rfl)) (by first | rfl | assumption) (by simp [(hwf).z])
  ·have h1 : decide ((d : Int) + 1 < (s.length : Int)) = false := by simp; omega
   rw [atIs_none (i := d + 1) (by omega)]
   simp only [Bool.and_false, bf, if_false]
   (repeat' first | ((first | refine go rfl rfl ?_ | (refine Fk.by_ ?_ ?_ <;> intro hc <;> try simp only [hc]) | refine storeK_eq rfl ?_ | with_reducible refine an ?_ ?_) <;> try simp only [h1, hw, push_cast, ed, reduceCtorEq, ld]))
   refine finC (hwf) (by simp only [F181, push_cast, ed, reduceCtorEq, ld]; exact rfl) (by first | exact .inl rfl | (right; simp only [F181, push_cast, ed, reduceCtorEq, ld]; try rfl)) (by first | rfl | assumption) (by simp [(hwf).z])
 (repeat' first | ((first | refine go rfl rfl ?_ | (refine Fk.by_ ?_ ?_ <;> intro hc <;> try simp only [hc]) | refine storeK_eq rfl ?_ | with_reducible refine an ?_ ?_) <;> try simp only [push_cast, ed, reduceCtorEq, ld]))
 refine WT_loop rfl (fun n e z => ∃ j : Nat, n = s.length - j ∧ j ≤ s.length ∧ runTo digB s j = d ∧ e = [(1, .int .i64 (j : Int)), (0, .str s)] ∧ z = st) st.nx (Nat.le_refl _) (by rintro _ _ _ ⟨j, _, _, _, _, rfl⟩; rfl)
  ⟨_, _, _, ⟨i, rfl, hi, hd, rfl, rfl⟩, (by repeat first | exact .nil | refine .cons (by first | rfl | (simp [V.bd, V.bdL]; try first | omega | assumption)) (by first | rfl | simp only [push_cast, ed, reduceCtorEq, ld]) ?_), .refl hwf⟩ ?_
 rintro n e z ⟨j, rfl, hj, hr, rfl, rfl⟩
 rcases Nat.lt_or_ge j s.length with hlt | hge
 ·obtain ⟨b, hb⟩ : ∃ b, s[j]? = some b := ⟨_, List.getElem?_eq_getElem hlt⟩
  have h1 : decide ((j : Int) < (s.length : Int)) = true := by simp; omega
  have hw : IntKind.i64.wrap ((j : Int) + 1) = (j : Int) + 1 := wrap64 (by omega) (by omega)
  have h5 : ∀ x, isDig b.toNat = x → atIs digB s j = x := fun x h => by rw [atIs_some hb]; exact h
  (repeat' first | exact WT_env (by repeat first | exact .nil | refine .cons (by first | rfl | simp only [push_cast, ed, reduceCtorEq, ld]) ?_) (key j (by rw [← hr, runTo_stop (h5 false hc)])) | ((first | refine go rfl rfl ?_ | refine Cl.by_ (by (first | refine digit_v _ _)) ?_ | (refine Fk.by_ ?_ ?_ <;> intro hc <;> try simp only [hc]) | refine storeK_eq rfl ?_ | with_reducible refine an ?_ ?_) <;> try simp only [h1, hb, hw, push_cast, ed, reduceCtorEq, ld]))
  exact ⟨_, _, _, by omega, ⟨j + 1, rfl, by omega, by rw [(runTo_go (h5 true hc)).1, hr], rfl, rfl⟩, (by repeat first | exact .nil | refine .cons (by first | rfl | (simp [V.bd, V.bdL]; try first | omega | assumption)) (by first | rfl | simp only [push_cast, ed, reduceCtorEq, ld]) ?_), .refl hwf⟩
 ·have h1 : decide ((j : Int) < (s.length : Int)) = false := by simp; omega
  (repeat' first | exact WT_env (by repeat first | exact .nil | refine .cons (by first | rfl | simp only [push_cast, ed, reduceCtorEq, ld]) ?_) (key j (by rw [← hr, runTo_stop (atIs_none hge)])) | ((first | refine go rfl rfl ?_ | (refine Fk.by_ ?_ ?_ <;> intro hc <;> try simp only [hc]) | refine storeK_eq rfl ?_ | with_reducible refine an ?_ ?_) <;> try simp only [h1, push_cast, ed, reduceCtorEq, ld]))
def quoEnd (s : List UInt8) (i : Nat) : Int := if atIs (isB 34) s (runTo plnB s (i + 1)) then (runTo plnB s (i + 1) : Nat) + 1 else -1
theorem quoted_v {s : List UInt8} {i : Nat} (st : St) (hi : i < s.length) (hs : s.length < 140737488355328) : VRet Tryz.prog 179 [.str s, .int .i64 (i : Int)] st (.int .i64 (quoEnd s i)) st := by
 refine vc F179_ok rfl (fun hwf => ?_)
 unfold quoEnd
 have hw0 : IntKind.i64.wrap ((i : Int) + 1) = (i : Int) + 1 := wrap64 (by omega) (by omega)
 obtain ⟨d, hd⟩ : ∃ d, runTo plnB s (i + 1) = d := ⟨_, rfl⟩
 have hdl : d ≤ s.length := by rw [← hd]; exact runTo_le hi
 rw [hd]
 have key : ∀ j : Nat, j = d → WT Tryz.prog F179.N F179.T 15 [(5, .int .i64 (j : Int)), (0, .str s)] st (finQ F179.res st.nx fun x z => x = .ret (.int .i64 (if atIs (isB 34) s d = true then (d : Int) + 1 else -1)) ∧ z = st) := by
  intro j ej
  rw [ej]
  clear ej
  have hw : IntKind.i64.wrap ((d : Int) + 1) = (d : Int) + 1 := wrap64 (by omega) (by omega)
  rcases Nat.lt_or_ge d s.length with hlt | hge
  ·obtain ⟨b, hb⟩ : ∃ b, s[d]? = some b := ⟨_, List.getElem?_eq_getElem (by omega)⟩
   have h1 : ((d : Int) == (s.length : Int)) = false := by simp; omega
   rw [atIs_some hb]
   have h2 : ((b.toNat : Int) != 34) = !(isB 34 b) := by simp [isB, bne]
   (repeat' first | ((first | refine go rfl rfl ?_ | (refine Fk.by_ ?_ ?_ <;> intro hc <;> try simp only [hc]) | refine storeK_eq rfl ?_ | with_reducible refine an ?_ ?_) <;> try simp only [h1, hb, hw, h2, push_cast, ed, reduceCtorEq, ld]))
   all_goals refine finC (hwf) (by simp only [F179, push_cast, ed, reduceCtorEq, ld]; exact rfl) (by first | exact .inl rfl | (right; simp only [F179, push_cast, ed, reduceCtorEq, ld]; try rfl)) (by first | rfl | assumption) (by simp [(hwf).z])
  ·have h1 : ((d : Int) == (s.length : Int)) = true := by simp; omega
   rw [atIs_none hge, if_neg Bool.false_ne_true]
   (repeat' first | ((first | refine go rfl rfl ?_ | (refine Fk.by_ ?_ ?_ <;> intro hc <;> try simp only [hc]) | refine storeK_eq rfl ?_ | with_reducible refine an ?_ ?_) <;> try simp only [h1, push_cast, ed, reduceCtorEq, ld]))
   refine finC (hwf) (by simp only [F179, push_cast, ed, reduceCtorEq, ld]; exact rfl) (by first | exact .inl rfl | (right; simp only [F179, push_cast, ed, reduceCtorEq, ld]; try rfl)) (by first | rfl | assumption) (by simp [(hwf).z])
 (repeat' first | ((first | refine go rfl rfl ?_ | (refine Fk.by_ ?_ ?_ <;> intro hc <;> try simp only [hc]) | refine storeK_eq rfl ?_ | with_reducible refine an ?_ ?_) <;> try simp only [hw0, push_cast, ed, reduceCtorEq, ld]))
 refine WT_loop rfl (fun n e z => ∃ j : Nat, n = s.length - j ∧ j ≤ s.length ∧ runTo plnB s j = d ∧ e = [(5, .int .i64 (j : Int)), (0, .str s)] ∧ z = st) st.nx (Nat.le_refl _) (by rintro _ _ _ ⟨j, _, _, _, _, rfl⟩; rfl)
  ⟨_, _, _, ⟨i + 1, rfl, hi, hd, rfl, rfl⟩, (by repeat first | exact .nil | refine .cons (by first | rfl | (simp [V.bd, V.bdL]; try first | omega | assumption)) (by first | rfl | simp only [push_cast, ed, reduceCtorEq, ld]) ?_), .refl hwf⟩ ?_
 rintro n e z ⟨j, rfl, hj, hr, rfl, rfl⟩
 rcases Nat.lt_or_ge j s.length with hlt | hge
 ·obtain ⟨b, hb⟩ : ∃ b, s[j]? = some b := ⟨_, List.getElem?_eq_getElem hlt⟩
  have h1 : decide ((j : Int) < (s.length : Int)) = true := by simp; omega
  have hw : IntKind.i64.wrap ((j : Int) + 1) = (j : Int) + 1 := wrap64 (by omega) (by omega)
  have h5 : ∀ x, isPln b.toNat = x → atIs plnB s j = x := fun x h => by rw [atIs_some hb]; exact h
  (repeat' first | exact WT_env (by repeat first | exact .nil | refine .cons (by first | rfl | simp only [push_cast, ed, reduceCtorEq, ld]) ?_) (key j (by rw [← hr, runTo_stop (h5 false hc)])) | ((first | refine go rfl rfl ?_ | refine Cl.by_ (by (first | refine plain_v _ _)) ?_ | (refine Fk.by_ ?_ ?_ <;> intro hc <;> try simp only [hc]) | refine storeK_eq rfl ?_ | with_reducible refine an ?_ ?_) <;> try simp only [h1, hb, hw, push_cast, ed, reduceCtorEq, ld]))
  exact ⟨_, _, _, by omega, ⟨j + 1, rfl, by omega, by rw [(runTo_go (h5 true hc)).1, hr], rfl, rfl⟩, (by repeat first | exact .nil | refine .cons (by first | rfl | (simp [V.bd, V.bdL]; try first | omega | assumption)) (by first | rfl | simp only [push_cast, ed, reduceCtorEq, ld]) ?_), .refl hwf⟩
 ·have h1 : decide ((j : Int) < (s.length : Int)) = false := by simp; omega
  (repeat' first | exact WT_env (by repeat first | exact .nil | refine .cons (by first | rfl | simp only [push_cast, ed, reduceCtorEq, ld]) ?_) (key j (by rw [← hr, runTo_stop (atIs_none hge)])) | ((first | refine go rfl rfl ?_ | (refine Fk.by_ ?_ ?_ <;> intro hc <;> try simp only [hc]) | refine storeK_eq rfl ?_ | with_reducible refine an ?_ ?_) <;> try simp only [h1, push_cast, ed, reduceCtorEq, ld]))
theorem enc_ascii {b : UInt8} (h : b.toNat < 128) : (Utf8.encode (b.toNat : Int)).data.toList = [b] := by
 have hv : Utf8.valid (b.toNat : Int) = true := by simp [Utf8.valid]; omega
 have e : ((b.toNat : Int)).toNat = b.toNat := by simp
 simp only [Utf8.encode, hv, if_true, e, h]
 simp
theorem lowB_up2 {b : UInt8} (h1 : 65 ≤ b.toNat) (h2 : b.toNat ≤ 90) : IntKind.u8.wrap (IntKind.u8.wrap ((b.toNat : Int) - 65) + 97) = ((lowB b).toNat : Int) := by
 have e : lowB b = b + 32 := if_pos ⟨h1, h2⟩
 rw [e]
 simp only [IntKind.wrap, IntKind.bits, IntKind.signed, UInt8.toNat_add]
 simp
 omega
theorem lowB_lt {b : UInt8} (h : b.toNat < 128) : (lowB b).toNat < 128 := by
 unfold lowB
 split
 ·rw [UInt8.toNat_add]; simp; omega
 ·exact h
theorem wrap32_byte (b : UInt8) : IntKind.i32.wrap (b.toNat : Int) = (b.toNat : Int) := by
 have := b.toNat_lt
 simp only [IntKind.wrap, IntKind.bits, IntKind.signed]
 simp
 omega
theorem Lower_v {s : List UInt8} (st : St) (ha : ∀ b ∈ s, b.toNat < 128) (hs : s.length < 140737488355328) : VRet Tryz.prog 178 [.str s] st (.str (s.map lowB)) st := by
 refine vc F178_ok rfl (fun hwf => ?_)
 (repeat' first | ((first | refine go rfl rfl ?_ | (refine Fk.by_ ?_ ?_ <;> intro hc <;> try simp only [hc]) | refine storeK_eq rfl ?_ | with_reducible refine an ?_ ?_) <;> try simp only [push_cast, ed, reduceCtorEq, ld]))
 refine WT_loop rfl (fun n e z => ∃ j : Nat, n = s.length - j ∧ j ≤ s.length ∧ e = [(4, .int .i64 (j : Int)), (3, .str ((s.take j).map lowB)), (0, .str s)] ∧ z = st) st.nx (Nat.le_refl _) (by rintro _ _ _ ⟨j, _, _, _, rfl⟩; rfl)
  ⟨_, _, _, ⟨0, rfl, Nat.zero_le _, rfl, rfl⟩, (by repeat first | exact .nil | refine .cons (by first | rfl | (simp [V.bd, V.bdL]; try first | omega | assumption)) (by first | rfl | simp only [push_cast, ed, reduceCtorEq, ld]) ?_), .refl hwf⟩ ?_
 rintro n e z ⟨j, rfl, hj, rfl, rfl⟩
 rcases Nat.lt_or_ge j s.length with hlt | hge
 ·obtain ⟨b, hb⟩ : ∃ b, s[j]? = some b := ⟨_, List.getElem?_eq_getElem hlt⟩
  have hb8 := ha b (List.mem_of_getElem? hb)
  have h1 : decide ((j : Int) < (s.length : Int)) = true := by simp; omega
  have hw : IntKind.i64.wrap ((j : Int) + 1) = (j : Int) + 1 := wrap64 (by omega) (by omega)
  have hcat : (s.take j).length ≤ 9223372036854775806 := by simp; omega
  have hnext : (s.take j).map lowB ++ [lowB b] = (s.take (j + 1)).map lowB := by rw [List.take_add_one, hb]; simp
  by_cases hup : 65 ≤ b.toNat ∧ b.toNat ≤ 90
  ·have h3 : decide ((65 : Int) ≤ (b.toNat : Int)) = true := by simp; omega
   have h4 : decide ((b.toNat : Int) ≤ 90) = true := by simp; omega
   (repeat' first | ((first | refine go rfl rfl ?_ | (refine Fk.by_ ?_ ?_ <;> intro hc <;> try simp only [hc]) | refine storeK_eq rfl ?_ | with_reducible refine an ?_ ?_) <;> try simp only [h1, hb, hw, h3, h4, lowB_up2 hup.1 hup.2, wrap32_byte, enc_ascii (lowB_lt hb8), hcat, hnext, push_cast, ed, reduceCtorEq, ld]))
   exact ⟨_, _, _, by omega, ⟨j + 1, rfl, by omega, rfl, rfl⟩, (by repeat first | exact .nil | refine .cons (by first | rfl | (simp [V.bd, V.bdL]; try first | omega | assumption)) (by first | rfl | simp only [push_cast, ed, reduceCtorEq, ld]) ?_), .refl hwf⟩
  ·have hlow := lowB_no hup
   rw [hlow] at hnext
   (repeat' first | ((first | refine go rfl rfl ?_ | (refine Fk.by_ ?_ ?_ <;> intro hc <;> try simp only [hc]) | refine storeK_eq rfl ?_ | with_reducible refine an ?_ ?_) <;> try simp only [h1, hb, hw, wrap32_byte, enc_ascii hb8, hcat, hnext, push_cast, ed, reduceCtorEq, ld]))
   all_goals first
    | exact absurd ⟨by have := of_decide_eq_true ‹decide ((65 : Int) ≤ _) = true›; omega, by have := of_decide_eq_true hc; omega⟩ hup
    | exact ⟨_, _, _, by omega, ⟨j + 1, rfl, by omega, rfl, rfl⟩, (by repeat first | exact .nil | refine .cons (by first | rfl | (simp [V.bd, V.bdL]; try first | omega | assumption)) (by first | rfl | simp only [push_cast, ed, reduceCtorEq, ld]) ?_), .refl hwf⟩
 ·have h1 : decide ((j : Int) < (s.length : Int)) = false := by simp; omega
  have ej : j = s.length := by omega
  subst ej
  rw [List.take_length]
  (repeat' first | ((first | refine go rfl rfl ?_ | (refine Fk.by_ ?_ ?_ <;> intro hc <;> try simp only [hc]) | refine storeK_eq rfl ?_ | with_reducible refine an ?_ ?_) <;> try simp only [h1, push_cast, ed, reduceCtorEq, ld]))
  refine finC (hwf) (by simp only [F178, push_cast, ed, reduceCtorEq, ld]; exact rfl) (by first | exact .inl rfl | (right; simp only [F178, push_cast, ed, reduceCtorEq, ld]; try rfl)) (by first | rfl | assumption) (by simp [(hwf).z])
theorem run_ascii {s : List UInt8} {a e : Nat} (h : ∀ i, a ≤ i → i < e → atIs wrdB s i = true) : ∀ b ∈ (s.take e).drop a, b.toNat < 128 := by
 intro b hb
 obtain ⟨i, hi⟩ := List.mem_iff_getElem?.1 hb
 rw [List.getElem?_drop, List.getElem?_take] at hi
 split at hi
 ·rename_i hlt
  have := h (a + i) (by omega) hlt
  rw [atIs_some hi] at this
  have hl := b.toNat_lt
  simp only [wrdB, isWrd, isLet, isDig, Bool.or_eq_true, Bool.and_eq_true, decide_eq_true_eq, beq_iff_eq] at this
  omega
 ·cases hi
theorem runTo_all {ok : UInt8 → Bool} {s : List UInt8} : ∀ (n i : Nat), s.length - i = n → ∀ k, i ≤ k → k < runTo ok s i → atIs ok s k = true := by
 intro n
 induction n with
 | zero =>
  intro i hn k h1 h2
  rw [runTo_stop (atIs_none (by omega))] at h2; omega
 | succ n ih =>
  intro i hn k h1 h2
  cases h : atIs ok s i with
  | false => rw [runTo_stop h] at h2; omega
  | true =>
   rcases Nat.eq_or_lt_of_le h1 with e | e
   ·subst e; exact h
   ·obtain ⟨g1, g2⟩ := runTo_go h
    exact ih (i + 1) (by omega) k e (by rw [g1]; exact h2)
def refTok (s : List UInt8) (a : Nat) : V := match lexAt s a with
 | some (k, t, e) => .tup [tokV k t a, .int .i64 (e : Int)]
 | none => .tup [tokV 0 [] 0, .int .i64 (-1)]
theorem Token_v {s : List UInt8} {a : Nat} (st : St) (ha : a ≤ s.length) (hs : s.length < 140737488355328) : VRet Tryz.prog 125 [.str s, .int .i64 (a : Int)] st (refTok s a) st := by
 refine vc F125_ok rfl (fun hwf => ?_)
 have hN : lexAt s a = none → refTok s a = .tup [tokV 0 [] 0, .int .i64 (-1)] := fun h => by rw [refTok, h]
 have hS : ∀ k t e, lexAt s a = some (k, t, e) → refTok s a = .tup [tokV k t a, .int .i64 (e : Int)] := fun k t e h => by rw [refTok, h]
 generalize refTok s a = R at hN hS
 unfold lexAt at hN hS
 rcases Nat.lt_or_ge a s.length with hlt | hge
 ·rw [if_neg (by omega)] at hN hS
  obtain ⟨x, hx⟩ : ∃ x, s[a]? = some x := ⟨_, List.getElem?_eq_getElem hlt⟩
  have h0 : ((a : Int) == (s.length : Int)) = false := by simp; omega
  have hw1 : IntKind.i64.wrap ((a : Int) + 1) = (a : Int) + 1 := wrap64 (by omega) (by omega)
  have e1 : atIs letB s a = isLet x.toNat := atIs_some hx
  have e2 : atIs (isB 34) s a = ((x.toNat : Int) == 34) := atIs_some hx
  have e3 : atIs digB s a = isDig x.toNat := atIs_some hx
  have e4 : atIs sgnB s a = isSgn x.toNat := atIs_some hx
  rw [e1, e2, e3, e4] at hN hS
  cases hl : isLet x.toNat with
  | true =>
   have hR := hS _ _ _ (by rw [hl, if_pos rfl])
   have hbb := runTo_bd (ok := wrdB) ha
   have hasc := run_ascii (runTo_all _ _ rfl : ∀ k, a ≤ k → k < runTo wrdB s a → _)
   obtain ⟨b, hb⟩ : ∃ b, runTo wrdB s a = b := ⟨_, rfl⟩
   rw [hb] at hbb hasc hR
   have hlen : ((s.take b).drop a).length < 140737488355328 := by simp only [List.length_drop, List.length_take]; omega
   rw [hR]
   (repeat' first | ((first | refine go rfl rfl ?_ | refine Cl.by_ (by (first | refine letter_v _ _ | refine digit_v _ _ | refine sign_v _ _ | refine word_v _ ha hs | refine Lower_v _ hasc hlen)) ?_ | (refine Fk.by_ ?_ ?_ <;> intro hc <;> try simp only [hc]) | refine storeK_eq rfl ?_ | with_reducible refine an ?_ ?_) <;> try simp only [cells_tokV, h0, hx, hl, hb, hbb.1, hbb.2, push_cast, ed, reduceCtorEq, ld]))
   refine finC (hwf) (by simp only [F125, cells_tokV, push_cast, ed, reduceCtorEq, ld]; exact rfl) (by first | exact .inl rfl | (right; simp only [F125, cells_tokV, push_cast, ed, reduceCtorEq, ld]; try rfl)) (by first | rfl | assumption) (by simp [(hwf).z])
  | false =>
   rw [hl, if_neg Bool.false_ne_true] at hN hS
   cases hq : ((x.toNat : Int) == 34) with
   | true =>
    rw [hq, if_pos rfl] at hN hS
    have hqe : quoEnd s a = if atIs (isB 34) s (runTo plnB s (a + 1)) then ((runTo plnB s (a + 1) : Nat) : Int) + 1 else -1 := rfl
    cases hqq : atIs (isB 34) s (runTo plnB s (a + 1)) with
    | true =>
     have hql := atIs_lt hqq
     have := le_runTo (ok := plnB) (s := s) (i := a + 1)
     have hR := hS _ _ _ (by rw [hqq, if_pos rfl])
     rw [hqq, if_pos rfl] at hqe
     have hqe2 : quoEnd s a = ((runTo plnB s (a + 1) + 1 : Nat) : Int) := hqe
     obtain ⟨q, hq1⟩ : ∃ q, runTo plnB s (a + 1) + 1 = q := ⟨_, rfl⟩
     rw [hq1] at hqe2 hR
     have h5 : decide ((q : Int) < 0) = false := decide_eq_false (by omega)
     have h6 : a ≤ q := by omega
     have h7 : q ≤ s.length := by omega
     rw [hR]
     (repeat' first | ((first | refine go rfl rfl ?_ | refine Cl.by_ (by (first | refine letter_v _ _ | refine digit_v _ _ | refine sign_v _ _ | refine quoted_v _ hlt hs)) ?_ | (refine Fk.by_ ?_ ?_ <;> intro hc <;> try simp only [hc]) | refine storeK_eq rfl ?_ | with_reducible refine an ?_ ?_) <;> try simp only [cells_tokV, h0, hx, hl, hq, hqe2, h5, h6, h7, push_cast, ed, reduceCtorEq, ld]))
     refine finC (hwf) (by simp only [F125, cells_tokV, push_cast, ed, reduceCtorEq, ld]; exact rfl) (by first | exact .inl rfl | (right; simp only [F125, cells_tokV, push_cast, ed, reduceCtorEq, ld]; try rfl)) (by first | rfl | assumption) (by simp [(hwf).z])
    | false =>
     have hR := hN (by rw [hqq, if_neg Bool.false_ne_true])
     rw [hqq, if_neg Bool.false_ne_true] at hqe
     rw [hR]
     have h5 : decide ((-1 : Int) < 0) = true := rfl
     (repeat' first | ((first | refine go rfl rfl ?_ | refine Cl.by_ (by (first | refine letter_v _ _ | refine digit_v _ _ | refine sign_v _ _ | refine quoted_v _ hlt hs)) ?_ | (refine Fk.by_ ?_ ?_ <;> intro hc <;> try simp only [hc]) | refine storeK_eq rfl ?_ | with_reducible refine an ?_ ?_) <;> try simp only [cells_tokV, h0, hx, hl, hq, hqe, h5, push_cast, ed, reduceCtorEq, ld]))
     refine finC (hwf) (by simp only [F125, cells_tokV, push_cast, ed, reduceCtorEq, ld]; exact rfl) (by first | exact .inl rfl | (right; simp only [F125, cells_tokV, push_cast, ed, reduceCtorEq, ld]; try rfl)) (by first | rfl | assumption) (by simp [(hwf).z])
   | false =>
    rw [hq, if_neg Bool.false_ne_true] at hN hS
    cases hd : isDig x.toNat with
    | true =>
     have hne : lexAt s a = some (1, (s.take (numEnd s a)).drop a, numEnd s a) := by
      unfold lexAt numEnd
      rw [if_neg (by omega), e1, e2, e3, hl, hq, hd]
      simp only [bf, if_false, if_true]
      split <;> rfl
     obtain ⟨g1, g2, _⟩ := lexAt_bd ha hne
     have hR := hS _ _ _ (by
      have h := hne
      unfold lexAt at h
      rw [if_neg (by omega), e1, e2, e3, e4, hl, hq] at h
      simp only [bf, if_false] at h
      exact h)
     obtain ⟨d, hdd⟩ : ∃ d, numEnd s a = d := ⟨_, rfl⟩
     rw [hdd] at hR g1 g2
     have h5 : decide ((d : Int) < 0) = false := decide_eq_false (by omega)
     rw [hR]
     (repeat' first | ((first | refine go rfl rfl ?_ | refine Cl.by_ (by (first | refine letter_v _ _ | refine digit_v _ _ | refine sign_v _ _ | refine number_v _ ha hs)) ?_ | (refine Fk.by_ ?_ ?_ <;> intro hc <;> try simp only [hc]) | refine storeK_eq rfl ?_ | with_reducible refine an ?_ ?_) <;> try simp only [cells_tokV, h0, hx, hl, hq, hd, hdd, h5, g1, g2, push_cast, ed, reduceCtorEq, ld]))
     refine finC (hwf) (by simp only [F125, cells_tokV, push_cast, ed, reduceCtorEq, ld]; exact rfl) (by first | exact .inl rfl | (right; simp only [F125, cells_tokV, push_cast, ed, reduceCtorEq, ld]; try rfl)) (by first | rfl | assumption) (by simp [(hwf).z])
    | false =>
     rw [hd, if_neg Bool.false_ne_true] at hN hS
     cases hg : isSgn x.toNat with
     | true =>
      have hR := hS _ _ _ (by rw [hg, if_pos rfl])
      obtain ⟨d, hdd⟩ : ∃ d, a + 1 = d := ⟨_, rfl⟩
      rw [hdd] at hR
      have hw2 : IntKind.i64.wrap ((a : Int) + 1) = (d : Int) := by rw [hw1]; omega
      have h5 : decide ((d : Int) < 0) = false := decide_eq_false (by omega)
      have h6 : a ≤ d := by omega
      have h7 : d ≤ s.length := by omega
      rw [hR]
      (repeat' first | ((first | refine go rfl rfl ?_ | refine Cl.by_ (by (first | refine letter_v _ _ | refine digit_v _ _ | refine sign_v _ _)) ?_ | (refine Fk.by_ ?_ ?_ <;> intro hc <;> try simp only [hc]) | refine storeK_eq rfl ?_ | with_reducible refine an ?_ ?_) <;> try simp only [cells_tokV, h0, hx, hl, hq, hd, hg, hw2, h5, h6, h7, push_cast, ed, reduceCtorEq, ld]))
      refine finC (hwf) (by simp only [F125, cells_tokV, push_cast, ed, reduceCtorEq, ld]; exact rfl) (by first | exact .inl rfl | (right; simp only [F125, cells_tokV, push_cast, ed, reduceCtorEq, ld]; try rfl)) (by first | rfl | assumption) (by simp [(hwf).z])
     | false =>
      have hR := hN (by rw [hg, if_neg Bool.false_ne_true])
      have h5 : decide ((-1 : Int) < 0) = true := rfl
      rw [hR]
      (repeat' first | ((first | refine go rfl rfl ?_ | refine Cl.by_ (by (first | refine letter_v _ _ | refine digit_v _ _ | refine sign_v _ _)) ?_ | (refine Fk.by_ ?_ ?_ <;> intro hc <;> try simp only [hc]) | refine storeK_eq rfl ?_ | with_reducible refine an ?_ ?_) <;> try simp only [cells_tokV, h0, hx, hl, hq, hd, hg, h5, push_cast, ed, reduceCtorEq, ld]))
      refine finC (hwf) (by simp only [F125, cells_tokV, push_cast, ed, reduceCtorEq, ld]; exact rfl) (by first | exact .inl rfl | (right; simp only [F125, cells_tokV, push_cast, ed, reduceCtorEq, ld]; try rfl)) (by first | rfl | assumption) (by simp [(hwf).z])
 ·have hae : a = s.length := by omega
  have h0 : ((a : Int) == (s.length : Int)) = true := by simp [hae]
  have hR2 := hS _ _ _ (if_pos hae)
  rw [hR2]
  (repeat' first | ((first | refine go rfl rfl ?_ | (refine Fk.by_ ?_ ?_ <;> intro hc <;> try simp only [hc]) | refine storeK_eq rfl ?_ | with_reducible refine an ?_ ?_) <;> try simp only [cells_tokV, h0, push_cast, ed, reduceCtorEq, ld]))
  refine finC (hwf) (by simp only [F125, cells_tokV, push_cast, ed, reduceCtorEq, ld]; exact rfl) (by first | exact .inl rfl | (right; simp only [F125, cells_tokV, push_cast, ed, reduceCtorEq, ld]; try rfl)) (by first | rfl | assumption) (by simp [(hwf).z])
theorem refScan_v (s : List UInt8) (st : St) : VRet Tryz.prog 67 [.str s] st (scanV (scanR s)) st := by
 refine vc F67_ok rfl (fun hwf => ?_)
 by_cases hl : 4096 < s.length
 ·have hR : scanR s = ([], 0, 13) := if_pos hl
  have h0 : decide ((4096 : Int) < (s.length : Int)) = true := by simp; omega
  rw [hR]
  (repeat' first | ((first | refine go rfl rfl ?_ | (refine Fk.by_ ?_ ?_ <;> intro hc <;> try simp only [hc]) | refine storeK_eq rfl ?_ | with_reducible refine an ?_ ?_) <;> try simp only [h0, push_cast, ed, reduceCtorEq, ld]))
  refine finC (hwf) (by simp only [F67, scanV, push_cast, ed, reduceCtorEq, ld]; exact rfl) (by first | exact .inl rfl | (right; simp only [F67, scanV, push_cast, ed, reduceCtorEq, ld]; try rfl)) (by first | rfl | assumption) (by simp [(hwf).z])
 ·have hR : scanR s = scanG (s.length + 1) s 0 [] := if_neg hl
  have hs : s.length < 140737488355328 := by omega
  have h0 : decide ((4096 : Int) < (s.length : Int)) = false := by simp; omega
  obtain ⟨R, hRR⟩ : ∃ R, scanR s = R := ⟨_, rfl⟩
  rw [hRR]
  rw [hRR] at hR
  (repeat' first | ((first | refine go rfl rfl ?_ | (refine Fk.by_ ?_ ?_ <;> intro hc <;> try simp only [hc]) | refine storeK_eq rfl ?_ | with_reducible refine an ?_ ?_) <;> try simp only [h0, push_cast, ed, reduceCtorEq, ld]))
  refine WT_own 111 3 (t := 5) rfl ?_
  refine WT_loop rfl (fun n e z => ∃ f i acc, n = s.length - i ∧ i ≤ s.length ∧ s.length - i < f ∧ acc.length ≤ 256 ∧ R = scanG f s i acc ∧ e = [(6, .int .i64 (i : Int)), (5, .osl st.nx acc.length), (0, .str s)] ∧
   z = ⟨st.nx + 1, st.mem, (st.nx, ⟨111, 3, acc.map tkV, false, false⟩) :: st.arr, st.x⟩) (st.nx + 1) (Nat.le_refl _) (by rintro _ _ _ ⟨_, _, _, _, _, _, _, _, _, rfl⟩; rfl)
   ⟨_, _, _, ⟨s.length + 1, 0, [], rfl, Nat.zero_le _, by omega, by simp, hR, rfl, rfl⟩, (by repeat first | exact .nil | refine .cons (by first | rfl | (simp [V.bd, V.bdL]; try first | omega | assumption)) (by first | rfl | simp only [push_cast, ed, reduceCtorEq, ld]) ?_), .refl (hwf.newA rfl)⟩ ?_
  rintro n e z ⟨f, i, acc, rfl, hi, hf, hac, hR, rfl, rfl⟩
  cases f with
  | zero => omega
  | succ f =>
  rw [scanG] at hR
  obtain ⟨a, ha⟩ : ∃ a, runTo (isB 32) s i = a := ⟨_, rfl⟩
  have hal : a ≤ s.length := by rw [← ha]; exact runTo_le hi
  have hia : i ≤ a := by rw [← ha]; exact le_runTo
  rw [ha] at hR
  have hle : decide ((i : Int) ≤ (s.length : Int)) = true := decide_eq_true (by omega)
  have key : ∀ j : Nat, j = a → WT Tryz.prog F67.N F67.T 35 [(6, .int .i64 (j : Int)), (5, .osl st.nx acc.length), (0, .str s)] ⟨st.nx + 1, st.mem, (st.nx, ⟨111, 3, acc.map tkV, false, false⟩) :: st.arr, st.x⟩
   (blockPost 1 (seqPost (Again (st.nx + 1) (fun n e z => ∃ f i acc, n = s.length - i ∧ i ≤ s.length ∧ s.length - i < f ∧ acc.length ≤ 256 ∧ R = scanG f s i acc ∧ e = [(6, .int .i64 (i : Int)), (5, .osl st.nx acc.length), (0, .str s)] ∧
   z = ⟨st.nx + 1, st.mem, (st.nx, ⟨111, 3, acc.map tkV, false, false⟩) :: st.arr, st.x⟩) (s.length - i)) (blockPost 0 (seqT Tryz.prog F67.N F67.T 64 (finQ F67.res st.nx fun x z => x = .ret (scanV R) ∧ z = st))))) := by
   intro j ej
   rw [ej]
   clear ej
   cases h : lexAt s a with
   | none =>
    have ht : refTok s a = .tup [tokV 0 [] 0, .int .i64 (-1)] := by rw [refTok, h]
    have h5 : decide ((-1 : Int) < 0) = true := rfl
    rw [h] at hR
    subst hR
    (repeat' first | ((first | refine go rfl rfl ?_ | refine Cl.by_ (by (first | refine Token_v _ hal hs)) ?_ | (refine Fk.by_ ?_ ?_ <;> intro hc <;> try simp only [hc]) | refine storeK_eq rfl ?_ | with_reducible refine an ?_ ?_) <;> try simp only [ht, cells_tokV, h5, push_cast, ed, reduceCtorEq, ld]))
    refine finC (hwf) (by simp only [F67, scanV, push_cast, ed, reduceCtorEq, ld]; exact rfl) (by first | exact .inl rfl | (right; simp only [F67, scanV, push_cast, ed, reduceCtorEq, ld]; try rfl)) (by first | rfl | assumption) (by simp [(hwf).z])
   | some r =>
    obtain ⟨k, t, e⟩ := r
    have ht : refTok s a = .tup [tokV k t a, .int .i64 (e : Int)] := by rw [refTok, h]
    have h5 : decide ((e : Int) < 0) = false := decide_eq_false (by omega)
    simp only [h] at hR
    by_cases hn : acc.length = 256
    ·rw [if_pos hn] at hR
     subst hR
     have h1 : ((acc.length : Int) == 256) = true := by simp; omega
     (repeat' first | ((first | refine go rfl rfl ?_ | refine Cl.by_ (by (first | refine Token_v _ hal hs)) ?_ | (refine Fk.by_ ?_ ?_ <;> intro hc <;> try simp only [hc]) | refine storeK_eq rfl ?_ | with_reducible refine an ?_ ?_) <;> try simp only [ht, cells_tokV, h1, h5, push_cast, ed, reduceCtorEq, ld]))
     refine finC (hwf) (by simp only [F67, scanV, push_cast, ed, reduceCtorEq, ld]; exact rfl) (by first | exact .inl rfl | (right; simp only [F67, scanV, push_cast, ed, reduceCtorEq, ld]; try rfl)) (by first | rfl | assumption) (by simp [(hwf).z])
    ·rw [if_neg hn] at hR
     have h1 : ((acc.length : Int) == 256) = false := by simp; omega
     by_cases hk : k = 3
     ·rw [if_pos hk] at hR
      subst hR
      have h2 : (k == 3) = true := by simp [hk]
      have hrm : roomV (acc.length + 1) 32 = true := by simp [roomV, maxLen]; omega
      have hbr : V.bd st.nx (scanV (acc ++ [⟨k, t, (a : Int)⟩], 0, 0)) = true := by
       simp only [scanV, V.bd, V.bdL, bdL_tk]; rfl
      (repeat' first | ((first | refine go rfl rfl ?_ | refine Cl.by_ (by (first | refine Token_v _ hal hs)) ?_ | (refine Fk.by_ ?_ ?_ <;> intro hc <;> try simp only [hc]) | refine storeK_eq rfl ?_ | with_reducible refine an ?_ ?_) <;> try simp only [ht, cells_tokV, app_tk, h1, h2, h5, hrm, push_cast, ed, reduceCtorEq, ld]))
      refine finC (hwf) (by simp only [F67, scanV, push_cast, ed, reduceCtorEq, ld]; exact rfl) (by first | exact .inl rfl | (right; simp only [F67, scanV, push_cast, ed, reduceCtorEq, ld]; try rfl)) (by first | rfl | assumption) (by simp [(hwf).z])
     ·rw [if_neg hk] at hR
      have h2 : (k == 3) = false := by simp [hk]
      have hrm : roomV (acc.length + 1) 32 = true := by simp [roomV, maxLen]; omega
      (repeat' first | ((first | refine go rfl rfl ?_ | refine Cl.by_ (by (first | refine Token_v _ hal hs)) ?_ | (refine Fk.by_ ?_ ?_ <;> intro hc <;> try simp only [hc]) | refine storeK_eq rfl ?_ | with_reducible refine an ?_ ?_) <;> try simp only [ht, cells_tokV, app_tk, h1, h2, h5, hrm, push_cast, ed, reduceCtorEq, ld]))
      obtain ⟨g1, g2, g3⟩ := lexAt_bd hal h
      have := g3 hk
      exact ⟨_, _, _, by omega, ⟨f, e, acc ++ [⟨k, t, (a : Int)⟩], rfl, by omega, by omega, by simp; omega, hR, rfl, rfl⟩, (by repeat first | exact .nil | refine .cons (by first | rfl | (simp [V.bd, V.bdL]; try first | omega | assumption)) (by first | rfl | simp only [push_cast, ed, reduceCtorEq, ld]) ?_), Weak.wf rfl (by simp) (by (repeat first | exact (hwf.newA (bdL_tk)).subm | exact (hwf.newA (bdL_tk)).suba | refine Sub.drop (by simp) ?_)) (by (repeat first | exact (hwf.newA (bdL_tk)).subm | exact (hwf.newA (bdL_tk)).suba | refine Sub.drop (by simp) ?_)) (by (repeat first | exact (hwf.newA (bdL_tk)).subx | refine ExSub.dropt (by simp) ?_ | refine ExSub.drop (by simp) ?_)) (hwf.newA (bdL_tk))⟩
  (repeat' first | ((first | refine go rfl rfl ?_ | (refine Fk.by_ ?_ ?_ <;> intro hc <;> try simp only [hc]) | refine storeK_eq rfl ?_ | with_reducible refine an ?_ ?_) <;> try simp only [hle, push_cast, ed, reduceCtorEq, ld]))
  refine WT_loop rfl (fun n e z => ∃ j : Nat, n = s.length - j ∧ j ≤ s.length ∧ runTo (isB 32) s j = a ∧ e = [(6, .int .i64 (j : Int)), (5, .osl st.nx acc.length), (0, .str s)] ∧ z = ⟨st.nx + 1, st.mem, (st.nx, ⟨111, 3, acc.map tkV, false, false⟩) :: st.arr, st.x⟩) (st.nx + 1) (Nat.le_refl _) (by rintro _ _ _ ⟨j, _, _, _, _, rfl⟩; rfl)
   ⟨_, _, _, ⟨i, rfl, hi, ha, rfl, rfl⟩, (by repeat first | exact .nil | refine .cons (by first | rfl | (simp [V.bd, V.bdL]; try first | omega | assumption)) (by first | rfl | simp only [push_cast, ed, reduceCtorEq, ld]) ?_), .refl (hwf.newA (bdL_tk))⟩ ?_
  rintro n e z ⟨j, rfl, hj, hr, rfl, rfl⟩
  rcases Nat.lt_or_ge j s.length with hlt | hge
  ·obtain ⟨b, hb⟩ : ∃ b, s[j]? = some b := ⟨_, List.getElem?_eq_getElem hlt⟩
   have h1 : decide ((j : Int) < (s.length : Int)) = true := decide_eq_true (by omega)
   have hw : IntKind.i64.wrap ((j : Int) + 1) = (j : Int) + 1 := wrap64 (by omega) (by omega)
   have h5 : ∀ x, ((b.toNat : Int) == 32) = x → atIs (isB 32) s j = x := fun x h => by rw [atIs_some hb]; exact h
   (repeat' first | exact WT_env (by repeat first | exact .nil | refine .cons (by first | rfl | simp only [push_cast, ed, reduceCtorEq, ld]) ?_) (key j (by rw [← hr, runTo_stop (h5 false hc)])) | ((first | refine go rfl rfl ?_ | (refine Fk.by_ ?_ ?_ <;> intro hc <;> try simp only [hc]) | refine storeK_eq rfl ?_ | with_reducible refine an ?_ ?_) <;> try simp only [h1, hb, hw, push_cast, ed, reduceCtorEq, ld]))
   exact ⟨_, _, _, by omega, ⟨j + 1, rfl, by omega, by rw [(runTo_go (h5 true hc)).1, hr], rfl, rfl⟩, (by repeat first | exact .nil | refine .cons (by first | rfl | (simp [V.bd, V.bdL]; try first | omega | assumption)) (by first | rfl | simp only [push_cast, ed, reduceCtorEq, ld]) ?_), .refl (hwf.newA (bdL_tk))⟩
  ·have h1 : decide ((j : Int) < (s.length : Int)) = false := decide_eq_false (by omega)
   (repeat' first | exact WT_env (by repeat first | exact .nil | refine .cons (by first | rfl | simp only [push_cast, ed, reduceCtorEq, ld]) ?_) (key j (by rw [← hr, runTo_stop (atIs_none hge)])) | ((first | refine go rfl rfl ?_ | (refine Fk.by_ ?_ ?_ <;> intro hc <;> try simp only [hc]) | refine storeK_eq rfl ?_ | with_reducible refine an ?_ ?_) <;> try simp only [h1, push_cast, ed, reduceCtorEq, ld]))
theorem take_succ_eq {α : Type} [DecidableEq α] {x y : List α} {j : Nat} {a b : α} (hx : x[j]? = some a) (hy : y[j]? = some b) (h : x.take j = y.take j) : x.take (j + 1) = y.take (j + 1) ↔ a = b := by
 rw [List.take_add_one, List.take_add_one, hx, hy, h]
 simp
def x1 : List UInt8 := [67, 104, 97, 110, 32, 53, 46, 49, 32, 64, 51, 55, 46, 53]
def x2 : List UInt8 := [49, 46, 120, 32, 34, 97, 32, 98, 34]
def x3 : List UInt8 := [51, 32, 35, 32, 52]
def w1 : List Tok := [⟨0, [99, 104, 97, 110], 0⟩, ⟨1, [53, 46, 49], 5⟩, ⟨2, [64], 9⟩, ⟨1, [51, 55, 46, 53], 10⟩, ⟨3, [], 14⟩]
def w2 : List Tok := [⟨1, [49], 0⟩, ⟨2, [46], 1⟩, ⟨0, [120], 2⟩, ⟨0, [34, 97, 32, 98, 34], 4⟩, ⟨3, [], 9⟩]
def oneR (s : List UInt8) : V × Bool := match lexAt s (runTo (isB 32) s 0) with
 | some (k, t, e) => (tokV k t (runTo (isB 32) s 0), ((runTo (isB 32) s 0 : Nat) : Int) == 0 && ((e : Int) == (s.length : Int) && k != 3))
 | none => (tokV 0 [] 0, false)
theorem one_v (s : List UInt8) (st : St) (hs : s.length < 140737488355328) : VRet Tryz.prog 221 [.str s] st (.tup [(oneR s).1, .bool (oneR s).2]) st := by
 refine vc F221_ok rfl (fun hwf => ?_)
 unfold oneR
 obtain ⟨a, ha⟩ : ∃ a, runTo (isB 32) s 0 = a := ⟨_, rfl⟩
 rw [ha]
 have hm : ∀ z : List V, Sha.look ((st.nx + 1, [V.str s, .int .i64 ((0 : Nat) : Int)]) :: (st.nx, z) :: st.mem) (st.nx + 1) = some [.str s, .int .i64 ((0 : Nat) : Int)] := fun z => by simp [Sha.look]
 cases h : lexAt s a with
 | none =>
  have ht : tokR s 0 = (.tup [tokV 0 [] 0, .bool false], a) := by rw [tokR, ha, h]
  (repeat' first | ((first | refine go rfl rfl ?_ | refine Cl.by_ (by (first | refine token_v (i := 0) (hm _) (Nat.zero_le _) hs)) ?_ | (refine Fk.by_ ?_ ?_ <;> intro hc <;> try simp only [hc]) | refine storeK_eq rfl ?_ | with_reducible refine an ?_ ?_) <;> try simp only [cells_tokV, ht, push_cast, ed, reduceCtorEq, ld]))
  refine finC (hwf) (by simp only [F221, cells_tokV, push_cast, ed, reduceCtorEq, ld]; exact rfl) (by first | exact .inl rfl | (right; simp only [F221, cells_tokV, push_cast, ed, reduceCtorEq, ld]; try rfl)) (by first | rfl | assumption) (by simp [(hwf).z])
 | some r =>
  obtain ⟨k, t, e⟩ := r
  have ht : tokR s 0 = (.tup [tokV k t a, .bool true], e) := by rw [tokR, ha, h]
  cases h1 : ((a : Int) == 0) with
  | false =>
   (repeat' first | ((first | refine go rfl rfl ?_ | refine Cl.by_ (by (first | refine token_v (i := 0) (hm _) (Nat.zero_le _) hs)) ?_ | (refine Fk.by_ ?_ ?_ <;> intro hc <;> try simp only [hc]) | refine storeK_eq rfl ?_ | with_reducible refine an ?_ ?_) <;> try simp only [cells_tokV, ht, h1, push_cast, ed, reduceCtorEq, ld]))
   refine finC (hwf) (by simp only [F221, cells_tokV, push_cast, ed, reduceCtorEq, ld]; exact rfl) (by first | exact .inl rfl | (right; simp only [F221, cells_tokV, push_cast, ed, reduceCtorEq, ld]; try rfl)) (by first | rfl | assumption) (by simp [(hwf).z])
  | true =>
   cases h2 : ((e : Int) == (s.length : Int)) with
   | false =>
    (repeat' first | ((first | refine go rfl rfl ?_ | refine Cl.by_ (by (first | refine token_v (i := 0) (hm _) (Nat.zero_le _) hs)) ?_ | (refine Fk.by_ ?_ ?_ <;> intro hc <;> try simp only [hc]) | refine storeK_eq rfl ?_ | with_reducible refine an ?_ ?_) <;> try simp only [cells_tokV, ht, h1, h2, push_cast, ed, reduceCtorEq, ld]))
    refine finC (hwf) (by simp only [F221, cells_tokV, push_cast, ed, reduceCtorEq, ld]; exact rfl) (by first | exact .inl rfl | (right; simp only [F221, cells_tokV, push_cast, ed, reduceCtorEq, ld]; try rfl)) (by first | rfl | assumption) (by simp [(hwf).z])
   | true =>
    (repeat' first | ((first | refine go rfl rfl ?_ | refine Cl.by_ (by (first | refine token_v (i := 0) (hm _) (Nat.zero_le _) hs)) ?_ | (refine Fk.by_ ?_ ?_ <;> intro hc <;> try simp only [hc]) | refine storeK_eq rfl ?_ | with_reducible refine an ?_ ?_) <;> try simp only [cells_tokV, ht, h1, h2, push_cast, ed, reduceCtorEq, ld]))
    refine finC (hwf) (by simp only [F221, cells_tokV, push_cast, ed, reduceCtorEq, ld]; exact rfl) (by first | exact .inl rfl | (right; simp only [F221, cells_tokV, push_cast, ed, reduceCtorEq, ld]; try rfl)) (by first | rfl | assumption) (by simp [(hwf).z])
theorem one_quote {s : List UInt8} (h : atIs (isB 34) s 0 = true) : oneR s = if quoEnd s 0 = s.length then (tokV 0 s 0, true) else if quoEnd s 0 = -1 then (tokV 0 [] 0, false) else (tokV 0 (s.take (quoEnd s 0).toNat) 0, false) := by
 have hb : runTo (isB 32) s 0 = 0 := by
  refine runTo_stop ?_
  unfold atIs at h ⊢
  cases hs : s[0]? with
  | none => rfl
  | some b => rw [hs] at h; simp only [isB, beq_iff_eq] at h ⊢; simp; omega
 have hl : atIs letB s 0 = false := by
  unfold atIs at h ⊢
  cases hs : s[0]? with
  | none => rfl
  | some b => rw [hs] at h; simp only [isB, letB, isLet, beq_iff_eq] at h ⊢; simp; omega
 have hlt := atIs_lt h
 unfold oneR
 rw [hb]
 unfold lexAt quoEnd
 rw [if_neg (by omega), hl, h]
 simp only [bf, if_false, if_true]
 cases hq : atIs (isB 34) s (runTo plnB s (0 + 1)) with
 | false =>
  simp only [bf, if_false]
  rw [if_neg (by omega)]; simp
 | true =>
  simp only [if_true]
  have := atIs_lt hq
  split
  ·rename_i he
   have e1 : runTo plnB s (0 + 1) + 1 = s.length := by omega
   rw [e1, List.take_length]
   simp
  ·rename_i he
   rw [if_neg (by omega)]
   have e2 : ((runTo plnB s (0 + 1) : Int) + 1).toNat = runTo plnB s (0 + 1) + 1 := by omega
   rw [e2]
   have e3 : (((runTo plnB s (0 + 1) + 1 : Nat) : Int) == (s.length : Int)) = false := by simp; omega
   rw [e3]
   simp
theorem oneR_ex (s : List UInt8) : ∃ k t a b, oneR s = (tokV k t a, b) ∧ (b = true → a = 0 ∧ k ≠ 3 ∧ runTo (isB 32) s 0 = 0 ∧ lexAt s 0 = some (k, t, s.length)) := by
 unfold oneR
 cases h : lexAt s (runTo (isB 32) s 0) with
 | none => exact ⟨_, _, _, _, rfl, fun h => by cases h⟩
 | some r =>
  obtain ⟨k, t, e⟩ := r
  refine ⟨_, _, _, _, rfl, fun h2 => ?_⟩
  simp only [Bool.and_eq_true, beq_iff_eq, bne_iff_ne] at h2
  obtain ⟨h3, h4, h5⟩ := h2
  have e1 : runTo (isB 32) s 0 = 0 := by omega
  have e2 : e = s.length := by omega
  rw [e1, e2] at h
  exact ⟨e1, h5, e1, h⟩
theorem lexAt_nil : lexAt [] 0 = some (3, [], 0) := rfl
theorem one_ne {s : List UInt8} {k : Int} {t : List UInt8} (h : lexAt s 0 = some (k, t, s.length)) (hk : k ≠ 3) : s ≠ [] := by
 rintro rfl
 rw [lexAt_nil] at h
 cases h
 exact hk rfl
def IsWord (s : List UInt8) : Prop := atIs letB s 0 = true ∧ runTo wrdB s 0 = s.length ∧ s.map lowB = s
open Classical in
noncomputable def wordN (s : List UInt8) : Int := if IsWord s then (if 24 < s.length then 13 else 0) else 8
theorem noBlank {ok : UInt8 → Bool} {s : List UInt8} (h : atIs ok s 0 = true) (hok : ∀ b, ok b = true → isB 32 b = false) : runTo (isB 32) s 0 = 0 := by
 refine runTo_stop ?_
 unfold atIs at h ⊢
 cases hs : s[0]? with
 | none => rfl
 | some b => rw [hs] at h; exact hok b h
theorem letB_32 (b : UInt8) (h : letB b = true) : isB 32 b = false := by
 simp only [letB, isLet, isB] at h ⊢; simp at h ⊢; omega
theorem atIs_not {ok ok' : UInt8 → Bool} {s : List UInt8} (h : atIs ok s 0 = true) (hok : ∀ b, ok b = true → ok' b = false) : atIs ok' s 0 = false := by
 unfold atIs at h ⊢
 cases hs : s[0]? with
 | none => rfl
 | some b => rw [hs] at h; exact hok b h
theorem one_word {s : List UInt8} (h : IsWord s) : oneR s = (tokV 0 s 0, true) := by
 obtain ⟨h1, h2, h3⟩ := h
 have := atIs_lt h1
 unfold oneR
 rw [noBlank h1 letB_32]
 unfold lexAt
 rw [if_neg (by omega), h1, h2]
 simp [h3]
theorem word_of {s : List UInt8} {t : List UInt8} (h : lexAt s 0 = some (0, t, s.length)) (ht : t = s) (hq : atIs (isB 34) s 0 = false) : IsWord s := by
 unfold lexAt at h
 split at h
 ·cases h
 ·split at h
  ·rename_i h1
   simp only [Option.some.injEq, Prod.mk.injEq, true_and, List.drop_zero] at h
   obtain ⟨h2, h3⟩ := h
   rw [h3, List.take_length] at h2
   exact ⟨h1, h3, h2.trans ht⟩
  ·rw [hq] at h
   simp only [bf, if_false] at h
   split at h
   ·split at h <;> simp at h
   ·split at h <;> simp at h
theorem Word_v (s : List UInt8) (st : St) (hs : s.length < 140737488355328) : VRet Tryz.prog 207 [.str s] st (.int .i64 (wordN s)) st := by
 refine vc F207_ok rfl (fun hwf => ?_)
 by_cases h : IsWord s
 ·have ho := one_word h
  obtain ⟨x, hx⟩ : ∃ x, s[0]? = some x := ⟨_, List.getElem?_eq_getElem (atIs_lt h.1)⟩
  have hx2 : ((x.toNat : Int) == 34) = false := by have := atIs_not h.1 (ok' := isB 34) (fun b hb => by simp only [letB, isLet, isB] at hb ⊢; simp at hb ⊢; omega); rw [atIs_some hx] at this; exact this
  have hk : ((0 : Int) != 0) = false := rfl
  have ht : (s != s) = false := by simp
  have hw : wordN s = if 24 < s.length then 13 else 0 := if_pos h
  by_cases hl : 24 < s.length
  ·have h0 : decide ((24 : Int) < (s.length : Int)) = true := decide_eq_true (by omega)
   rw [hw, if_pos hl]
   (repeat' first | ((first | refine go rfl rfl ?_ | refine Cl.by_ (by (first | refine one_v _ _ hs)) ?_ | (refine Fk.by_ ?_ ?_ <;> intro hc <;> try simp only [hc]) | refine storeK_eq rfl ?_ | with_reducible refine an ?_ ?_) <;> try simp only [cells_tokV, ho, hx, hx2, hk, ht, h0, push_cast, ed, reduceCtorEq, ld]))
   refine finC (hwf) (by simp only [F207, push_cast, ed, reduceCtorEq, ld]; exact rfl) (by first | exact .inl rfl | (right; simp only [F207, push_cast, ed, reduceCtorEq, ld]; try rfl)) (by first | rfl | assumption) (by simp [(hwf).z])
  ·have h0 : decide ((24 : Int) < (s.length : Int)) = false := decide_eq_false (by omega)
   rw [hw, if_neg hl]
   (repeat' first | ((first | refine go rfl rfl ?_ | refine Cl.by_ (by (first | refine one_v _ _ hs)) ?_ | (refine Fk.by_ ?_ ?_ <;> intro hc <;> try simp only [hc]) | refine storeK_eq rfl ?_ | with_reducible refine an ?_ ?_) <;> try simp only [cells_tokV, ho, hx, hx2, hk, ht, h0, push_cast, ed, reduceCtorEq, ld]))
   refine finC (hwf) (by simp only [F207, push_cast, ed, reduceCtorEq, ld]; exact rfl) (by first | exact .inl rfl | (right; simp only [F207, push_cast, ed, reduceCtorEq, ld]; try rfl)) (by first | rfl | assumption) (by simp [(hwf).z])
 ·have hw : wordN s = 8 := if_neg h
  rw [hw]
  obtain ⟨k, t, a, b, ho, hb⟩ := oneR_ex s
  cases b with
  | false =>
   (repeat' first | ((first | refine go rfl rfl ?_ | refine Cl.by_ (by (first | refine one_v _ _ hs)) ?_ | (refine Fk.by_ ?_ ?_ <;> intro hc <;> try simp only [hc]) | refine storeK_eq rfl ?_ | with_reducible refine an ?_ ?_) <;> try simp only [cells_tokV, ho, push_cast, ed, reduceCtorEq, ld]))
   refine finC (hwf) (by simp only [F207, push_cast, ed, reduceCtorEq, ld]; exact rfl) (by first | exact .inl rfl | (right; simp only [F207, push_cast, ed, reduceCtorEq, ld]; try rfl)) (by first | rfl | assumption) (by simp [(hwf).z])
  | true =>
   obtain ⟨_, h3, _, h4⟩ := hb rfl
   obtain ⟨x, hx⟩ : ∃ x, s[0]? = some x := ⟨_, List.getElem?_eq_getElem (by have := one_ne h4 h3; exact List.length_pos_iff.2 this)⟩
   cases hk : (k != 0) with
   | true =>
    (repeat' first | ((first | refine go rfl rfl ?_ | refine Cl.by_ (by (first | refine one_v _ _ hs)) ?_ | (refine Fk.by_ ?_ ?_ <;> intro hc <;> try simp only [hc]) | refine storeK_eq rfl ?_ | with_reducible refine an ?_ ?_) <;> try simp only [cells_tokV, ho, hx, hk, push_cast, ed, reduceCtorEq, ld]))
    refine finC (hwf) (by simp only [F207, push_cast, ed, reduceCtorEq, ld]; exact rfl) (by first | exact .inl rfl | (right; simp only [F207, push_cast, ed, reduceCtorEq, ld]; try rfl)) (by first | rfl | assumption) (by simp [(hwf).z])
   | false =>
    cases ht : (t != s) with
    | true =>
     (repeat' first | ((first | refine go rfl rfl ?_ | refine Cl.by_ (by (first | refine one_v _ _ hs)) ?_ | (refine Fk.by_ ?_ ?_ <;> intro hc <;> try simp only [hc]) | refine storeK_eq rfl ?_ | with_reducible refine an ?_ ?_) <;> try simp only [cells_tokV, ho, hx, hk, ht, push_cast, ed, reduceCtorEq, ld]))
     refine finC (hwf) (by simp only [F207, push_cast, ed, reduceCtorEq, ld]; exact rfl) (by first | exact .inl rfl | (right; simp only [F207, push_cast, ed, reduceCtorEq, ld]; try rfl)) (by first | rfl | assumption) (by simp [(hwf).z])
    | false =>
     have hx2 : ((x.toNat : Int) == 34) = true := by
      cases hq : ((x.toNat : Int) == 34) with
      | true => rfl
      | false =>
       have hk0 : k = 0 := by simpa [bne] using hk
       subst hk0
       exact absurd (word_of h4 (by simpa [bne] using ht) (by rw [atIs_some hx]; exact hq)) h
     (repeat' first | ((first | refine go rfl rfl ?_ | refine Cl.by_ (by (first | refine one_v _ _ hs)) ?_ | (refine Fk.by_ ?_ ?_ <;> intro hc <;> try simp only [hc]) | refine storeK_eq rfl ?_ | with_reducible refine an ?_ ?_) <;> try simp only [cells_tokV, ho, hx, hk, ht, hx2, push_cast, ed, reduceCtorEq, ld]))
     refine finC (hwf) (by simp only [F207, push_cast, ed, reduceCtorEq, ld]; exact rfl) (by first | exact .inl rfl | (right; simp only [F207, push_cast, ed, reduceCtorEq, ld]; try rfl)) (by first | rfl | assumption) (by simp [(hwf).z])
theorem refWord_v (s : List UInt8) (st : St) (hs : s.length < 140737488355328) : VRet Tryz.prog 185 [.str s] st (.int .i64 (wordN s)) st := by
 refine vc F185_ok rfl (fun hwf => ?_)
 cases s with
 | nil =>
  have hw : wordN [] = 8 := if_neg (fun h => by cases h.1)
  have h0 : (([] : List UInt8) == []) = true := rfl
  rw [hw]
  (repeat' first | ((first | refine go rfl rfl ?_ | (refine Fk.by_ ?_ ?_ <;> intro hc <;> try simp only [hc]) | refine storeK_eq rfl ?_ | with_reducible refine an ?_ ?_) <;> try simp only [h0, push_cast, ed, reduceCtorEq, ld]))
  refine finC (hwf) (by simp only [F185, push_cast, ed, reduceCtorEq, ld]; exact rfl) (by first | exact .inl rfl | (right; simp only [F185, push_cast, ed, reduceCtorEq, ld]; try rfl)) (by first | rfl | assumption) (by simp [(hwf).z])
 | cons x s' =>
  have h0 : ((x :: s') == []) = false := rfl
  obtain ⟨s, hse⟩ : ∃ s, x :: s' = s := ⟨_, rfl⟩
  have hx : s[0]? = some x := by rw [← hse]; rfl
  rw [hse] at hs h0 ⊢
  have e1 : atIs letB s 0 = isLet x.toNat := atIs_some hx
  cases hl : isLet x.toNat with
  | false =>
   have hw : wordN s = 8 := if_neg (fun h => by rw [h.1, hl] at e1; cases e1)
   rw [hw]
   (repeat' first | ((first | refine go rfl rfl ?_ | refine Cl.by_ (by (first | refine letter_v _ _ | refine word_v (i := 0) _ (Nat.zero_le _) hs)) ?_ | (refine Fk.by_ ?_ ?_ <;> intro hc <;> try simp only [hc]) | refine storeK_eq rfl ?_ | with_reducible refine an ?_ ?_) <;> try simp only [h0, hx, hl, push_cast, ed, reduceCtorEq, ld]))
   refine finC (hwf) (by simp only [F185, push_cast, ed, reduceCtorEq, ld]; exact rfl) (by first | exact .inl rfl | (right; simp only [F185, push_cast, ed, reduceCtorEq, ld]; try rfl)) (by first | rfl | assumption) (by simp [(hwf).z])
  | true =>
   by_cases hr : runTo wrdB s 0 = s.length
   ·have hr2 : (((runTo wrdB s 0 : Nat) : Int) != (s.length : Int)) = false := by simp [hr]
    have hasc : ∀ b ∈ s, b.toNat < 128 := by
     have := run_ascii (runTo_all (ok := wrdB) (s := s) _ _ rfl : ∀ k, 0 ≤ k → k < runTo wrdB s 0 → _)
     rw [hr, List.take_length, List.drop_zero] at this
     exact this
    cases hm : (s.map lowB != s) with
    | true =>
     have hw : wordN s = 8 := if_neg (fun h => by rw [h.2.2] at hm; simp at hm)
     rw [hw]
     (repeat' first | ((first | refine go rfl rfl ?_ | refine Cl.by_ (by (first | refine letter_v _ _ | refine word_v (i := 0) _ (Nat.zero_le _) hs | refine Lower_v _ hasc hs)) ?_ | (refine Fk.by_ ?_ ?_ <;> intro hc <;> try simp only [hc]) | refine storeK_eq rfl ?_ | with_reducible refine an ?_ ?_) <;> try simp only [h0, hx, hl, hr2, hm, push_cast, ed, reduceCtorEq, ld]))
     refine finC (hwf) (by simp only [F185, push_cast, ed, reduceCtorEq, ld]; exact rfl) (by first | exact .inl rfl | (right; simp only [F185, push_cast, ed, reduceCtorEq, ld]; try rfl)) (by first | rfl | assumption) (by simp [(hwf).z])
    | false =>
     have hw : wordN s = if 24 < s.length then 13 else 0 := if_pos ⟨by rw [e1, hl], hr, by simpa [bne] using hm⟩
     by_cases hl2 : 24 < s.length
     ·have h1 : decide ((24 : Int) < (s.length : Int)) = true := decide_eq_true (by omega)
      rw [hw, if_pos hl2]
      (repeat' first | ((first | refine go rfl rfl ?_ | refine Cl.by_ (by (first | refine letter_v _ _ | refine word_v (i := 0) _ (Nat.zero_le _) hs | refine Lower_v _ hasc hs)) ?_ | (refine Fk.by_ ?_ ?_ <;> intro hc <;> try simp only [hc]) | refine storeK_eq rfl ?_ | with_reducible refine an ?_ ?_) <;> try simp only [h0, hx, hl, hr2, hm, h1, push_cast, ed, reduceCtorEq, ld]))
      refine finC (hwf) (by simp only [F185, push_cast, ed, reduceCtorEq, ld]; exact rfl) (by first | exact .inl rfl | (right; simp only [F185, push_cast, ed, reduceCtorEq, ld]; try rfl)) (by first | rfl | assumption) (by simp [(hwf).z])
     ·have h1 : decide ((24 : Int) < (s.length : Int)) = false := decide_eq_false (by omega)
      rw [hw, if_neg hl2]
      (repeat' first | ((first | refine go rfl rfl ?_ | refine Cl.by_ (by (first | refine letter_v _ _ | refine word_v (i := 0) _ (Nat.zero_le _) hs | refine Lower_v _ hasc hs)) ?_ | (refine Fk.by_ ?_ ?_ <;> intro hc <;> try simp only [hc]) | refine storeK_eq rfl ?_ | with_reducible refine an ?_ ?_) <;> try simp only [h0, hx, hl, hr2, hm, h1, push_cast, ed, reduceCtorEq, ld]))
      refine finC (hwf) (by simp only [F185, push_cast, ed, reduceCtorEq, ld]; exact rfl) (by first | exact .inl rfl | (right; simp only [F185, push_cast, ed, reduceCtorEq, ld]; try rfl)) (by first | rfl | assumption) (by simp [(hwf).z])
   ·have hr2 : (((runTo wrdB s 0 : Nat) : Int) != (s.length : Int)) = true := by simp; omega
    have hw : wordN s = 8 := if_neg (fun h => hr h.2.1)
    rw [hw]
    (repeat' first | ((first | refine go rfl rfl ?_ | refine Cl.by_ (by (first | refine letter_v _ _ | refine word_v (i := 0) _ (Nat.zero_le _) hs)) ?_ | (refine Fk.by_ ?_ ?_ <;> intro hc <;> try simp only [hc]) | refine storeK_eq rfl ?_ | with_reducible refine an ?_ ?_) <;> try simp only [h0, hx, hl, hr2, push_cast, ed, reduceCtorEq, ld]))
    refine finC (hwf) (by simp only [F185, push_cast, ed, reduceCtorEq, ld]; exact rfl) (by first | exact .inl rfl | (right; simp only [F185, push_cast, ed, reduceCtorEq, ld]; try rfl)) (by first | rfl | assumption) (by simp [(hwf).z])
def F62 : FT := ⟨9, 1, [.cell 2 (some 3)],
 [.seq 1 2,
 .reg [.s 2 (.alloc 111 [(.i 0), (.str []), (.i 0)])],
 .seq 3 4,
 .reg [.s 3 (.m 0),
 .s 4 (.k 3),
 .s 5 (.a 0 4),
 .s 6 (.l 5),
 .s 7 (.iadr 3 (.t 6) (.i 0)),
 .s 8 (.load (some 3) (.t 7)),
 .n (.store 3 (.t 2) (.t 8))],
 .ret]⟩
def F63 : FT := ⟨10, 2, [],
 [.reg [.s 4 (.m 0),
 .s 5 (.f 62 [(.t 4)]),
 .s 6 (.fld none 2 (.t 5)),
 .s 7 (.m 1),
 .s 8 (.build [(.i 0), (.i 0)] [(0, 1, (.t 6)), (1, 1, (.t 7))]),
 .s 9 (.mkif 106 (.t 8)),
 .n (.panic (.t 9))]]⟩
def F64 : FT := ⟨35, 1, [.cell 2 (some 19)],
 [.seq 1 2,
 .reg [.s 2 (.alloc 28 Z0)],
 .seq 3 4,
 .reg [.s 4 (.m 0),
 .s 5 (.f 45 [(.t 4)]),
 .s 6 (.m 0),
 .s 7 (.f 108 [(.t 6), (.i 0)]),
 .s 8 (.build Z0 [(0, 1, (.i 0)), (1, 1, (.w [97, 116])), (5, 1, (.t 5)), (6, 1, (.t 7))]),
 .s 3 (.alloc 28 Z0),
 .n (.store 19 (.t 3) (.t 8))],
 .seq 5 6,
 .reg [.s 9 (.m 0),
 .s 10 (.bslice 9 1 [(.w [97, 116])]),
 .s 11 (.f 109 [(.t 9), (.t 10)])],
 .seq 7 25,
 .seq 8 9,
 .reg [.s 12 (.m 0),
 .s 13 (.bslice 9 1 [(.w [112, 97, 108, 101, 116, 116, 101]), (.w [104, 111, 109, 101])]),
 .s 14 (.f 110 [(.t 12), (.t 13)])],
 .block 0 10,
 .seq 11 12,
 .reg [.s 24 (.bin .eql (.t 14) (.w [112, 97, 108, 101, 116, 116, 101])),
 .s 23 (.m 24)],
 .cond (.t 23) 13 14,
 .reg [.s 25 (.m 0),
 .s 26 (.f 111 [(.t 25)]),
 .s 27 (.a 8 3),
 .n (.store 1 (.t 27) (.t 26))],
 .seq 15 16,
 .reg [.s 29 (.bin .eql (.t 14) (.w [104, 111, 109, 101])),
 .s 28 (.m 29)],
 .cond (.t 28) 17 18,
 .reg [.s 30 (.a 8 3),
 .n (.store 1 (.t 30) (.i (-1)))],
 .seq 19 24,
 .seq 20 21,
 .reg [.s 15 (.a 6 3),
 .s 16 (.l 15),
 .s 17 (.bin .geq (.t 16) (.i 15))],
 .cond (.t 17) 22 23,
 .reg [.s 18 (.m 0),
 .s 19 (.f 63 [(.t 18), (.i 4)])],
 .skip,
 .reg [.s 20 (.m 0),
 .s 21 (.f 112 [(.t 20)]),
 .s 22 (.a 7 3),
 .n (.store 1 (.t 22) (.t 21))],
 .seq 26 27,
 .reg [.s 31 (.m 0),
 .s 32 (.f 113 [(.t 31)]),
 .s 33 (.a 9 3),
 .n (.store 1 (.t 33) (.t 32))],
 .seq 28 29,
 .reg [.s 34 (.load (some 19) (.t 3)),
 .n (.store 19 (.t 2) (.t 34))],
 .ret]⟩
def F65 : FT := ⟨41, 1, [.tmp 2],
 [.seq 1 2,
 .reg [.s 2 (.mv (.c .nilm))],
 .seq 3 4,
 .reg [.s 5 (.act .mkmap []),
 .s 6 (.m 0),
 .s 7 (.mkfn (.func 114) [(.t 6)] []),
 .n (.act (.mset .s) [(.t 5), (.w [99, 108, 101, 97, 114]), (.t 7)]),
 .s 8 (.m 0),
 .s 9 (.mkfn (.func 115) [(.t 8)] []),
 .n (.act (.mset .s) [(.t 5), (.w [114, 101, 99, 111, 114, 100]), (.t 9)]),
 .s 10 (.m 0),
 .s 11 (.mkfn (.func 116) [(.t 10)] []),
 .n (.act (.mset .s) [(.t 5), (.w [117, 112, 100, 97, 116, 101]), (.t 11)]),
 .s 12 (.m 0),
 .s 13 (.mkfn (.func 117) [(.t 12)] []),
 .n (.act (.mset .s) [(.t 5), (.w [100, 101, 108, 101, 116, 101]), (.t 13)]),
 .s 14 (.m 0),
 .s 15 (.mkfn (.func 118) [(.t 14)] []),
 .n (.act (.mset .s) [(.t 5), (.w [112, 97, 116, 99, 104]), (.t 15)]),
 .s 16 (.m 0),
 .s 17 (.mkfn (.func 119) [(.t 16)] []),
 .n (.act (.mset .s) [(.t 5), (.w [98, 108, 97, 99, 107, 111, 117, 116]), (.t 17)]),
 .s 18 (.m 5),
 .s 3 (.alloc 116 [.nilm]),
 .n (.store 1 (.t 3) (.t 18))],
 .seq 5 6,
 .reg [.s 19 (.mkfn (.func 120) [] [(.t 3)]),
 .s 4 (.m 19)],
 .seq 7 8,
 .reg [.s 20 (.m 4),
 .s 21 (.m 0),
 .s 22 (.mkfn (.func 121) [(.t 21)] []),
 .s 23 (.bslice 9 1 [(.w [103, 111]), (.w [98, 97, 99, 107]), (.w [112, 97, 117, 115, 101]), (.w [114, 101, 115, 117, 109, 101]), (.w [114, 101, 118, 101, 114, 115, 101]), (.w [103, 111, 116, 111]), (.w [114, 97, 116, 101]), (.w [114, 101, 108, 101, 97, 115, 101])]),
 .s 24 (.call (.t 20) [(.t 22), (.t 23)])],
 .seq 9 10,
 .reg [.s 25 (.m 4),
 .s 26 (.m 0),
 .s 27 (.mkfn (.func 122) [(.t 26)] []),
 .s 28 (.bslice 9 1 [(.w [108, 105, 115, 116]), (.w [115, 117, 98]), (.w [109, 97, 115, 116, 101, 114])]),
 .s 29 (.call (.t 25) [(.t 27), (.t 28)])],
 .seq 11 12,
 .reg [.s 30 (.m 4),
 .s 31 (.m 0),
 .s 32 (.mkfn (.func 123) [(.t 31)] []),
 .s 33 (.bslice 9 1 [(.w [101, 102, 102, 101, 99, 116]), (.w [115, 116, 111, 112])]),
 .s 34 (.call (.t 30) [(.t 32), (.t 33)])],
 .seq 13 14,
 .reg [.s 35 (.m 4),
 .s 36 (.m 0),
 .s 37 (.mkfn (.func 124) [(.t 36)] []),
 .s 38 (.bslice 9 1 [(.w [117, 110, 100, 111]), (.w [114, 101, 100, 111])]),
 .s 39 (.call (.t 35) [(.t 37), (.t 38)])],
 .seq 15 16,
 .reg [.s 40 (.l 3),
 .s 2 (.m 40)],
 .ret]⟩
def F66 : FT := ⟨19, 1, [.cell 2 (some 3)],
 [.seq 1 2,
 .reg [.s 2 (.alloc 111 [(.i 0), (.str []), (.i 0)])],
 .seq 3 4,
 .reg [.s 4 (.m 0),
 .s 5 (.k 4),
 .s 6 (.a 0 5),
 .s 7 (.l 6),
 .s 8 (.iadr 3 (.t 7) (.i 0)),
 .s 9 (.load (some 3) (.t 8)),
 .s 3 (.alloc 111 [(.i 0), (.str []), (.i 0)]),
 .n (.store 3 (.t 3) (.t 9))],
 .seq 5 6,
 .reg [.s 10 (.m 0),
 .s 11 (.m 0),
 .s 12 (.k 11),
 .s 13 (.a 0 12),
 .s 14 (.l 13),
 .s 15 (.slice 3 (.t 14) (some (.i 1)) none none),
 .s 16 (.k 10),
 .s 17 (.a 0 16),
 .n (.store 1 (.t 17) (.t 15))],
 .seq 7 8,
 .reg [.s 18 (.load (some 3) (.t 3)),
 .n (.store 3 (.t 2) (.t 18))],
 .ret]⟩
def F90 : FT := ⟨38, 2, [.cell 4 (some 4)],
 [.seq 1 2,
 .reg [.s 4 (.alloc 43 [(.i 0), (.i 0), (.i 0), (.i 0)])],
 .seq 3 10,
 .seq 4 5,
 .reg [.s 8 (.m 0),
 .s 9 (.bslice 9 1 [(.w [103, 114, 111, 117, 112])]),
 .s 10 (.f 110 [(.t 8), (.t 9)]),
 .s 11 (.bin .neq (.t 10) (.w []))],
 .cond (.t 11) 6 9,
 .seq 7 8,
 .reg [.s 12 (.m 1),
 .s 13 (.m 0),
 .s 14 (.f 141 [(.t 13), (.i 1048576)]),
 .s 15 (.build [(.i 0), (.i 0), (.i 0), (.i 0)] [(0, 1, (.t 12)), (1, 1, (.t 14))]),
 .n (.store 4 (.t 4) (.t 15))],
 .ret,
 .skip,
 .seq 11 12,
 .reg [.s 16 (.m 0),
 .s 17 (.f 141 [(.t 16), (.i 999)]),
 .s 5 (.m 17)],
 .seq 13 14,
 .reg [.s 18 (.m 5),
 .s 6 (.m 18)],
 .seq 15 28,
 .seq 16 17,
 .reg [.s 19 (.m 0),
 .s 20 (.bslice 9 1 [(.w [116, 104, 114, 117])]),
 .s 21 (.f 110 [(.t 19), (.t 20)]),
 .s 22 (.bin .neq (.t 21) (.w []))],
 .cond (.t 22) 18 27,
 .seq 19 20,
 .reg [.s 23 (.m 0),
 .s 24 (.f 62 [(.t 23)]),
 .s 25 (.fld none 2 (.t 24)),
 .s 7 (.m 25)],
 .seq 21 22,
 .reg [.s 26 (.m 0),
 .s 27 (.f 141 [(.t 26), (.i 999)]),
 .s 6 (.m 27)],
 .seq 23 24,
 .reg [.s 28 (.m 6),
 .s 29 (.m 5),
 .s 30 (.bin .lss (.t 28) (.t 29))],
 .cond (.t 30) 25 26,
 .reg [.s 31 (.m 7),
 .s 32 (.build [(.i 0), (.i 0)] [(0, 1, (.t 31)), (1, 1, (.i 9))]),
 .s 33 (.mkif 106 (.t 32)),
 .n (.panic (.t 33))],
 .skip,
 .skip,
 .seq 29 30,
 .reg [.s 34 (.m 1),
 .s 35 (.m 5),
 .s 36 (.m 6),
 .s 37 (.build [(.i 0), (.i 0), (.i 0), (.i 0)] [(0, 1, (.t 34)), (2, 1, (.t 35)), (3, 1, (.t 36))]),
 .n (.store 4 (.t 4) (.t 37))],
 .ret]⟩
def F91 : FT := ⟨13, 2, [.tmp 4],
 [.seq 1 2,
 .reg [.s 4 (.mv (.c (.bool false)))],
 .seq 3 4,
 .reg [.s 6 (.m 0),
 .s 7 (.m 1),
 .s 8 (.f 142 [(.t 6), (.i 2), (.t 7)]),
 .s 5 (.m 8)],
 .seq 5 10,
 .seq 6 7,
 .reg [.s 9 (.m 5)],
 .cond (.t 9) 8 9,
 .reg [.s 10 (.m 0),
 .s 11 (.f 66 [(.t 10)])],
 .skip,
 .seq 11 12,
 .reg [.s 12 (.m 5),
 .s 4 (.m 12)],
 .ret]⟩
def F108 : FT := ⟨25, 2, [.tmp 4],
 [.seq 1 2,
 .reg [.s 4 (.mv (.i 0))],
 .seq 3 10,
 .seq 4 5,
 .reg [.s 7 (.m 0),
 .s 8 (.f 62 [(.t 7)]),
 .s 9 (.fld none 0 (.t 8)),
 .s 10 (.bin .neq (.t 9) (.i 0))],
 .cond (.t 10) 6 9,
 .seq 7 8,
 .reg [.s 11 (.m 1),
 .s 4 (.m 11)],
 .ret,
 .skip,
 .seq 11 12,
 .reg [.s 13 (.m 0),
 .s 14 (.f 62 [(.t 13)]),
 .s 15 (.fld none 1 (.t 14)),
 .s 16 (.f 13 [(.t 15)]),
 .s 12 (.m 16),
 .s 17 (.ext 0 (.t 12)),
 .s 18 (.ext 1 (.t 12)),
 .s 5 (.m 17),
 .s 6 (.m 18)],
 .seq 13 20,
 .seq 14 15,
 .reg [.s 19 (.m 6),
 .s 20 (.bin .neq (.t 19) (.i 0))],
 .cond (.t 20) 16 19,
 .seq 17 18,
 .reg [.s 21 (.m 1),
 .s 4 (.m 21)],
 .ret,
 .skip,
 .seq 21 22,
 .reg [.s 22 (.m 0),
 .s 23 (.f 66 [(.t 22)])],
 .seq 23 24,
 .reg [.s 24 (.m 5),
 .s 4 (.m 24)],
 .ret]⟩
def F109 : FT := ⟨14, 2, [.tmp 4],
 [.seq 1 2,
 .reg [.s 4 (.mv (.w []))],
 .seq 3 4,
 .reg [.s 6 (.m 0),
 .s 7 (.m 1),
 .s 8 (.f 110 [(.t 6), (.t 7)]),
 .s 5 (.m 8)],
 .seq 5 10,
 .seq 6 7,
 .reg [.s 9 (.m 5),
 .s 10 (.bin .eql (.t 9) (.w []))],
 .cond (.t 10) 8 9,
 .reg [.s 11 (.m 0),
 .s 12 (.f 63 [(.t 11), (.i 4)])],
 .skip,
 .seq 11 12,
 .reg [.s 13 (.m 5),
 .s 4 (.m 13)],
 .ret]⟩
def F110 : FT := ⟨20, 2, [.tmp 4],
 [.seq 1 2,
 .reg [.s 4 (.mv (.w []))],
 .seq 3 27,
 .seq 4 5,
 .reg [.s 7 (.m 1),
 .s 8 (.len (.t 7)),
 .s 9 (.mv (.i 0))],
 .block 0 6,
 .loop 7,
 .seq 8 9,
 .reg [.s 10 (.bin .lss (.t 9) (.t 8))],
 .seq 10 13,
 .cond (.t 10) 11 12,
 .skip,
 .exit 0,
 .seq 14 26,
 .block 1 15,
 .seq 16 17,
 .reg [.s 11 (.iadr 1 (.t 7) (.t 9)),
 .s 12 (.l 11),
 .s 6 (.m 12)],
 .seq 18 19,
 .reg [.s 13 (.m 0),
 .s 14 (.m 6),
 .s 15 (.f 142 [(.t 13), (.i 0), (.t 14)])],
 .cond (.t 15) 20 25,
 .seq 21 22,
 .reg [.s 16 (.m 0),
 .s 17 (.f 66 [(.t 16)])],
 .seq 23 24,
 .reg [.s 18 (.m 6),
 .s 4 (.m 18)],
 .ret,
 .skip,
 .reg [.s 19 (.bin .add (.t 9) (.i 1)),
 .s 9 (.m 19)],
 .seq 28 29,
 .reg [.s 4 (.mv (.w []))],
 .ret]⟩
def F111 : FT := ⟨5, 1, [.tmp 2],
 [.seq 1 2,
 .reg [.s 2 (.mv (.i 0))],
 .seq 3 4,
 .reg [.s 3 (.m 0),
 .s 4 (.f 141 [(.t 3), (.i 1048576)]),
 .s 2 (.m 4)],
 .ret]⟩
def F112 : FT := ⟨23, 1, [.tmp 2],
 [.seq 1 2,
 .reg [.s 2 (.mv (.i 0))],
 .seq 3 8,
 .seq 4 5,
 .reg [.s 5 (.m 0),
 .s 6 (.f 142 [(.t 5), (.i 0), (.w [102, 117, 108, 108])]),
 .s 7 (.un .not (.t 6))],
 .cond (.t 7) 6 7,
 .reg [.s 8 (.m 0),
 .s 9 (.f 168 [(.t 8)])],
 .skip,
 .seq 9 10,
 .reg [.s 11 (.m 0),
 .s 12 (.f 62 [(.t 11)]),
 .s 13 (.fld none 1 (.t 12)),
 .s 14 (.f 169 [(.t 13)]),
 .s 10 (.m 14),
 .s 15 (.ext 0 (.t 10)),
 .s 16 (.ext 1 (.t 10)),
 .s 3 (.m 15),
 .s 4 (.m 16)],
 .seq 11 12,
 .reg [.s 17 (.m 0),
 .s 18 (.m 4),
 .s 19 (.f 170 [(.t 17), (.t 18)])],
 .seq 13 14,
 .reg [.s 20 (.m 0),
 .s 21 (.f 66 [(.t 20)])],
 .seq 15 16,
 .reg [.s 22 (.m 3),
 .s 2 (.m 22)],
 .ret]⟩
def F113 : FT := ⟨21, 1, [.tmp 2],
 [.seq 1 2,
 .reg [.s 2 (.mv (.i 0))],
 .seq 3 10,
 .seq 4 5,
 .reg [.s 5 (.m 0),
 .s 6 (.bslice 9 1 [(.w [116, 105, 109, 101])]),
 .s 7 (.f 110 [(.t 5), (.t 6)]),
 .s 8 (.bin .eql (.t 7) (.w []))],
 .cond (.t 8) 6 9,
 .seq 7 8,
 .reg [.s 2 (.mv (.i (-1)))],
 .ret,
 .skip,
 .seq 11 12,
 .reg [.s 10 (.m 0),
 .s 11 (.f 168 [(.t 10)]),
 .s 12 (.f 15 [(.t 11)]),
 .s 9 (.m 12),
 .s 13 (.ext 0 (.t 9)),
 .s 14 (.ext 1 (.t 9)),
 .s 3 (.m 13),
 .s 4 (.m 14)],
 .seq 13 14,
 .reg [.s 15 (.m 0),
 .s 16 (.m 4),
 .s 17 (.f 170 [(.t 15), (.t 16)])],
 .seq 15 16,
 .reg [.s 18 (.m 0),
 .s 19 (.f 66 [(.t 18)])],
 .seq 17 18,
 .reg [.s 20 (.m 3),
 .s 2 (.m 20)],
 .ret]⟩
def F114 : FT := ⟨18, 2, [.cell 4 (some 19)],
 [.seq 1 2,
 .reg [.s 4 (.alloc 28 Z0)],
 .seq 3 4,
 .reg [.s 6 (.build Z0 [(0, 1, (.i 1)), (1, 1, (.w [99, 108, 101, 97, 114])), (6, 1, (.i (-1)))]),
 .s 5 (.alloc 28 Z0),
 .n (.store 19 (.t 5) (.t 6))],
 .seq 5 12,
 .seq 6 7,
 .reg [.s 7 (.m 0),
 .s 8 (.f 62 [(.t 7)]),
 .s 9 (.fld none 0 (.t 8)),
 .s 10 (.bin .neq (.t 9) (.i 3))],
 .cond (.t 10) 8 11,
 .seq 9 10,
 .reg [.s 11 (.m 0),
 .s 12 (.f 45 [(.t 11)]),
 .s 13 (.a 5 5),
 .n (.store 1 (.t 13) (.t 12))],
 .reg [.s 14 (.m 0),
 .s 15 (.f 108 [(.t 14), (.i (-1))]),
 .s 16 (.a 6 5),
 .n (.store 1 (.t 16) (.t 15))],
 .skip,
 .seq 13 14,
 .reg [.s 17 (.load (some 19) (.t 5)),
 .n (.store 19 (.t 4) (.t 17))],
 .ret]⟩
def F115 : FT := ⟨42, 2, [.cell 4 (some 19)],
 [.seq 1 2,
 .reg [.s 4 (.alloc 28 Z0)],
 .seq 3 4,
 .reg [.s 6 (.m 0),
 .s 7 (.bslice 9 1 [(.w [99, 117, 101]), (.w [112, 97, 108, 101, 116, 116, 101]), (.w [115, 117, 98]), (.w [103, 114, 111, 117, 112])]),
 .s 8 (.f 109 [(.t 6), (.t 7)]),
 .s 9 (.build Z0 [(0, 1, (.i 2)), (1, 1, (.w [114, 101, 99, 111, 114, 100])), (2, 1, (.t 8))]),
 .s 5 (.alloc 28 Z0),
 .n (.store 19 (.t 5) (.t 9))],
 .seq 5 20,
 .seq 6 7,
 .reg [.s 10 (.a 2 5),
 .s 11 (.l 10),
 .s 12 (.bin .neq (.t 11) (.w [99, 117, 101]))],
 .cond (.t 12) 8 19,
 .seq 9 10,
 .reg [.s 13 (.m 0),
 .s 14 (.f 111 [(.t 13)]),
 .s 15 (.a 4 5),
 .n (.store 1 (.t 15) (.t 14))],
 .seq 11 16,
 .seq 12 13,
 .reg [.s 16 (.a 2 5),
 .s 17 (.l 16),
 .s 18 (.bin .eql (.t 17) (.w [103, 114, 111, 117, 112]))],
 .cond (.t 18) 14 15,
 .reg [.s 19 (.m 0),
 .s 20 (.f 45 [(.t 19)]),
 .s 21 (.a 5 5),
 .n (.store 1 (.t 21) (.t 20))],
 .skip,
 .seq 17 18,
 .reg [.s 22 (.load (some 19) (.t 5)),
 .n (.store 19 (.t 4) (.t 22))],
 .ret,
 .skip,
 .seq 21 22,
 .reg [.s 23 (.m 0),
 .s 24 (.f 171 [(.t 23), (.t 5)])],
 .seq 23 28,
 .seq 24 25,
 .reg [.s 25 (.m 0),
 .s 26 (.bslice 9 1 [(.w [111, 110, 108, 121])]),
 .s 27 (.f 110 [(.t 25), (.t 26)]),
 .s 28 (.bin .neq (.t 27) (.w []))],
 .cond (.t 28) 26 27,
 .reg [.s 29 (.a 10 5),
 .n (.store 1 (.t 29) (.i 1))],
 .skip,
 .seq 29 30,
 .reg [.s 30 (.a 7 5),
 .n (.store 1 (.t 30) (.i 1))],
 .seq 31 36,
 .seq 32 33,
 .reg [.s 31 (.m 0),
 .s 32 (.bslice 9 1 [(.w [112, 97, 114, 116])]),
 .s 33 (.f 110 [(.t 31), (.t 32)]),
 .s 34 (.bin .neq (.t 33) (.w []))],
 .cond (.t 34) 34 35,
 .reg [.s 35 (.m 0),
 .s 36 (.f 141 [(.t 35), (.i 4)]),
 .s 37 (.a 7 5),
 .n (.store 1 (.t 37) (.t 36))],
 .skip,
 .seq 37 38,
 .reg [.s 38 (.m 0),
 .s 39 (.f 113 [(.t 38)]),
 .s 40 (.a 9 5),
 .n (.store 1 (.t 40) (.t 39))],
 .seq 39 40,
 .reg [.s 41 (.load (some 19) (.t 5)),
 .n (.store 19 (.t 4) (.t 41))],
 .ret]⟩
def F116 : FT := ⟨13, 2, [.cell 4 (some 19)],
 [.seq 1 2,
 .reg [.s 4 (.alloc 28 Z0)],
 .seq 3 4,
 .reg [.s 6 (.m 0),
 .s 7 (.bslice 9 1 [(.w [99, 117, 101])]),
 .s 8 (.f 109 [(.t 6), (.t 7)]),
 .s 9 (.build Z0 [(0, 1, (.i 3)), (1, 1, (.w [117, 112, 100, 97, 116, 101])), (2, 1, (.t 8))]),
 .s 5 (.alloc 28 Z0),
 .n (.store 19 (.t 5) (.t 9))],
 .seq 5 6,
 .reg [.s 10 (.m 0),
 .s 11 (.f 171 [(.t 10), (.t 5)])],
 .seq 7 8,
 .reg [.s 12 (.load (some 19) (.t 5)),
 .n (.store 19 (.t 4) (.t 12))],
 .ret]⟩
def F117 : FT := ⟨30, 2, [.cell 4 (some 19)],
 [.seq 1 2,
 .reg [.s 4 (.alloc 28 Z0)],
 .seq 3 4,
 .reg [.s 6 (.m 0),
 .s 7 (.bslice 9 1 [(.w [99, 117, 101]), (.w [112, 97, 108, 101, 116, 116, 101]), (.w [103, 114, 111, 117, 112]), (.w [115, 117, 98]), (.w [101, 102, 102, 101, 99, 116]), (.w [102, 105, 120, 116, 117, 114, 101])]),
 .s 8 (.f 109 [(.t 6), (.t 7)]),
 .s 9 (.build Z0 [(0, 1, (.i 4)), (1, 1, (.w [100, 101, 108, 101, 116, 101])), (2, 1, (.t 8))]),
 .s 5 (.alloc 28 Z0),
 .n (.store 19 (.t 5) (.t 9))],
 .seq 5 23,
 .seq 6 7,
 .reg [.s 10 (.a 2 5),
 .s 11 (.l 10)],
 .block 0 8,
 .seq 9 10,
 .reg [.s 16 (.bin .eql (.t 11) (.w [99, 117, 101])),
 .s 15 (.m 16)],
 .cond (.t 15) 11 18,
 .seq 12 13,
 .reg [.s 17 (.m 0),
 .s 18 (.f 171 [(.t 17), (.t 5)])],
 .seq 14 15,
 .reg [.s 19 (.m 0),
 .s 20 (.bslice 9 1 [(.w [107, 101, 101, 112])]),
 .s 21 (.f 110 [(.t 19), (.t 20)]),
 .s 22 (.bin .neq (.t 21) (.w []))],
 .cond (.t 22) 16 17,
 .reg [.s 23 (.a 10 5),
 .n (.store 1 (.t 23) (.i 2))],
 .skip,
 .seq 19 20,
 .reg [.s 25 (.bin .eql (.t 11) (.w [102, 105, 120, 116, 117, 114, 101])),
 .s 24 (.m 25)],
 .cond (.t 24) 21 22,
 .reg [.s 26 (.m 0),
 .s 27 (.f 172 [(.t 26)]),
 .s 28 (.a 11 5),
 .n (.store 7 (.t 28) (.t 27))],
 .reg [.s 12 (.m 0),
 .s 13 (.f 111 [(.t 12)]),
 .s 14 (.a 4 5),
 .n (.store 1 (.t 14) (.t 13))],
 .seq 24 25,
 .reg [.s 29 (.load (some 19) (.t 5)),
 .n (.store 19 (.t 4) (.t 29))],
 .ret]⟩
def F118 : FT := ⟨32, 2, [.cell 4 (some 19)],
 [.seq 1 2,
 .reg [.s 4 (.alloc 28 Z0)],
 .seq 3 4,
 .reg [.s 6 (.m 0),
 .s 7 (.f 172 [(.t 6)]),
 .s 5 (.alloc 25 Z1),
 .n (.store 7 (.t 5) (.t 7))],
 .seq 5 6,
 .reg [.s 8 (.m 0),
 .s 9 (.f 173 [(.t 8)]),
 .s 10 (.a 2 5),
 .n (.store 1 (.t 10) (.t 9))],
 .seq 7 8,
 .reg [.s 11 (.m 0),
 .s 12 (.bslice 9 1 [(.w [97, 116])]),
 .s 13 (.f 109 [(.t 11), (.t 12)])],
 .seq 9 10,
 .reg [.s 14 (.m 0),
 .s 15 (.f 141 [(.t 14), (.i 8)]),
 .s 16 (.a 3 5),
 .n (.store 1 (.t 16) (.t 15))],
 .seq 11 12,
 .reg [.s 17 (.m 0),
 .s 18 (.f 174 [(.t 17)])],
 .seq 13 14,
 .reg [.s 19 (.m 0),
 .s 20 (.f 141 [(.t 19), (.i 512)]),
 .s 21 (.a 4 5),
 .n (.store 1 (.t 21) (.t 20)),
 .s 22 (.a 5 5),
 .n (.store 1 (.t 22) (.i 1))],
 .seq 15 20,
 .seq 16 17,
 .reg [.s 23 (.m 0),
 .s 24 (.bslice 9 1 [(.w [112, 104, 97, 115, 101])]),
 .s 25 (.f 110 [(.t 23), (.t 24)]),
 .s 26 (.bin .neq (.t 25) (.w []))],
 .cond (.t 26) 18 19,
 .reg [.s 27 (.m 0),
 .s 28 (.f 141 [(.t 27), (.i 3)]),
 .s 29 (.a 5 5),
 .n (.store 1 (.t 29) (.t 28))],
 .skip,
 .seq 21 22,
 .reg [.s 30 (.load (some 7) (.t 5)),
 .s 31 (.build Z0 [(0, 1, (.i 5)), (1, 1, (.w [112, 97, 116, 99, 104])), (11, 7, (.t 30))]),
 .n (.store 19 (.t 4) (.t 31))],
 .ret]⟩
def F119 : FT := ⟨14, 2, [.cell 4 (some 19)],
 [.seq 1 2,
 .reg [.s 4 (.alloc 28 Z0)],
 .seq 3 4,
 .reg [.s 6 (.m 1),
 .s 7 (.build Z0 [(0, 1, (.i 7)), (1, 1, (.t 6))]),
 .s 5 (.alloc 28 Z0),
 .n (.store 19 (.t 5) (.t 7))],
 .seq 5 10,
 .seq 6 7,
 .reg [.s 8 (.m 0),
 .s 9 (.bslice 9 1 [(.w [111, 110]), (.w [111, 102, 102])]),
 .s 10 (.f 109 [(.t 8), (.t 9)]),
 .s 11 (.bin .eql (.t 10) (.w [111, 110]))],
 .cond (.t 11) 8 9,
 .reg [.s 12 (.a 7 5),
 .n (.store 1 (.t 12) (.i 1))],
 .skip,
 .seq 11 12,
 .reg [.s 13 (.load (some 19) (.t 5)),
 .n (.store 19 (.t 4) (.t 13))],
 .ret]⟩
def F120 : FT := ⟨17, 2, [],
 [.seq 1 2,
 .reg [.s 7 (.m 1),
 .s 8 (.len (.t 7)),
 .s 9 (.mv (.i 0))],
 .block 0 3,
 .loop 4,
 .seq 5 6,
 .reg [.s 10 (.bin .lss (.t 9) (.t 8))],
 .seq 7 10,
 .cond (.t 10) 8 9,
 .skip,
 .exit 0,
 .seq 11 15,
 .block 1 12,
 .seq 13 14,
 .reg [.s 11 (.iadr 1 (.t 7) (.t 9)),
 .s 12 (.l 11),
 .s 6 (.m 12)],
 .reg [.s 13 (.l 2),
 .s 14 (.m 6),
 .s 15 (.m 0),
 .n (.act (.mset .s) [(.t 13), (.t 14), (.t 15)])],
 .reg [.s 16 (.bin .add (.t 9) (.i 1)),
 .s 9 (.m 16)]]⟩
def F121 : FT := ⟨33, 2, [.cell 4 (some 19)],
 [.seq 1 2,
 .reg [.s 4 (.alloc 28 Z0)],
 .seq 3 4,
 .reg [.s 6 (.m 1),
 .s 7 (.m 0),
 .s 8 (.f 111 [(.t 7)]),
 .s 9 (.build Z0 [(0, 1, (.i 6)), (1, 1, (.t 6)), (4, 1, (.t 8))]),
 .s 5 (.alloc 28 Z0),
 .n (.store 19 (.t 5) (.t 9))],
 .seq 5 25,
 .seq 6 7,
 .reg [.s 10 (.m 1)],
 .block 0 8,
 .seq 9 10,
 .reg [.s 12 (.bin .eql (.t 10) (.w [103, 111, 116, 111])),
 .s 11 (.m 12)],
 .cond (.t 11) 11 14,
 .seq 12 13,
 .reg [.s 13 (.m 0),
 .s 14 (.bslice 9 1 [(.w [99, 117, 101])]),
 .s 15 (.f 109 [(.t 13), (.t 14)])],
 .reg [.s 16 (.m 0),
 .s 17 (.f 175 [(.t 16)]),
 .s 18 (.a 3 5),
 .n (.store 1 (.t 18) (.t 17))],
 .seq 15 16,
 .reg [.s 20 (.bin .eql (.t 10) (.w [114, 97, 116, 101])),
 .s 19 (.m 20)],
 .cond (.t 19) 17 20,
 .seq 18 19,
 .reg [.s 21 (.m 0),
 .s 22 (.bslice 9 1 [(.w [97, 116])]),
 .s 23 (.f 109 [(.t 21), (.t 22)])],
 .reg [.s 24 (.m 0),
 .s 25 (.f 141 [(.t 24), (.i 400)]),
 .s 26 (.a 7 5),
 .n (.store 1 (.t 26) (.t 25))],
 .seq 21 22,
 .reg [.s 28 (.bin .eql (.t 10) (.w [114, 101, 108, 101, 97, 115, 101])),
 .s 27 (.m 28)],
 .cond (.t 27) 23 24,
 .reg [.s 29 (.m 0),
 .s 30 (.f 113 [(.t 29)]),
 .s 31 (.a 9 5),
 .n (.store 1 (.t 31) (.t 30))],
 .skip,
 .seq 26 27,
 .reg [.s 32 (.load (some 19) (.t 5)),
 .n (.store 19 (.t 4) (.t 32))],
 .ret]⟩
def F122 : FT := ⟨23, 2, [.cell 4 (some 19)],
 [.seq 1 2,
 .reg [.s 4 (.alloc 28 Z0)],
 .seq 3 4,
 .reg [.s 6 (.m 1),
 .s 7 (.build Z0 [(0, 1, (.i 7)), (1, 1, (.t 6))]),
 .s 5 (.alloc 28 Z0),
 .n (.store 19 (.t 5) (.t 7))],
 .seq 5 10,
 .seq 6 7,
 .reg [.s 8 (.m 1),
 .s 9 (.bin .neq (.t 8) (.w [109, 97, 115, 116, 101, 114]))],
 .cond (.t 9) 8 9,
 .reg [.s 10 (.m 0),
 .s 11 (.f 111 [(.t 10)]),
 .s 12 (.a 4 5),
 .n (.store 1 (.t 12) (.t 11))],
 .skip,
 .seq 11 12,
 .reg [.s 13 (.m 0),
 .s 14 (.bslice 9 1 [(.w [97, 116])]),
 .s 15 (.f 109 [(.t 13), (.t 14)])],
 .seq 13 14,
 .reg [.s 16 (.m 0),
 .s 17 (.f 112 [(.t 16)]),
 .s 18 (.a 7 5),
 .n (.store 1 (.t 18) (.t 17))],
 .seq 15 16,
 .reg [.s 19 (.m 0),
 .s 20 (.f 113 [(.t 19)]),
 .s 21 (.a 9 5),
 .n (.store 1 (.t 21) (.t 20))],
 .seq 17 18,
 .reg [.s 22 (.load (some 19) (.t 5)),
 .n (.store 19 (.t 4) (.t 22))],
 .ret]⟩
def F123 : FT := ⟨26, 2, [.cell 4 (some 19)],
 [.seq 1 2,
 .reg [.s 4 (.alloc 28 Z0)],
 .seq 3 4,
 .reg [.s 6 (.m 1),
 .s 7 (.m 0),
 .s 8 (.f 111 [(.t 7)]),
 .s 9 (.build Z0 [(0, 1, (.i 8)), (1, 1, (.t 6)), (4, 1, (.t 8))]),
 .s 5 (.alloc 28 Z0),
 .n (.store 19 (.t 5) (.t 9))],
 .seq 5 12,
 .seq 6 7,
 .reg [.s 10 (.m 1),
 .s 11 (.bin .eql (.t 10) (.w [115, 116, 111, 112]))],
 .cond (.t 11) 8 11,
 .seq 9 10,
 .reg [.s 12 (.load (some 19) (.t 5)),
 .n (.store 19 (.t 4) (.t 12))],
 .ret,
 .skip,
 .seq 13 22,
 .seq 14 15,
 .reg [.s 13 (.m 0),
 .s 14 (.bslice 9 1 [(.w [111, 110]), (.w [97, 116])]),
 .s 15 (.f 109 [(.t 13), (.t 14)]),
 .s 16 (.bin .eql (.t 15) (.w [111, 110]))],
 .cond (.t 16) 16 21,
 .seq 17 18,
 .reg [.s 17 (.m 0),
 .s 18 (.f 45 [(.t 17)]),
 .s 19 (.a 5 5),
 .n (.store 1 (.t 19) (.t 18))],
 .seq 19 20,
 .reg [.s 20 (.load (some 19) (.t 5)),
 .n (.store 19 (.t 4) (.t 20))],
 .ret,
 .skip,
 .seq 23 24,
 .reg [.s 21 (.m 0),
 .s 22 (.f 141 [(.t 21), (.i 400)]),
 .s 23 (.a 1 5),
 .n (.store 1 (.t 23) (.w [115, 112, 101, 101, 100])),
 .s 24 (.a 7 5),
 .n (.store 1 (.t 24) (.t 22))],
 .seq 25 26,
 .reg [.s 25 (.load (some 19) (.t 5)),
 .n (.store 19 (.t 4) (.t 25))],
 .ret]⟩
def F124 : FT := ⟨7, 2, [.cell 4 (some 19)],
 [.seq 1 2,
 .reg [.s 4 (.alloc 28 Z0)],
 .seq 3 4,
 .reg [.s 5 (.m 1),
 .s 6 (.build Z0 [(0, 1, (.i 9)), (1, 1, (.t 5))]),
 .n (.store 19 (.t 4) (.t 6))],
 .ret]⟩
def F141 : FT := ⟨28, 2, [.tmp 4],
 [.seq 1 2,
 .reg [.s 4 (.mv (.i 0))],
 .seq 3 4,
 .reg [.s 7 (.m 0),
 .s 8 (.f 168 [(.t 7)]),
 .s 5 (.m 8)],
 .seq 5 10,
 .seq 6 7,
 .reg [.s 9 (.m 5),
 .s 10 (.f 36 [(.t 9)]),
 .s 11 (.un .not (.t 10))],
 .cond (.t 11) 8 9,
 .reg [.s 12 (.m 0),
 .s 13 (.f 63 [(.t 12), (.i 4)])],
 .skip,
 .seq 11 12,
 .reg [.s 14 (.m 5),
 .s 15 (.f 38 [(.t 14)]),
 .s 6 (.m 15)],
 .seq 13 18,
 .seq 14 15,
 .reg [.s 16 (.m 6),
 .s 17 (.bin .lss (.t 16) (.i 1)),
 .s 18 (.m 17),
 .x 19 (.m 6) 18,
 .x 20 (.m 1) 18,
 .x 21 (.bin .gtr (.t 19) (.t 20)) 18,
 .s 22 (.pick (.t 18) (.c (.bool true)) (.t 21))],
 .cond (.t 22) 16 17,
 .reg [.s 23 (.m 0),
 .s 24 (.f 63 [(.t 23), (.i 2)])],
 .skip,
 .seq 19 20,
 .reg [.s 25 (.m 0),
 .s 26 (.f 66 [(.t 25)])],
 .seq 21 22,
 .reg [.s 27 (.m 6),
 .s 4 (.m 27)],
 .ret]⟩
def F142 : FT := ⟨19, 3, [.tmp 6],
 [.seq 1 2,
 .reg [.s 6 (.mv (.c (.bool false)))],
 .seq 3 4,
 .reg [.s 7 (.m 0),
 .s 8 (.f 62 [(.t 7)]),
 .s 9 (.fld none 0 (.t 8)),
 .s 10 (.m 1),
 .s 11 (.bin .eql (.t 9) (.t 10)),
 .s 12 (.m 11),
 .y 13 (.m 0) 12,
 .y 14 (.f 62 [(.t 13)]) 12,
 .y 15 (.fld none 1 (.t 14)) 12,
 .y 16 (.m 2) 12,
 .y 17 (.bin .eql (.t 15) (.t 16)) 12,
 .s 18 (.pick (.t 12) (.t 17) (.c (.bool false))),
 .s 6 (.m 18)],
 .ret]⟩
def F168 : FT := ⟨12, 1, [.tmp 2],
 [.seq 1 2,
 .reg [.s 2 (.mv (.w []))],
 .seq 3 8,
 .seq 4 5,
 .reg [.s 3 (.m 0),
 .s 4 (.f 62 [(.t 3)]),
 .s 5 (.fld none 0 (.t 4)),
 .s 6 (.bin .neq (.t 5) (.i 1))],
 .cond (.t 6) 6 7,
 .reg [.s 7 (.m 0),
 .s 8 (.f 63 [(.t 7), (.i 4)])],
 .skip,
 .seq 9 10,
 .reg [.s 9 (.m 0),
 .s 10 (.f 62 [(.t 9)]),
 .s 11 (.fld none 1 (.t 10)),
 .s 2 (.m 11)],
 .ret]⟩
def F170 : FT := ⟨14, 2, [],
 [.seq 1 2,
 .reg [.s 4 (.m 1)],
 .block 0 3,
 .seq 4 5,
 .reg [.s 9 (.bin .eql (.t 4) (.i 0)),
 .s 8 (.m 9)],
 .cond (.t 8) 6 7,
 .skip,
 .seq 8 9,
 .reg [.s 11 (.bin .eql (.t 4) (.i 3)),
 .s 10 (.m 11)],
 .cond (.t 10) 10 11,
 .reg [.s 12 (.m 0),
 .s 13 (.f 63 [(.t 12), (.i 4)])],
 .reg [.s 5 (.m 0),
 .s 6 (.m 1),
 .s 7 (.f 63 [(.t 5), (.t 6)])]]⟩
def F171 : FT := ⟨16, 2, [],
 [.seq 1 2,
 .reg [.s 4 (.m 1),
 .s 5 (.m 0),
 .s 6 (.f 111 [(.t 5)]),
 .s 7 (.k 4),
 .s 8 (.a 4 7),
 .n (.store 1 (.t 8) (.t 6))],
 .seq 3 4,
 .reg [.s 9 (.m 0),
 .s 10 (.f 174 [(.t 9)])],
 .reg [.s 11 (.m 1),
 .s 12 (.m 0),
 .s 13 (.f 175 [(.t 12)]),
 .s 14 (.k 11),
 .s 15 (.a 3 14),
 .n (.store 1 (.t 15) (.t 13))]]⟩
def F172 : FT := ⟨54, 1, [.cell 2 (some 7)],
 [.seq 1 2,
 .reg [.s 2 (.alloc 25 Z1)],
 .seq 3 4,
 .reg [.s 8 (.m 0),
 .s 9 (.f 168 [(.t 8)]),
 .s 10 (.f 35 [(.t 9), (.w [46])]),
 .s 7 (.m 10),
 .s 11 (.ext 0 (.t 7)),
 .s 12 (.ext 1 (.t 7)),
 .s 13 (.ext 2 (.t 7)),
 .s 3 (.m 11),
 .s 4 (.m 12),
 .s 5 (.m 13)],
 .seq 5 10,
 .seq 6 7,
 .reg [.s 14 (.m 5),
 .s 15 (.un .not (.t 14))],
 .cond (.t 15) 8 9,
 .reg [.s 4 (.mv (.w [49]))],
 .skip,
 .seq 11 16,
 .seq 12 13,
 .reg [.s 16 (.m 3),
 .s 17 (.f 36 [(.t 16)]),
 .s 18 (.un .not (.t 17)),
 .s 19 (.m 18),
 .x 20 (.m 4) 19,
 .x 21 (.f 36 [(.t 20)]) 19,
 .x 22 (.un .not (.t 21)) 19,
 .s 23 (.pick (.t 19) (.c (.bool true)) (.t 22))],
 .cond (.t 23) 14 15,
 .reg [.s 24 (.m 0),
 .s 25 (.f 63 [(.t 24), (.i 4)])],
 .skip,
 .seq 17 18,
 .reg [.s 26 (.m 3),
 .s 27 (.f 38 [(.t 26)]),
 .s 28 (.m 4),
 .s 29 (.f 38 [(.t 28)]),
 .s 30 (.build Z1 [(0, 1, (.t 27)), (1, 1, (.t 29))]),
 .s 6 (.alloc 25 Z1),
 .n (.store 7 (.t 6) (.t 30))],
 .seq 19 24,
 .seq 20 21,
 .reg [.s 31 (.a 0 6),
 .s 32 (.l 31),
 .s 33 (.bin .lss (.t 32) (.i 1)),
 .s 34 (.m 33),
 .x 35 (.a 0 6) 34,
 .x 36 (.l 35) 34,
 .x 37 (.bin .gtr (.t 36) (.i 999)) 34,
 .s 38 (.pick (.t 34) (.c (.bool true)) (.t 37)),
 .s 39 (.m 38),
 .x 40 (.a 1 6) 39,
 .x 41 (.l 40) 39,
 .x 42 (.bin .lss (.t 41) (.i 1)) 39,
 .s 43 (.pick (.t 39) (.c (.bool true)) (.t 42)),
 .s 44 (.m 43),
 .x 45 (.a 1 6) 44,
 .x 46 (.l 45) 44,
 .x 47 (.bin .gtr (.t 46) (.i 64)) 44,
 .s 48 (.pick (.t 44) (.c (.bool true)) (.t 47))],
 .cond (.t 48) 22 23,
 .reg [.s 49 (.m 0),
 .s 50 (.f 63 [(.t 49), (.i 2)])],
 .skip,
 .seq 25 26,
 .reg [.s 51 (.m 0),
 .s 52 (.f 66 [(.t 51)])],
 .seq 27 28,
 .reg [.s 53 (.load (some 7) (.t 6)),
 .n (.store 7 (.t 2) (.t 53))],
 .ret]⟩
def F173 : FT := ⟨24, 1, [.tmp 2],
 [.seq 1 2,
 .reg [.s 2 (.mv (.w []))],
 .seq 3 8,
 .seq 4 5,
 .reg [.s 3 (.m 0),
 .s 4 (.f 62 [(.t 3)]),
 .s 5 (.fld none 0 (.t 4)),
 .s 6 (.bin .neq (.t 5) (.i 0))],
 .cond (.t 6) 6 7,
 .reg [.s 7 (.m 0),
 .s 8 (.f 63 [(.t 7), (.i 4)])],
 .skip,
 .seq 9 21,
 .seq 10 11,
 .reg [.s 9 (.m 0),
 .s 10 (.f 62 [(.t 9)]),
 .s 11 (.fld none 1 (.t 10)),
 .s 12 (.f 207 [(.t 11)])],
 .block 0 12,
 .seq 13 14,
 .reg [.s 14 (.bin .eql (.t 12) (.i 8)),
 .s 13 (.m 14)],
 .cond (.t 13) 15 16,
 .reg [.s 15 (.m 0),
 .s 16 (.f 63 [(.t 15), (.i 4)])],
 .seq 17 18,
 .reg [.s 18 (.bin .eql (.t 12) (.i 13)),
 .s 17 (.m 18)],
 .cond (.t 17) 19 20,
 .reg [.s 19 (.m 0),
 .s 20 (.f 63 [(.t 19), (.i 8)])],
 .skip,
 .seq 22 23,
 .reg [.s 21 (.m 0),
 .s 22 (.f 66 [(.t 21)]),
 .s 23 (.fld none 1 (.t 22)),
 .s 2 (.m 23)],
 .ret]⟩
def F174 : FT := ⟨7, 1, [],
 [.seq 1 2,
 .reg [.s 2 (.m 0),
 .s 3 (.f 91 [(.t 2), (.w [47])]),
 .s 4 (.un .not (.t 3))],
 .cond (.t 4) 3 4,
 .reg [.s 5 (.m 0),
 .s 6 (.f 63 [(.t 5), (.i 4)])],
 .skip]⟩
def F175 : FT := ⟨11, 1, [.tmp 2],
 [.seq 1 2,
 .reg [.s 2 (.mv (.w []))],
 .seq 3 4,
 .reg [.s 3 (.m 0),
 .s 4 (.m 0),
 .s 5 (.f 168 [(.t 4)]),
 .s 6 (.f 208 [(.t 5)]),
 .s 7 (.f 170 [(.t 3), (.t 6)])],
 .seq 5 6,
 .reg [.s 8 (.m 0),
 .s 9 (.f 66 [(.t 8)]),
 .s 10 (.fld none 1 (.t 9)),
 .s 2 (.m 10)],
 .ret]⟩
def F27 : FT := ⟨36, 1, [.cell 2 (some 19)],
 [.seq 1 2,
 .reg [.s 2 (.alloc 28 Z0)],
 .seq 3 4,
 .reg [.s 6 (.m 0),
 .s 7 (.f 62 [(.t 6)]),
 .s 3 (.alloc 111 [(.i 0), (.str []), (.i 0)]),
 .n (.store 3 (.t 3) (.t 7))],
 .seq 5 12,
 .seq 6 7,
 .reg [.s 8 (.a 0 3),
 .s 9 (.l 8),
 .s 10 (.bin .neq (.t 9) (.i 0)),
 .s 11 (.m 10),
 .x 12 (.a 1 3) 11,
 .x 13 (.l 12) 11,
 .x 14 (.bin .eql (.t 13) (.w [103, 114, 111, 117, 112])) 11,
 .s 15 (.pick (.t 11) (.c (.bool true)) (.t 14))],
 .cond (.t 15) 8 11,
 .seq 9 10,
 .reg [.s 16 (.m 0),
 .s 17 (.f 64 [(.t 16)]),
 .n (.store 19 (.t 2) (.t 17))],
 .ret,
 .skip,
 .seq 13 14,
 .greg [[], [], [], [], [false, false, false, false], [], [], [], [], []] [.s 19 (.m 0),
 .s 20 (.f 65 [(.t 19)]),
 .s 21 (.a 1 3),
 .s 22 (.l 21),
 .s 23 (.act (.look .s .nilf true) [(.t 20), (.t 22)]),
 .s 18 (.m 23),
 .s 24 (.ext 0 (.t 18)),
 .s 25 (.ext 1 (.t 18)),
 .s 4 (.m 24),
 .s 5 (.m 25)],
 .seq 15 20,
 .seq 16 17,
 .reg [.s 26 (.m 5),
 .s 27 (.un .not (.t 26))],
 .cond (.t 27) 18 19,
 .reg [.s 28 (.m 0),
 .s 29 (.f 63 [(.t 28), (.i 4)])],
 .skip,
 .seq 21 22,
 .reg [.s 30 (.m 0),
 .s 31 (.f 66 [(.t 30)])],
 .seq 23 24,
 .reg [.s 32 (.m 4),
 .s 33 (.a 1 3),
 .s 34 (.l 33),
 .s 35 (.call (.t 32) [(.t 34)]),
 .n (.store 19 (.t 2) (.t 35))],
 .ret]⟩
def F45 : FT := ⟨24, 1, [.tmp 2],
 [.seq 1 2,
 .reg [.s 2 (.mv (.c .nils))],
 .seq 3 4,
 .reg [.s 4 (.m 0),
 .s 5 (.f 90 [(.t 4), (.i 0)]),
 .s 6 (.bslice 43 4 [(.t 5)]),
 .s 3 (.m 6)],
 .block 0 5,
 .loop 6,
 .block 1 7,
 .block 2 8,
 .seq 9 10,
 .reg [.s 9 (.m 0),
 .s 10 (.f 91 [(.t 9), (.w [43])]),
 .s 8 (.m 10)],
 .cond (.t 8) 11 12,
 .reg [.s 11 (.m 3),
 .s 12 (.m 0),
 .s 13 (.f 90 [(.t 12), (.i 0)]),
 .s 14 (.bslice 43 4 [(.t 13)]),
 .s 15 (.append 43 4 32 (.t 11) (.t 14)),
 .s 3 (.m 15)],
 .seq 13 14,
 .reg [.s 17 (.m 0),
 .s 18 (.f 91 [(.t 17), (.w [45])]),
 .s 16 (.m 18)],
 .cond (.t 16) 15 16,
 .reg [.s 19 (.m 3),
 .s 20 (.m 0),
 .s 21 (.f 90 [(.t 20), (.i 1)]),
 .s 22 (.bslice 43 4 [(.t 21)]),
 .s 23 (.append 43 4 32 (.t 19) (.t 22)),
 .s 3 (.m 23)],
 .seq 17 18,
 .reg [.s 7 (.m 3),
 .s 2 (.m 7)],
 .ret]⟩
def F13 : FT := ⟨31, 1, [.tmp 2, .tmp 3],
 [.seq 1 2,
 .reg [.s 2 (.mv (.i 0)),
 .s 3 (.mv (.i 0))],
 .seq 3 10,
 .seq 4 5,
 .reg [.s 8 (.m 0),
 .s 9 (.bin .eql (.t 8) (.w [])),
 .s 10 (.m 9),
 .x 11 (.m 0) 10,
 .x 12 (.f 23 [(.t 11), (.w [32])]) 10,
 .s 13 (.pick (.t 10) (.c (.bool true)) (.t 12))],
 .cond (.t 13) 6 9,
 .seq 7 8,
 .reg [.s 2 (.mv (.i 0)),
 .s 3 (.mv (.i 8))],
 .ret,
 .skip,
 .seq 11 20,
 .seq 12 13,
 .reg [.s 14 (.f 32 [(.w [105, 110, 116, 101, 110, 115, 105, 116, 121, 32, 112, 97, 110, 32, 116, 105, 108, 116, 32, 114, 101, 100, 32, 103, 114, 101, 101, 110, 32, 98, 108, 117, 101, 32, 119, 104, 105, 116, 101, 32, 97, 109, 98, 101, 114, 32, 99, 121, 97, 110, 32, 109, 97, 103, 101, 110, 116, 97, 32, 121, 101, 108, 108, 111, 119, 32, 103, 111, 98, 111, 32, 115, 104, 117, 116, 116, 101, 114, 32, 122, 111, 111, 109, 32, 102, 111, 99, 117, 115])]),
 .s 15 (.m 0),
 .s 16 (.f 31 [(.t 14), (.t 15)]),
 .s 4 (.m 16)],
 .seq 14 15,
 .reg [.s 17 (.m 4),
 .s 18 (.bin .geq (.t 17) (.i 0))],
 .cond (.t 18) 16 19,
 .seq 17 18,
 .reg [.s 19 (.m 4),
 .s 2 (.m 19),
 .s 3 (.mv (.i 0))],
 .ret,
 .skip,
 .seq 21 22,
 .reg [.s 20 (.act .mkmap []),
 .n (.act (.mset .s) [(.t 20), (.w [112, 111, 115, 105, 116, 105, 111, 110]), (.i 1)]),
 .n (.act (.mset .s) [(.t 20), (.w [99, 111, 108, 111, 117, 114]), (.i 2)]),
 .n (.act (.mset .s) [(.t 20), (.w [98, 101, 97, 109]), (.i 3)]),
 .s 21 (.m 20),
 .s 5 (.m 21)],
 .seq 23 32,
 .seq 24 25,
 .reg [.s 23 (.m 5),
 .s 24 (.m 0),
 .s 25 (.act (.look .s (.i 0) true) [(.t 23), (.t 24)]),
 .s 22 (.m 25),
 .s 26 (.ext 0 (.t 22)),
 .s 27 (.ext 1 (.t 22)),
 .s 6 (.m 26),
 .s 7 (.m 27)],
 .seq 26 27,
 .reg [.s 28 (.m 7)],
 .cond (.t 28) 28 31,
 .seq 29 30,
 .reg [.s 29 (.m 6),
 .s 30 (.bin .add (.i 15) (.t 29)),
 .s 2 (.m 30),
 .s 3 (.mv (.i 0))],
 .ret,
 .skip,
 .seq 33 34,
 .reg [.s 2 (.mv (.i 0)),
 .s 3 (.mv (.i 8))],
 .ret]⟩
def F15 : FT := ⟨47, 1, [.tmp 2, .tmp 3],
 [.seq 1 2,
 .reg [.s 2 (.mv (.i 0)),
 .s 3 (.mv (.i 0))],
 .seq 3 4,
 .reg [.s 9 (.m 0),
 .s 10 (.f 35 [(.t 9), (.w [46])]),
 .s 8 (.m 10),
 .s 11 (.ext 0 (.t 8)),
 .s 12 (.ext 1 (.t 8)),
 .s 13 (.ext 2 (.t 8)),
 .s 4 (.m 11),
 .s 5 (.m 12),
 .s 6 (.m 13)],
 .seq 5 12,
 .seq 6 7,
 .reg [.s 14 (.m 4),
 .s 15 (.f 36 [(.t 14)]),
 .s 16 (.un .not (.t 15)),
 .s 17 (.m 16),
 .x 18 (.m 6) 17,
 .x 19 (.m 18) 17,
 .y 20 (.m 5) 19,
 .y 21 (.bin .eql (.t 20) (.w [])) 19,
 .y 22 (.m 21) 19,
 .x 23 (.m 5) 22,
 .x 24 (.lens (.t 23)) 22,
 .x 25 (.bin .gtr (.t 24) (.i 3)) 22,
 .y 26 (.pick (.t 22) (.c (.bool true)) (.t 25)) 19,
 .y 27 (.m 26) 19,
 .x 28 (.m 5) 27,
 .x 29 (.f 37 [(.t 28), (.w [48, 49, 50, 51, 52, 53, 54, 55, 56, 57])]) 27,
 .x 30 (.bin .neq (.t 29) (.w [])) 27,
 .y 31 (.pick (.t 27) (.c (.bool true)) (.t 30)) 19,
 .x 32 (.pick (.t 19) (.t 31) (.c (.bool false))) 17,
 .s 33 (.pick (.t 17) (.c (.bool true)) (.t 32))],
 .cond (.t 33) 8 11,
 .seq 9 10,
 .reg [.s 2 (.mv (.i 0)),
 .s 3 (.mv (.i 3))],
 .ret,
 .skip,
 .seq 13 14,
 .dreg 11 [.s 34 (.m 4),
 .s 35 (.f 38 [(.t 34)]),
 .s 36 (.bin .mul (.i 1000) (.t 35)),
 .s 37 (.m 5),
 .s 38 (.bin .add (.t 37) (.w [48, 48, 48])),
 .s 39 (.slices (.t 38) none (some (.i 3))),
 .s 40 (.bin .add (.w [49]) (.t 39)),
 .s 41 (.f 38 [(.t 40)]),
 .s 42 (.bin .add (.t 36) (.t 41)),
 .s 43 (.bin .sub (.t 42) (.i 1000)),
 .s 7 (.m 43)],
 .seq 15 22,
 .seq 16 17,
 .reg [.s 44 (.m 7),
 .s 45 (.bin .gtr (.t 44) (.i 10000000))],
 .cond (.t 45) 18 21,
 .seq 19 20,
 .reg [.s 2 (.mv (.i 0)),
 .s 3 (.mv (.i 2))],
 .ret,
 .skip,
 .seq 23 24,
 .reg [.s 46 (.m 7),
 .s 2 (.m 46),
 .s 3 (.mv (.i 0))],
 .ret]⟩
def F36 : FT := ⟨20, 1, [.tmp 2],
 [.seq 1 2,
 .reg [.s 2 (.mv (.c (.bool false)))],
 .seq 3 4,
 .reg [.s 3 (.m 0),
 .s 4 (.bin .neq (.t 3) (.w [])),
 .s 5 (.m 4),
 .y 6 (.m 0) 5,
 .y 7 (.f 37 [(.t 6), (.w [48, 49, 50, 51, 52, 53, 54, 55, 56, 57])]) 5,
 .y 8 (.bin .eql (.t 7) (.w [])) 5,
 .s 9 (.pick (.t 5) (.t 8) (.c (.bool false))),
 .s 10 (.m 9),
 .y 11 (.m 0) 10,
 .y 12 (.lens (.t 11)) 10,
 .y 13 (.bin .eql (.t 12) (.i 1)) 10,
 .y 14 (.m 13) 10,
 .x 15 (.m 0) 14,
 .x 16 (.ichr (.t 15) (.i 0)) 14,
 .x 17 (.bin .neq (.t 16) (.c (.int .u8 48))) 14,
 .y 18 (.pick (.t 14) (.c (.bool true)) (.t 17)) 10,
 .s 19 (.pick (.t 10) (.t 18) (.c (.bool false))),
 .s 2 (.m 19)],
 .ret]⟩
def F38 : FT := ⟨14, 1, [.tmp 2],
 [.seq 1 2,
 .reg [.s 2 (.mv (.i 0))],
 .seq 3 4,
 .reg [.s 6 (.m 0),
 .s 7 (.f 87 [(.t 6)]),
 .s 5 (.m 7),
 .s 8 (.ext 0 (.t 5)),
 .s 9 (.ext 1 (.t 5)),
 .s 3 (.m 8),
 .s 4 (.m 9)],
 .seq 5 12,
 .seq 6 7,
 .reg [.s 10 (.m 4),
 .s 11 (.gen (.eqi true) [(.t 10)])],
 .cond (.t 11) 8 11,
 .seq 9 10,
 .reg [.s 2 (.mv (.i 1099511627776))],
 .ret,
 .skip,
 .seq 13 14,
 .reg [.s 12 (.m 3),
 .s 13 (.gen .mn [(.t 12), (.i 1099511627776)]),
 .s 2 (.m 13)],
 .ret]⟩
def F31 : FT := ⟨19, 2, [.tmp 4],
 [.seq 1 2,
 .reg [.s 4 (.mv (.i 0))],
 .seq 3 25,
 .seq 4 5,
 .reg [.s 6 (.m 0),
 .s 7 (.len (.t 6)),
 .s 8 (.mv (.i 0))],
 .block 0 6,
 .loop 7,
 .seq 8 9,
 .reg [.s 9 (.bin .lss (.t 8) (.t 7))],
 .seq 10 13,
 .cond (.t 9) 11 12,
 .skip,
 .exit 0,
 .seq 14 24,
 .block 1 15,
 .seq 16 17,
 .reg [.s 10 (.m 8),
 .s 5 (.m 10)],
 .seq 18 19,
 .reg [.s 11 (.m 1),
 .s 12 (.m 0),
 .s 13 (.m 5),
 .s 14 (.iadr 1 (.t 12) (.t 13)),
 .s 15 (.l 14),
 .s 16 (.bin .eql (.t 11) (.t 15))],
 .cond (.t 16) 20 23,
 .seq 21 22,
 .reg [.s 17 (.m 5),
 .s 4 (.m 17)],
 .ret,
 .skip,
 .reg [.s 18 (.bin .add (.t 8) (.i 1)),
 .s 8 (.m 18)],
 .seq 26 27,
 .reg [.s 4 (.mv (.i (-1)))],
 .ret]⟩
def F83 : FT := ⟨23, 2, [.tmp 4, .tmp 5, .tmp 6],
 [.seq 1 2,
 .reg [.s 4 (.mv (.w [])),
 .s 5 (.mv (.w [])),
 .s 6 (.mv (.c (.bool false)))],
 .seq 3 12,
 .seq 4 5,
 .reg [.s 8 (.m 0),
 .s 9 (.m 1),
 .s 10 (.f 98 [(.t 8), (.t 9)]),
 .s 7 (.m 10)],
 .seq 6 7,
 .reg [.s 11 (.m 7),
 .s 12 (.bin .geq (.t 11) (.i 0))],
 .cond (.t 12) 8 11,
 .seq 9 10,
 .dreg 12 [.s 13 (.m 0),
 .s 14 (.m 7),
 .s 15 (.slices (.t 13) none (some (.t 14))),
 .s 16 (.m 0),
 .s 17 (.m 7),
 .s 18 (.m 1),
 .s 19 (.lens (.t 18)),
 .s 20 (.bin .add (.t 17) (.t 19)),
 .s 21 (.slices (.t 16) (some (.t 20)) none),
 .s 4 (.m 15),
 .s 5 (.m 21),
 .s 6 (.mv (.c (.bool true)))],
 .ret,
 .skip,
 .seq 13 14,
 .reg [.s 22 (.m 0),
 .s 4 (.m 22),
 .s 5 (.mv (.w [])),
 .s 6 (.mv (.c (.bool false)))],
 .ret]⟩
def F35 : FT := ⟨13, 2, [.tmp 4, .tmp 5, .tmp 6],
 [.seq 1 2,
 .reg [.s 4 (.mv (.w [])),
 .s 5 (.mv (.w [])),
 .s 6 (.mv (.c (.bool false)))],
 .seq 3 4,
 .reg [.s 7 (.m 0),
 .s 8 (.m 1),
 .s 9 (.f 83 [(.t 7), (.t 8)]),
 .s 10 (.ext 0 (.t 9)),
 .s 11 (.ext 1 (.t 9)),
 .s 12 (.ext 2 (.t 9)),
 .s 4 (.m 10),
 .s 5 (.m 11),
 .s 6 (.m 12)],
 .ret]⟩
theorem F62_ok : compFn Tryz.prog 62 = some F62 := by kernel_rfl
theorem F63_ok : compFn Tryz.prog 63 = some F63 := by kernel_rfl
theorem F64_ok : compFn Tryz.prog 64 = some F64 := by kernel_rfl
theorem F65_ok : compFn Tryz.prog 65 = some F65 := by kernel_rfl
theorem F66_ok : compFn Tryz.prog 66 = some F66 := by kernel_rfl
theorem F90_ok : compFn Tryz.prog 90 = some F90 := by kernel_rfl
theorem F91_ok : compFn Tryz.prog 91 = some F91 := by kernel_rfl
theorem F108_ok : compFn Tryz.prog 108 = some F108 := by kernel_rfl
theorem F109_ok : compFn Tryz.prog 109 = some F109 := by kernel_rfl
theorem F110_ok : compFn Tryz.prog 110 = some F110 := by kernel_rfl
theorem F111_ok : compFn Tryz.prog 111 = some F111 := by kernel_rfl
theorem F112_ok : compFn Tryz.prog 112 = some F112 := by kernel_rfl
theorem F113_ok : compFn Tryz.prog 113 = some F113 := by kernel_rfl
theorem F114_ok : compFn Tryz.prog 114 = some F114 := by kernel_rfl
theorem F115_ok : compFn Tryz.prog 115 = some F115 := by kernel_rfl
theorem F116_ok : compFn Tryz.prog 116 = some F116 := by kernel_rfl
theorem F117_ok : compFn Tryz.prog 117 = some F117 := by kernel_rfl
theorem F118_ok : compFn Tryz.prog 118 = some F118 := by kernel_rfl
theorem F119_ok : compFn Tryz.prog 119 = some F119 := by kernel_rfl
theorem F120_ok : compFn Tryz.prog 120 = some F120 := by kernel_rfl
theorem F121_ok : compFn Tryz.prog 121 = some F121 := by kernel_rfl
theorem F122_ok : compFn Tryz.prog 122 = some F122 := by kernel_rfl
theorem F123_ok : compFn Tryz.prog 123 = some F123 := by kernel_rfl
theorem F124_ok : compFn Tryz.prog 124 = some F124 := by kernel_rfl
theorem F141_ok : compFn Tryz.prog 141 = some F141 := by kernel_rfl
theorem F142_ok : compFn Tryz.prog 142 = some F142 := by kernel_rfl
theorem F168_ok : compFn Tryz.prog 168 = some F168 := by kernel_rfl
theorem F170_ok : compFn Tryz.prog 170 = some F170 := by kernel_rfl
theorem F171_ok : compFn Tryz.prog 171 = some F171 := by kernel_rfl
theorem F172_ok : compFn Tryz.prog 172 = some F172 := by kernel_rfl
theorem F173_ok : compFn Tryz.prog 173 = some F173 := by kernel_rfl
theorem F174_ok : compFn Tryz.prog 174 = some F174 := by kernel_rfl
theorem F175_ok : compFn Tryz.prog 175 = some F175 := by kernel_rfl
theorem F27_ok : compFn Tryz.prog 27 = some F27 := by kernel_rfl
theorem F45_ok : compFn Tryz.prog 45 = some F45 := by kernel_rfl
theorem F13_ok : compFn Tryz.prog 13 = some F13 := by kernel_rfl
theorem F15_ok : compFn Tryz.prog 15 = some F15 := by kernel_rfl
theorem F36_ok : compFn Tryz.prog 36 = some F36 := by kernel_rfl
theorem F38_ok : compFn Tryz.prog 38 = some F38 := by kernel_rfl
theorem F31_ok : compFn Tryz.prog 31 = some F31 := by kernel_rfl
theorem F83_ok : compFn Tryz.prog 83 = some F83 := by kernel_rfl
theorem F35_ok : compFn Tryz.prog 35 = some F35 := by kernel_rfl
end Go.Proofs.YtnondemehfkalaaGreatDoor

namespace Go.Proofs
open Go.Shelf
def Tryz.laysC172_ren : Go.Shelf.Ren := ⟨fun | 172 => 87 | 244 => 135 | 245 => 136 | 247 => 188 | 279 => 189 | 280 => 190 | 281 => 191 | 282 => 192 | 287 => 214 | 316 => 215 | 171 => 17 | 205 => 216 | 321 => 227 | 322 => 228 | 243 => 43 | 246 => 88 | 283 => 137 | 284 => 138 | 285 => 139 | 286 => 140 | 129 => 194 | 317 => 193 | 318 => 195 | 319 => 196 | 320 => 197 | 337 => 217 | 338 => 218 | n => n, fun | 9 => 9 | 3 => 3 | 75 => 96 | 76 => 97 | 4 => 4 | 5 => 5 | 167 => 186 | 37 => 91 | 0 => 0 | 85 => 187 | 2 => 2 | 168 => 189 | 53 => 154 | 175 => 209 | 46 => 162 | 210 => 212 | 127 => 132 | 145 => 226 | 143 => 224 | 21 => 21 | 171 => 153 | 173 => 157 | 212 => 193 | 51 => 50 | 20 => 20 | 213 => 194 | 232 => 227 | 233 => 228 | 80 => 100 | n => n, fun | 15 => 7 | 16 => 8 | 17 => 4 | 18 => 9 | 19 => 10 | n => n⟩
theorem Tryz.laysC172 : Go.Proofs.LaysC.n172 Tryz.prog Tryz.laysC172_ren := {
 mixed := by kernel_rfl
 f129 := Tryz.func194.trans (congrArg some (by kernel_rfl))
 f171 := Tryz.func17.trans (congrArg some (by kernel_rfl))
 f172 := Tryz.func87.trans (congrArg some (by kernel_rfl))
 f205 := Tryz.func216.trans (congrArg some (by kernel_rfl))
 f243 := Tryz.func43.trans (congrArg some (by kernel_rfl))
 f244 := Tryz.func135.trans (congrArg some (by kernel_rfl))
 f245 := Tryz.func136.trans (congrArg some (by kernel_rfl))
 f246 := Tryz.func88.trans (congrArg some (by kernel_rfl))
 f247 := Tryz.func188.trans (congrArg some (by kernel_rfl))
 f279 := Tryz.func189.trans (congrArg some (by kernel_rfl))
 f280 := Tryz.func190.trans (congrArg some (by kernel_rfl))
 f281 := Tryz.func191.trans (congrArg some (by kernel_rfl))
 f282 := Tryz.func192.trans (congrArg some (by kernel_rfl))
 f283 := Tryz.func137.trans (congrArg some (by kernel_rfl))
 f284 := Tryz.func138.trans (congrArg some (by kernel_rfl))
 f285 := Tryz.func139.trans (congrArg some (by kernel_rfl))
 f286 := Tryz.func140.trans (congrArg some (by kernel_rfl))
 f287 := Tryz.func214.trans (congrArg some (by kernel_rfl))
 f316 := Tryz.func215.trans (congrArg some (by kernel_rfl))
 f317 := Tryz.func193.trans (congrArg some (by kernel_rfl))
 f318 := Tryz.func195.trans (congrArg some (by kernel_rfl))
 f319 := Tryz.func196.trans (congrArg some (by kernel_rfl))
 f320 := Tryz.func197.trans (congrArg some (by kernel_rfl))
 f321 := Tryz.func227.trans (congrArg some (by kernel_rfl))
 f322 := Tryz.func228.trans (congrArg some (by kernel_rfl))
 f337 := Tryz.func217.trans (congrArg some (by kernel_rfl))
 f338 := Tryz.func218.trans (congrArg some (by kernel_rfl))
 t0 := Tryz.underlying0
 a0 := Tryz.isAgg0
 z0 := Tryz.sizeOf0
 v0 := Tryz.zeroValue0
 t2 := Tryz.underlying2
 a2 := Tryz.isAgg2
 z2 := Tryz.sizeOf2
 v2 := Tryz.zeroValue2
 t3 := Tryz.underlying3
 a3 := Tryz.isAgg3
 z3 := Tryz.sizeOf3
 v3 := Tryz.zeroValue3
 t4 := Tryz.underlying4
 a4 := Tryz.isAgg4
 z4 := Tryz.sizeOf4
 v4 := Tryz.zeroValue4
 t5 := Tryz.underlying5
 a5 := Tryz.isAgg5
 z5 := Tryz.sizeOf5
 v5 := Tryz.zeroValue5
 t9 := Tryz.underlying9
 a9 := Tryz.isAgg9
 z9 := Tryz.sizeOf9
 v9 := Tryz.zeroValue9
 t20 := Tryz.underlying20
 a20 := Tryz.isAgg20
 z20 := Tryz.sizeOf20
 v20 := Tryz.zeroValue20
 t21 := Tryz.underlying21
 a21 := Tryz.isAgg21
 z21 := Tryz.sizeOf21
 v21 := Tryz.zeroValue21
 t37 := Tryz.underlying91
 a37 := Tryz.isAgg91
 z37 := Tryz.sizeOf91
 v37 := Tryz.zeroValue91
 t46 := Tryz.underlying162
 a46 := Tryz.isAgg162
 z46 := Tryz.sizeOf162
 v46 := Tryz.zeroValue162
 t51 := Tryz.underlying50
 a51 := Tryz.isAgg50
 z51 := Tryz.sizeOf50
 v51 := Tryz.zeroValue50
 t53 := Tryz.underlying154
 a53 := Tryz.isAgg154
 z53 := Tryz.sizeOf154
 v53 := Tryz.zeroValue154
 t75 := Tryz.underlying96
 a75 := Tryz.isAgg96
 z75 := Tryz.sizeOf96
 v75 := Tryz.zeroValue96
 t76 := Tryz.underlying97
 a76 := Tryz.isAgg97
 z76 := Tryz.sizeOf97
 v76 := Tryz.zeroValue97
 t85 := Tryz.underlying187
 a85 := Tryz.isAgg187
 z85 := Tryz.sizeOf187
 v85 := Tryz.zeroValue187
 t127 := Tryz.underlying132
 a127 := Tryz.isAgg132
 z127 := Tryz.sizeOf132
 v127 := Tryz.zeroValue132
 t143 := Tryz.underlying224
 a143 := Tryz.isAgg224
 z143 := Tryz.sizeOf224
 v143 := Tryz.zeroValue224
 t145 := Tryz.underlying226
 a145 := Tryz.isAgg226
 z145 := Tryz.sizeOf226
 v145 := Tryz.zeroValue226
 t167 := Tryz.underlying186
 a167 := Tryz.isAgg186
 z167 := Tryz.sizeOf186
 v167 := Tryz.zeroValue186
 t168 := Tryz.underlying189
 a168 := Tryz.isAgg189
 z168 := Tryz.sizeOf189
 v168 := Tryz.zeroValue189
 t171 := Tryz.underlying153
 a171 := Tryz.isAgg153
 z171 := Tryz.sizeOf153
 v171 := Tryz.zeroValue153
 t173 := Tryz.underlying157
 a173 := Tryz.isAgg157
 z173 := Tryz.sizeOf157
 v173 := Tryz.zeroValue157
 t175 := Tryz.underlying209
 a175 := Tryz.isAgg209
 z175 := Tryz.sizeOf209
 v175 := Tryz.zeroValue209
 t210 := Tryz.underlying212
 a210 := Tryz.isAgg212
 z210 := Tryz.sizeOf212
 v210 := Tryz.zeroValue212
 t212 := Tryz.underlying193
 a212 := Tryz.isAgg193
 z212 := Tryz.sizeOf193
 v212 := Tryz.zeroValue193
 t213 := Tryz.underlying194
 a213 := Tryz.isAgg194
 z213 := Tryz.sizeOf194
 t232 := Tryz.underlying227
 a232 := Tryz.isAgg227
 z232 := Tryz.sizeOf227
 v232 := Tryz.zeroValue227
 t233 := Tryz.underlying228
 a233 := Tryz.isAgg228
 z233 := Tryz.sizeOf228
 v233 := Tryz.zeroValue228
 g15 := by kernel_rfl
 g16 := by kernel_rfl
 g17 := by kernel_rfl
 g18 := by kernel_rfl
 g19 := by kernel_rfl
 t80 := Tryz.underlying100
 a80 := Tryz.isAgg100
 z80 := Tryz.sizeOf100
 v80 := Tryz.zeroValue100
 i0 := by kernel_rfl
 i2 := by kernel_rfl
 i3 := by kernel_rfl
 i4 := by kernel_rfl
 i5 := by kernel_rfl
 i9 := by kernel_rfl
 i20 := by kernel_rfl
 i21 := by kernel_rfl
 i37 := by kernel_rfl
 i46 := by kernel_rfl
 i51 := by kernel_rfl
 i53 := by kernel_rfl
 i75 := by kernel_rfl
 i76 := by kernel_rfl
 i80 := by kernel_rfl
 i85 := by kernel_rfl
 i127 := by kernel_rfl
 i143 := by kernel_rfl
 i145 := by kernel_rfl
 i167 := by kernel_rfl
 i168 := by kernel_rfl
 i171 := by kernel_rfl
 i173 := by kernel_rfl
 i175 := by kernel_rfl
 i210 := by kernel_rfl
 i212 := by kernel_rfl
 i232 := by kernel_rfl
 i233 := by kernel_rfl
 m15 := by kernel_rfl
 m16 := by kernel_rfl
 m17 := by kernel_rfl
 m18 := by kernel_rfl
 m19 := by kernel_rfl
 c0 := by kernel_rfl
 c2 := by kernel_rfl
 c3 := by kernel_rfl
 c4 := by kernel_rfl
 c5 := by kernel_rfl
 c9 := by kernel_rfl
 c20 := by kernel_rfl
 c21 := by kernel_rfl
 c37 := by kernel_rfl
 c46 := by kernel_rfl
 c51 := by kernel_rfl
 c53 := by kernel_rfl
 c75 := by kernel_rfl
 c76 := by kernel_rfl
 c80 := by kernel_rfl
 c85 := by kernel_rfl
 c127 := by kernel_rfl
 c143 := by kernel_rfl
 c145 := by kernel_rfl
 c167 := by kernel_rfl
 c168 := by kernel_rfl
 c171 := by kernel_rfl
 c173 := by kernel_rfl
 c175 := by kernel_rfl
 c210 := by kernel_rfl
 c212 := by kernel_rfl
 c213 := by kernel_rfl
 c232 := by kernel_rfl
 c233 := by kernel_rfl }
open Go.RowKit in
theorem Tryz.strconv_Atoi_ok (s : ByteArray) (hmax : s.size ≤ 9223372036854775806) (v : Int) (h : Lib.atoiAll s.data.toList = .ok v) (w : World) :
  Calls Tryz.prog 87 #[.string s] w fun e w' => e = .returned (.tuple #[.int .i64 v, .nilIface]) ∧ (w' = w ∨ ∃ t, w' = Lib.bytesWorld w 5 t) := Any.strconv_Atoi_ok Tryz.laysC172 s hmax v h w
open Go.RowKit in
theorem Tryz.strconv_Atoi_range (s : ByteArray) (hlim : s.size ≤ 281474976710656) (h : Lib.atoiAll s.data.toList = .range) (ev : Value) (w : World) (hv : w.cell? ⟨8, 0, none⟩ = some ev) (hev : ev = .nilIface ∨ ∃ te pe, ev = .iface te pe) :
  Calls Tryz.prog 87 #[.string s] w fun e w' => ∃ N, e = .returned (.tuple #[.int .i64 (Lib.atoiSat s.data.toList), .iface 189 (.pointer (some ⟨N, 0, none⟩))]) ∧ w.heap.size ≤ N ∧ w'.heap[N]? = some (.cells #[.string ⟨#[65, 116, 111, 105]⟩, .string s, ev] 212 (0, 0)) ∧ Below w.heap.size w w' := Any.strconv_Atoi_range Tryz.laysC172 s hlim h ev w hv hev
def Tryz.lays219_ren : Go.Shelf.Ren := ⟨fun | 219 => 98 | 217 => 145 | 225 => 146 | 224 => 147 | 267 => 148 | 266 => 200 | 314 => 201 | n => n, fun | 9 => 9 | 3 => 3 | 4 => 4 | 5 => 5 | 46 => 162 | 146 => 197 | 51 => 50 | n => n, fun | 1 => 2 | n => n⟩
theorem Tryz.lays219 : Go.Proofs.Lays.n219 Tryz.prog Tryz.lays219_ren := {
 mixed := by kernel_rfl
 f217 := Tryz.func145.trans (congrArg some (by kernel_rfl))
 f219 := Tryz.func98.trans (congrArg some (by kernel_rfl))
 f224 := Tryz.func147.trans (congrArg some (by kernel_rfl))
 f225 := Tryz.func146.trans (congrArg some (by kernel_rfl))
 f266 := Tryz.func200.trans (congrArg some (by kernel_rfl))
 f267 := Tryz.func148.trans (congrArg some (by kernel_rfl))
 f314 := Tryz.func201.trans (congrArg some (by kernel_rfl))
 t3 := Tryz.underlying3
 a3 := Tryz.isAgg3
 z3 := Tryz.sizeOf3
 v3 := Tryz.zeroValue3
 t4 := Tryz.underlying4
 a4 := Tryz.isAgg4
 z4 := Tryz.sizeOf4
 v4 := Tryz.zeroValue4
 t5 := Tryz.underlying5
 a5 := Tryz.isAgg5
 z5 := Tryz.sizeOf5
 v5 := Tryz.zeroValue5
 t9 := Tryz.underlying9
 a9 := Tryz.isAgg9
 z9 := Tryz.sizeOf9
 v9 := Tryz.zeroValue9
 t46 := Tryz.underlying162
 a46 := Tryz.isAgg162
 z46 := Tryz.sizeOf162
 v46 := Tryz.zeroValue162
 t51 := Tryz.underlying50
 a51 := Tryz.isAgg50
 z51 := Tryz.sizeOf50
 v51 := Tryz.zeroValue50
 t146 := Tryz.underlying197
 a146 := Tryz.isAgg197
 z146 := Tryz.sizeOf197
 v146 := Tryz.zeroValue197
 g1 := by kernel_rfl }
open Go.RowKit Go.Lib in
theorem Tryz.stringslite_Index_one (s : ByteArray) (c : UInt8) (w : World) :
  Calls Tryz.prog 98 #[.string s, .string ⟨#[c]⟩] w fun e w' => e = .returned (.int .i64 (Lib.indexByte s.data.toList c)) ∧ w' = w := Any.stringslite_Index_one Tryz.lays219 s c w
def Tryz.lays144_ren : Go.Shelf.Ren := ⟨fun | 144 => 23 | 143 => 52 | 219 => 98 | 217 => 145 | 225 => 146 | 224 => 147 | 267 => 148 | 266 => 200 | 314 => 201 | n => n, fun | 9 => 9 | 4 => 4 | 3 => 3 | 5 => 5 | 46 => 162 | 146 => 197 | 51 => 50 | n => n, fun | 1 => 2 | n => n⟩
theorem Tryz.lays144 : Go.Proofs.Lays.n144 Tryz.prog Tryz.lays144_ren := {
 mixed := by kernel_rfl
 f143 := Tryz.func52.trans (congrArg some (by kernel_rfl))
 f144 := Tryz.func23.trans (congrArg some (by kernel_rfl))
 f217 := Tryz.func145.trans (congrArg some (by kernel_rfl))
 f219 := Tryz.func98.trans (congrArg some (by kernel_rfl))
 f224 := Tryz.func147.trans (congrArg some (by kernel_rfl))
 f225 := Tryz.func146.trans (congrArg some (by kernel_rfl))
 f266 := Tryz.func200.trans (congrArg some (by kernel_rfl))
 f267 := Tryz.func148.trans (congrArg some (by kernel_rfl))
 f314 := Tryz.func201.trans (congrArg some (by kernel_rfl))
 t3 := Tryz.underlying3
 a3 := Tryz.isAgg3
 z3 := Tryz.sizeOf3
 v3 := Tryz.zeroValue3
 t4 := Tryz.underlying4
 a4 := Tryz.isAgg4
 z4 := Tryz.sizeOf4
 v4 := Tryz.zeroValue4
 t5 := Tryz.underlying5
 a5 := Tryz.isAgg5
 z5 := Tryz.sizeOf5
 v5 := Tryz.zeroValue5
 t9 := Tryz.underlying9
 a9 := Tryz.isAgg9
 z9 := Tryz.sizeOf9
 v9 := Tryz.zeroValue9
 t46 := Tryz.underlying162
 a46 := Tryz.isAgg162
 z46 := Tryz.sizeOf162
 v46 := Tryz.zeroValue162
 t51 := Tryz.underlying50
 a51 := Tryz.isAgg50
 z51 := Tryz.sizeOf50
 v51 := Tryz.zeroValue50
 t146 := Tryz.underlying197
 a146 := Tryz.isAgg197
 z146 := Tryz.sizeOf197
 v146 := Tryz.zeroValue197
 g1 := by kernel_rfl }
open Go.RowKit Go.Lib in
theorem Tryz.strings_Contains_one (s : ByteArray) (c : UInt8) (w : World) :
  Calls Tryz.prog 23 #[.string s, .string ⟨#[c]⟩] w fun e w' => e = .returned (.bool (decide (0 ≤ Lib.indexByte s.data.toList c))) ∧ w' = w := Any.strings_Contains_one Tryz.lays144 s c w
def Tryz.lays315_ren : Go.Shelf.Ren := ⟨fun | 315 => 233 | n => n, fun | 9 => 9 | 40 => 125 | 4 => 4 | 3 => 3 | 0 => 0 | 21 => 21 | n => n, fun | n => n⟩
theorem Tryz.lays315 : Go.Proofs.Lays.n315 Tryz.prog Tryz.lays315_ren := {
 mixed := by kernel_rfl
 f315 := Tryz.func233.trans (congrArg some (by kernel_rfl))
 t0 := Tryz.underlying0
 a0 := Tryz.isAgg0
 z0 := Tryz.sizeOf0
 v0 := Tryz.zeroValue0
 t3 := Tryz.underlying3
 a3 := Tryz.isAgg3
 z3 := Tryz.sizeOf3
 v3 := Tryz.zeroValue3
 t4 := Tryz.underlying4
 a4 := Tryz.isAgg4
 z4 := Tryz.sizeOf4
 v4 := Tryz.zeroValue4
 t9 := Tryz.underlying9
 a9 := Tryz.isAgg9
 z9 := Tryz.sizeOf9
 v9 := Tryz.zeroValue9
 t21 := Tryz.underlying21
 a21 := Tryz.isAgg21
 z21 := Tryz.sizeOf21
 v21 := Tryz.zeroValue21
 t40 := Tryz.underlying125
 a40 := Tryz.isAgg125
 z40 := Tryz.sizeOf125
 v40 := Tryz.zeroValue125 }
open Go.RowKit Go.Lib in
theorem Tryz.strings_indexFunc (g : Nat) (lb : Array Value) (eg : ∀ args w, (callFunc g args).run Tryz.prog w = .ok (.enter g args) w) (p : Nat → Bool) (truth : Bool) (s : ByteArray) (w : World) (hp : PredAt Tryz.prog g lb encR p w) :
  Calls Tryz.prog 233 #[.string s, .func (.func g) #[] lb, .bool truth] w fun e w' => e = .returned (.int .i64 (Lib.idxFunc p truth s)) ∧ Below w.heap.size w w' := Any.strings_indexFunc Tryz.lays315 g lb eg p truth s w hp
def Tryz.lays100_ren : Go.Shelf.Ren := ⟨fun | 100 => 225 | 207 => 94 | n => n, fun | 9 => 9 | 4 => 4 | 3 => 3 | n => n, fun | n => n⟩
theorem Tryz.lays100 : Go.Proofs.Lays.n100 Tryz.prog Tryz.lays100_ren := {
 mixed := by kernel_rfl
 f100 := Tryz.func225.trans (congrArg some (by kernel_rfl))
 f207 := Tryz.func94.trans (congrArg some (by kernel_rfl))
 t3 := Tryz.underlying3
 a3 := Tryz.isAgg3
 z3 := Tryz.sizeOf3
 v3 := Tryz.zeroValue3
 t4 := Tryz.underlying4
 a4 := Tryz.isAgg4
 z4 := Tryz.sizeOf4
 v4 := Tryz.zeroValue4
 t9 := Tryz.underlying9
 a9 := Tryz.isAgg9
 z9 := Tryz.sizeOf9
 v9 := Tryz.zeroValue9 }
open Go.RowKit Go.Lib in
theorem Tryz.strings_HasSuffix (s p : ByteArray) (w : World) (hs : s.size ≤ 9223372036854775807) :
  Calls Tryz.prog 225 #[.string s, .string p] w fun e w' => e = .returned (.bool (Lib.hasSuffix s.data.toList p.data.toList)) ∧ w' = w := Any.strings_HasSuffix Tryz.lays100 s p w hs
def Tryz.lays157_ren : Go.Shelf.Ren := ⟨fun | 157 => 32 | 229 => 81 | 199 => 82 | 261 => 134 | 311 => 186 | 312 => 187 | n => n, fun | 9 => 9 | 31 => 69 | 3 => 3 | 5 => 5 | 4 => 4 | 119 => 123 | 0 => 0 | 40 => 125 | 152 => 147 | 21 => 21 | 154 => 149 | 51 => 50 | 141 => 151 | 196 => 179 | 193 => 176 | 198 => 181 | 49 => 40 | 194 => 177 | 201 => 184 | 226 => 207 | 46 => 162 | 227 => 208 | n => n, fun | 0 => 0 | 6 => 1 | n => n⟩
theorem Tryz.lays157 : Go.Proofs.Lays.n157 Tryz.prog Tryz.lays157_ren := {
 mixed := by kernel_rfl
 f157 := Tryz.func32.trans (congrArg some (by kernel_rfl))
 f199 := Tryz.func82.trans (congrArg some (by kernel_rfl))
 f229 := Tryz.func81.trans (congrArg some (by kernel_rfl))
 f261 := Tryz.func134.trans (congrArg some (by kernel_rfl))
 f311 := Tryz.func186.trans (congrArg some (by kernel_rfl))
 f312 := Tryz.func187.trans (congrArg some (by kernel_rfl))
 t0 := Tryz.underlying0
 a0 := Tryz.isAgg0
 z0 := Tryz.sizeOf0
 v0 := Tryz.zeroValue0
 t3 := Tryz.underlying3
 a3 := Tryz.isAgg3
 z3 := Tryz.sizeOf3
 v3 := Tryz.zeroValue3
 t4 := Tryz.underlying4
 a4 := Tryz.isAgg4
 z4 := Tryz.sizeOf4
 v4 := Tryz.zeroValue4
 t5 := Tryz.underlying5
 a5 := Tryz.isAgg5
 z5 := Tryz.sizeOf5
 v5 := Tryz.zeroValue5
 t9 := Tryz.underlying9
 a9 := Tryz.isAgg9
 z9 := Tryz.sizeOf9
 v9 := Tryz.zeroValue9
 t21 := Tryz.underlying21
 a21 := Tryz.isAgg21
 z21 := Tryz.sizeOf21
 v21 := Tryz.zeroValue21
 t31 := Tryz.underlying69
 a31 := Tryz.isAgg69
 z31 := Tryz.sizeOf69
 v31 := Tryz.zeroValue69
 t40 := Tryz.underlying125
 a40 := Tryz.isAgg125
 z40 := Tryz.sizeOf125
 v40 := Tryz.zeroValue125
 t46 := Tryz.underlying162
 a46 := Tryz.isAgg162
 z46 := Tryz.sizeOf162
 v46 := Tryz.zeroValue162
 t49 := Tryz.underlying40
 a49 := Tryz.isAgg40
 z49 := Tryz.sizeOf40
 v49 := Tryz.zeroValue40
 t51 := Tryz.underlying50
 a51 := Tryz.isAgg50
 z51 := Tryz.sizeOf50
 v51 := Tryz.zeroValue50
 t119 := Tryz.underlying123
 a119 := Tryz.isAgg123
 z119 := Tryz.sizeOf123
 t141 := Tryz.underlying151
 a141 := Tryz.isAgg151
 z141 := Tryz.sizeOf151
 v141 := Tryz.zeroValue151
 t152 := Tryz.underlying147
 a152 := Tryz.isAgg147
 z152 := Tryz.sizeOf147
 v152 := Tryz.zeroValue147
 t154 := Tryz.underlying149
 a154 := Tryz.isAgg149
 z154 := Tryz.sizeOf149
 v154 := Tryz.zeroValue149
 t193 := Tryz.underlying176
 a193 := Tryz.isAgg176
 z193 := Tryz.sizeOf176
 v193 := Tryz.zeroValue176
 t194 := Tryz.underlying177
 a194 := Tryz.isAgg177
 z194 := Tryz.sizeOf177
 v194 := Tryz.zeroValue177
 t196 := Tryz.underlying179
 a196 := Tryz.isAgg179
 z196 := Tryz.sizeOf179
 v196 := Tryz.zeroValue179
 t198 := Tryz.underlying181
 a198 := Tryz.isAgg181
 z198 := Tryz.sizeOf181
 v198 := Tryz.zeroValue181
 t201 := Tryz.underlying184
 a201 := Tryz.isAgg184
 z201 := Tryz.sizeOf184
 v201 := Tryz.zeroValue184
 t226 := Tryz.underlying207
 a226 := Tryz.isAgg207
 z226 := Tryz.sizeOf207
 v226 := Tryz.zeroValue207
 t227 := Tryz.underlying208
 a227 := Tryz.isAgg208
 z227 := Tryz.sizeOf208
 v227 := Tryz.zeroValue208
 g0 := by kernel_rfl
 g6 := by kernel_rfl }
open Go.RowKit Go.Lib in
theorem Tryz.strings_Fields (s : ByteArray) (w : World) (hs : s.size < 4294967281) (hascii : ∀ (j : Nat) b, s.data.toList[j]? = some b → b.toNat < 128) (htab : Lib.TabIs Tryz.prog w "strings.asciiSpace" .u8 Lib.asciiSpaceTab) :
  Calls Tryz.prog 32 #[.string s] w fun e w' =>
   e = .returned (.slice (some ⟨w.heap.size, 0, none⟩) (Lib.fields s.data.toList).length (Lib.fields s.data.toList).length) ∧ w' = w.alloc (.cells ((Lib.fields s.data.toList).map fun l => Value.string ⟨l.toArray⟩).toArray 9) := Any.strings_Fields Tryz.lays157 (by kernel_rfl) (by kernel_rfl) s w hs hascii htab
def Tryz.lays227_ren : Go.Shelf.Ren := ⟨fun | 227 => 49 | n => n, fun | 9 => 9 | 116 => 83 | 4 => 4 | 0 => 0 | 3 => 3 | 5 => 5 | n => n, fun | n => n⟩
theorem Tryz.lays227 : Go.Proofs.Lays.n227 Tryz.prog Tryz.lays227_ren := {
 mixed := by kernel_rfl
 f227 := Tryz.func49.trans (congrArg some (by kernel_rfl))
 t0 := Tryz.underlying0
 a0 := Tryz.isAgg0
 z0 := Tryz.sizeOf0
 v0 := Tryz.zeroValue0
 t3 := Tryz.underlying3
 a3 := Tryz.isAgg3
 z3 := Tryz.sizeOf3
 v3 := Tryz.zeroValue3
 t4 := Tryz.underlying4
 a4 := Tryz.isAgg4
 z4 := Tryz.sizeOf4
 v4 := Tryz.zeroValue4
 t5 := Tryz.underlying5
 a5 := Tryz.isAgg5
 z5 := Tryz.sizeOf5
 v5 := Tryz.zeroValue5
 t9 := Tryz.underlying9
 a9 := Tryz.isAgg9
 z9 := Tryz.sizeOf9
 v9 := Tryz.zeroValue9
 t116 := Tryz.underlying83
 a116 := Tryz.isAgg83
 z116 := Tryz.sizeOf83 }
open Go.RowKit Go.Lib in
theorem Tryz.strings_makeASCIISet (hv116 : ∀ w, (zeroValue 83).run Tryz.prog w = .ok (.agg (Array.replicate 256 (.bool false))) w) (chars : ByteArray) (w : World) (hs : chars.size < 4294967281) (hascii : ∀ (j : Nat) b, chars.data.toList[j]? = some b → b.toNat < 128) :
  Calls Tryz.prog 49 #[.string chars] w fun e w' => e = .returned (.tuple #[.agg (Lib.setCells chars.data.toList), .bool true]) ∧ w' = w.alloc (.cells (Lib.setCells chars.data.toList) 83) := Any.strings_makeASCIISet Tryz.lays227 hv116 (by kernel_rfl) chars w hs hascii
end Go.Proofs

namespace Go.Proofs.YtnondemehfkalaaGreatDoor
open Go.Sha
open Nat renaming reduceEqDiff → ed, reduceLeDiff → ld
open Option renaming map_some → om
open Bool renaming false_eq_true → bf
structure GlOk (gl : List (Nat × Obj)) : Prop where
 err : ∃ cs T fz ev, (8, Obj.cells cs T fz) ∈ gl ∧ cs[0]? = some ev ∧ (ev = .nilIface ∨ ∃ te pe, ev = .iface te pe)
 spc : ∃ g T fz, Tryz.prog.globalNamed "strings.asciiSpace" = some g ∧ (g, Obj.cells (Lib.asciiSpaceTab.map fun z => Value.int .u8 z).toArray T fz) ∈ gl
def WfT : List Tok → Prop
 | [] => False
 | x :: r => (x.k = 3 ↔ r = []) ∧ (r ≠ [] → WfT r) ∧ x.t.length < 140737488355328 ∧ r.length < 500000
def hd : List Tok → Tok
 | [] => ⟨3, [], 0⟩
 | x :: _ => x
abbrev Rd (α : Type) := List Tok → Except (Int × Int) (α × List Tok)
def rOk {α : Type} (a : α) : Rd α := fun ts => .ok (a, ts)
def rNext {α β : Type} (m : Rd α) (f : α → Rd β) : Rd β := fun ts => match m ts with
 | .ok (a, ts') => f a ts'
 | .error e => .error e
def hdIs (k : Int) (t : List UInt8) (ts : List Tok) : Bool := (hd ts).k == k && (hd ts).t == t
theorem WfT.ne {ts : List Tok} (h : WfT ts) : ts ≠ [] := fun e => by rw [e] at h; exact h
theorem WfT.tail {ts : List Tok} (h : WfT ts) (hk : (hd ts).k ≠ 3) : WfT ts.tail := by
 cases ts with
 | nil => exact h.elim
 | cons x r => exact h.2.1 (fun e => hk (h.1.2 e))
theorem WfT.txt {ts : List Tok} (h : WfT ts) : (hd ts).t.length < 140737488355328 := by
 cases ts with
 | nil => exact h.elim
 | cons x r => exact h.2.2.1
theorem WfT.small {ts : List Tok} (h : WfT ts) : ts.length ≤ 500000 := by
 cases ts with
 | nil => exact h.elim
 | cons x r => have := h.2.2.2; simp only [List.length_cons]; omega
theorem WfT.get {ts : List Tok} (h : WfT ts) : ts[0]? = some (hd ts) := by
 cases ts with
 | nil => exact h.elim
 | cons x r => rfl
theorem WfT.len {ts : List Tok} (h : WfT ts) : 0 < ts.length := List.length_pos_iff.2 h.ne
def failV (at' e : Int) : V := .iface 106 (.agg [.int .i64 at', .int .i64 e])
def stR (st : St) (rid : Nat) (ts : List Tok) : St := st.put rid [.sl (ts.map tkV)]
def rdPost {α : Type} (m : Rd α) (enc : α → V) (st : St) (rid : Nat) (ts : List Tok) (r : VRes) (s : St) : Prop := match m ts with
 | .ok (a, ts') => r = .ret (enc a) ∧ s = stR st rid ts' ∧ WfT ts'
 | .error (at', e) => r = .pan (failV at' e) ∧ ∃ ts', s = stR st rid ts'
theorem stR_eq {st : St} {rid : Nat} {ts : List Tok} : stR st rid ts = ⟨st.nx, updM st.mem rid [.sl (ts.map tkV)], st.arr, st.x⟩ := @_root_.id (_ = _) rfl
theorem lookR {l : List (Nat × List V)} {i : Nat} {cs : List V} : Sha.look (updM l i cs) i = (Sha.look l i).map fun _ => cs := by rw [look_updM, if_pos rfl]
def RdC {α : Type} (f : FuncId) (args : List V) (m : Rd α) (enc : α → V) : Prop :=
 ∀ (st : St) (rid : Nat) (ts : List Tok), GlOk st.x.gl → WfT ts → Sha.look st.mem rid = some [.sl (ts.map tkV)] → VCalls Tryz.prog f (.ptr rid 0 :: args) st (rdPost m enc st rid ts)
theorem VCalls_snap {P : Program} {f : FuncId} {args args' : List V} {st : St} {R : VRes → St → Prop} (h : VCalls P f args' st R) (hd : mapO (snapA st) args = some args') : VCalls P f args st R := by
 rcases h with h | h
 ·exact .inl ⟨h.1, fun w A vs hs ha => h.2 w A vs hs (ha.snap hs hd)⟩
 ·exact .inr fun w A vs hs ha => h w A vs hs (ha.snap hs hd)
theorem rd_call {α : Type} {f : FuncId} {args args' : List V} {m : Rd α} {enc : α → V} (h : RdC f args' m enc) {st : St} {rid : Nat} {ts : List Tok} {K : VRes → St → Prop} (hs : mapO (snapA st) (.ptr rid 0 :: args) = some (.ptr rid 0 :: args'))
  (hg : GlOk st.x.gl) (hw : WfT ts) (hm : Sha.look st.mem rid = some [.sl (ts.map tkV)]) (hok : ∀ a ts', m ts = .ok (a, ts') → WfT ts' → K (.ret (enc a)) (stR st rid ts')) (herr : ∀ at' e ts', m ts = .error (at', e) → K (.pan (failV at' e)) (stR st rid ts')) :
  VCalls Tryz.prog f (.ptr rid 0 :: args) st K := by
 refine VCalls_snap (VCalls.mono (h st rid ts hg hw hm) (fun r s hr => ?_)) hs
 unfold rdPost at hr
 split at hr
 ·rename_i a ts' he
  obtain ⟨rfl, rfl, hw'⟩ := hr
  exact hok a ts' he hw'
 ·rename_i at' e he
  obtain ⟨rfl, ts', rfl⟩ := hr
  exact herr at' e ts' he
theorem wfR {st : St} (hwf : st.Wf) {rid : Nat} (ts : List Tok) : (stR st rid ts).Wf := hwf.put (by simp [V.bdL, V.bd, bdL_tk])
theorem finRd {α : Type} {m : Rd α} {enc : α → V} {res : List Res} {st st1 : St} {rid : Nat} {ts ts' : List Tok} {env : Env} {vs : List V} {a : α} (hwf : st.Wf) (h1 : resV env st1 res = some vs) (h2 : enc a = resOne vs ∨ snapV st1 (resOne vs) = some (enc a)) (hb : (enc a).bd st.nx = true)
  (hn : st.nx ≤ st1.nx) (hm : Sub st.nx st1.mem (stR st rid ts').mem) (ha : Sub st.nx st1.arr st.arr) (hx : ExSub st.nx st1.x st.x) (he : m ts = .ok (a, ts')) (hw : WfT ts') : finQ res st.nx (rdPost m enc st rid ts) .ret env st1 := by
 refine ⟨vs, h1, enc a, stR st rid ts', h2, hb, Weak.wf rfl hn hm ha hx (wfR hwf ts'), Nat.le_refl _, ?_⟩
 unfold rdPost
 rw [he]
 exact ⟨rfl, rfl, hw⟩
theorem finRe {α : Type} {m : Rd α} {enc : α → V} {res : List Res} {st st1 : St} {rid : Nat} {ts ts' : List Tok} {env : Env} {at' e : Int} (hwf : st.Wf) (he : m ts = .error (at', e)) (hn : st.nx ≤ st1.nx) (hm : Sub st.nx st1.mem (stR st rid ts').mem) (ha : Sub st.nx st1.arr st.arr) (hx : ExSub st.nx st1.x st.x) :
  finQ res st.nx (rdPost m enc st rid ts) (.pan (failV at' e)) env st1 := by
 refine ⟨stR st rid ts', by rfl, Weak.wf rfl hn hm ha hx (wfR hwf ts'), Nat.le_refl _, ?_⟩
 unfold rdPost
 rw [he]
 exact ⟨rfl, ts', rfl⟩
theorem stR_same {st : St} {rid : Nat} {ts : List Tok} (hm : Sha.look st.mem rid = some [.sl (ts.map tkV)]) : stR st rid ts = st := by
 rw [stR_eq, updM_same hm]
theorem next_v (st : St) (rid : Nat) (ts : List Tok) (hw : WfT ts) (hm : Sha.look st.mem rid = some [.sl (ts.map tkV)]) : VRet Tryz.prog 62 [.ptr rid 0] st (tkV (hd ts)) st := by
 have hg := hw.get
 have hl := hw.len
 refine vc F62_ok rfl (fun hwf => ?_)
 have e1 : (st.nx = rid) = False := eq_false (by have := (hwf.mem _ _ hm).1; omega)
 (repeat' first | ((first | refine go rfl rfl ?_ | (refine Fk.by_ ?_ ?_ <;> intro hc <;> try simp only [hc]) | refine storeK_eq rfl ?_ | with_reducible refine an ?_ ?_) <;> try simp only [hm, hg, hl, e1, cells_tkV, push_cast, ed, reduceCtorEq, ld]))
 all_goals refine finC (hwf) (by simp only [F62, push_cast, ed, reduceCtorEq, ld]; exact rfl) (by first | exact .inl rfl | (right; simp only [F62, push_cast, ed, reduceCtorEq, ld]; try rfl)) (by first | rfl | assumption) (by simp [(hwf).z])
theorem pass_v (st : St) (rid : Nat) (ts : List Tok) (hw : WfT ts) (hm : Sha.look st.mem rid = some [.sl (ts.map tkV)]) : VRet Tryz.prog 66 [.ptr rid 0] st (tkV (hd ts)) (stR st rid ts.tail) := by
 have hg := hw.get
 have hl := hw.len
 have hlt : (ts.map tkV).length = ts.length := by simp
 refine vc F66_ok rfl (fun hwf => ?_)
 have e1 : (st.nx = rid) = False := eq_false (by have := (hwf.mem _ _ hm).1; omega)
 have e2 : (st.nx + 1 = rid) = False := eq_false (by have := (hwf.mem _ _ hm).1; omega)
 have hle : 1 ≤ ts.length := hl
 have hdr : List.drop 1 (List.take ts.length (ts.map tkV)) = ts.tail.map tkV := by rw [List.take_of_length_le (by omega)]; simp
 have hw2 := wfR hwf (rid := rid) ts.tail
 rw [stR_eq] at hw2 ⊢
 (repeat' first | ((first | refine go rfl rfl ?_ | (refine Fk.by_ ?_ ?_ <;> intro hc <;> try simp only [hc]) | refine storeK_eq rfl ?_ | with_reducible refine an ?_ ?_) <;> try simp only [hm, hg, hl, e1, e2, cells_tkV, all_tk, hlt, hle, hdr, Nat.le_refl, push_cast, ed, reduceCtorEq, ld]))
 all_goals refine finB (hw2) (by simp only [F66, push_cast, ed, reduceCtorEq, ld]; exact rfl) (by first | exact .inl rfl | (right; simp only [F66, push_cast, ed, reduceCtorEq, ld]; try rfl)) (by first | rfl | assumption) (by simp) (by simp) (by (repeat first | exact (hw2).subm | exact (hw2).suba | refine Sub.drop (by simp) ?_)) (by (repeat first | exact (hw2).subm | exact (hw2).suba | refine Sub.drop (by simp) ?_)) (by (repeat first | exact (hw2).subx | refine ExSub.dropt (by simp) ?_ | refine ExSub.drop (by simp) ?_))
theorem fail_x (e : Int) (st : St) (rid : Nat) (ts : List Tok) (hw : WfT ts) (hm : Sha.look st.mem rid = some [.sl (ts.map tkV)]) : VCalls Tryz.prog 63 [.ptr rid 0, .int .i64 e] st fun r s => r = .pan (failV (hd ts).a e) ∧ s = st := by
 refine vc F63_ok rfl (fun hwf => ?_)
 (repeat' first | ((first | refine go rfl rfl ?_ | refine Cl.by_ (by (first | refine next_v _ _ _ hw hm)) ?_ | (refine Fk.by_ ?_ ?_ <;> intro hc <;> try simp only [hc]) | refine storeK_eq rfl ?_ | with_reducible refine an ?_ ?_) <;> try simp only [tkV, push_cast, ed, reduceCtorEq, ld]))
 exact ⟨st, rfl, Weak.refl hwf, Nat.le_refl _, rfl, rfl⟩
theorem fail_call {e : Int} {st : St} {rid : Nat} {ts : List Tok} {K : VRes → St → Prop} (hw : WfT ts) (hm : Sha.look st.mem rid = some [.sl (ts.map tkV)]) (h : K (.pan (failV (hd ts).a e)) st) : VCalls Tryz.prog 63 [.ptr rid 0, .int .i64 e] st K :=
 VCalls.mono (fail_x e st rid ts hw hm) (fun r s ⟨h1, h2⟩ => by subst h1; subst h2; exact h)
theorem ris_v (st : St) (rid : Nat) (ts : List Tok) (k : Int) (t : List UInt8) (hw : WfT ts) (hm : Sha.look st.mem rid = some [.sl (ts.map tkV)]) : VRet Tryz.prog 142 [.ptr rid 0, .int .i64 k, .str t] st (.bool (hdIs k t ts)) st := by
 refine vc F142_ok rfl (fun hwf => ?_)
 (repeat' first | ((first | refine go rfl rfl ?_ | refine Cl.by_ (by (first | refine next_v _ _ _ hw hm)) ?_ | (refine Fk.by_ ?_ ?_ <;> intro hc <;> try simp only [hc]) | refine storeK_eq rfl ?_ | with_reducible refine an ?_ ?_) <;> try simp only [tkV, push_cast, ed, reduceCtorEq, ld]))
 all_goals exact finRet0 hwf rfl (by simp [resOne, hdIs, *]) rfl
class RdK (f : FuncId) (args : List V) (Post : outParam (St → Nat → List Tok → (VRes → St → Prop) → Prop)) : Prop where
 c : ∀ {st : St} {rid : Nat} {ts : List Tok} {K : VRes → St → Prop}, Sha.look st.mem rid = some [.sl (ts.map tkV)] → GlOk st.x.gl → WfT ts → Post st rid ts K → VCalls Tryz.prog f (.ptr rid 0 :: args) st K
abbrev RdP {α : Type} (m : Rd α) (enc : α → V) (st : St) (rid : Nat) (ts : List Tok) (K : VRes → St → Prop) : Prop :=
 (∀ a ts', m ts = .ok (a, ts') → WfT ts' → K (.ret (enc a)) (stR st rid ts')) ∧ ∀ q e ts', m ts = .error (q, e) → K (.pan (failV q e)) (stR st rid ts')
theorem RdC.k {α : Type} {f : FuncId} {args : List V} {m : Rd α} {enc : α → V} (h : RdC f args m enc) : RdK f args (RdP m enc) where
 c {st rid ts K} hm hg hw k := by
  refine VCalls.mono (h st rid ts hg hw hm) (fun r s hr => ?_)
  unfold rdPost at hr
  split at hr
  ·rename_i a ts' he
   obtain ⟨rfl, rfl, hw'⟩ := hr
   exact k.1 a ts' he hw'
  ·rename_i at' e he
   obtain ⟨rfl, ts', rfl⟩ := hr
   exact k.2 at' e ts' he
instance : RdK 62 [] (fun st _ ts K => K (.ret (tkV (hd ts))) st) := ⟨fun hm _ hw h => (next_v _ _ _ hw hm).use h⟩
instance : RdK 66 [] (fun st rid ts K => K (.ret (tkV (hd ts))) (stR st rid ts.tail)) := ⟨fun hm _ hw h => (pass_v _ _ _ hw hm).use h⟩
instance {e : Int} : RdK 63 [.int .i64 e] (fun st _ ts K => K (.pan (failV (hd ts).a e)) st) := ⟨fun hm _ hw h => fail_call hw hm h⟩
instance {k : Int} {t : List UInt8} : RdK 142 [.int .i64 k, .str t] (fun st _ ts K => K (.ret (.bool (hdIs k t ts))) st) := ⟨fun hm _ hw h => (ris_v _ _ _ _ _ hw hm).use h⟩
theorem snap_two {f : FuncId} {rid id n : Nat} {v : V} {st : St} {K : VRes → St → Prop} (h : mapO (snapA st) [.ptr rid 0, .osl id n] = some [.ptr rid 0, v]) (k : VCalls Tryz.prog f [.ptr rid 0, v] st K) : VCalls Tryz.prog f [.ptr rid 0, .osl id n] st K := VCalls_snap k h
theorem finRo {α : Type} {m : Rd α} {enc : α → V} {res : List Res} {st st1 : St} {rid : Nat} {ts ts' : List Tok} {env : Env} {vs : List V} {a : α} {x : VX} (hwf : st.Wf) (k : x = .ret ∨ x = .normal) (h1 : resV env st1 res = some vs) (h2 : enc a = resOne vs ∨ snapV st1 (resOne vs) = some (enc a)) (hb : (enc a).bd st.nx = true)
  (hn : st.nx ≤ st1.nx) (hm : Sub st.nx st1.mem (stR st rid ts').mem) (ha : Sub st.nx st1.arr st.arr) (hx : ExSub st.nx st1.x st.x) (he : m ts = .ok (a, ts')) (hw : WfT ts') : finQ res st.nx (rdPost m enc st rid ts) x env st1 := by
 rcases k with rfl | rfl <;> exact finRd hwf h1 h2 hb hn hm ha hx he hw
theorem subR {st : St} {rid : Nat} {ts : List Tok} (hm : Sha.look st.mem rid = some [.sl (ts.map tkV)]) (hwf : st.Wf) : Sub st.nx st.mem (stR st rid ts).mem := by rw [stR_same hm]; exact hwf.subm
def rWord : List (List UInt8) → Rd (List UInt8)
 | [] => rOk []
 | w :: r => fun ts => if hdIs 0 w ts = true then .ok (w, ts.tail) else rWord r ts
def rSign (s : List UInt8) : Rd Bool := fun ts => if hdIs 2 s ts = true then .ok (true, ts.tail) else .ok (false, ts)
def rNeed (ws : List (List UInt8)) : Rd (List UInt8) := rNext (rWord ws) fun w ts => if (w == []) = true then .error ((hd ts).a, 4) else .ok (w, ts)
def rSlash : Rd Unit := rNext (rSign [47]) fun b ts => if b = true then .ok ((), ts) else .error ((hd ts).a, 4)
def rNumber : Rd (List UInt8) := fun ts => if ((hd ts).k != 1) = true then .error ((hd ts).a, 4) else .ok ((hd ts).t, ts)
def rMust (e : Int) : Rd Unit := fun ts => if (e == 0) = true then .ok ((), ts) else if (e == 3) = true then .error ((hd ts).a, 4) else .error ((hd ts).a, e)
theorem hdIs_ne {k : Int} {t : List UInt8} {ts : List Tok} (h : hdIs k t ts = true) (hk : k ≠ 3) : (hd ts).k ≠ 3 := by
 simp only [hdIs, Bool.and_eq_true, beq_iff_eq] at h
 omega
theorem gword_v (ws : List (List UInt8)) (hl : ws.length < 1000) : RdC 110 [.sl (ws.map .str)] (rWord ws) .str := by
 intro st rid ts hG hw hm
 refine vc F110_ok rfl (fun hwf => ?_)
 have hbw : V.bdL st.nx (ws.map V.str) = true := bdL_map fun _ _ => rfl
 have hrid := (hwf.mem _ _ hm).1
 (repeat' first | ((first | refine go rfl rfl ?_ | (refine Fk.by_ ?_ ?_ <;> intro hc <;> try simp only [hc]) | refine storeK_eq rfl ?_ | with_reducible refine an ?_ ?_) <;> try simp only [push_cast, ed, reduceCtorEq, ld]))
 refine WT_loop rfl (fun n e z => ∃ j : Nat, n = ws.length - j ∧ j ≤ ws.length ∧ rWord (ws.drop j) ts = rWord ws ts ∧ e = [(9, .int .i64 (j : Int)), (8, .int .i64 (ws.length : Int)), (7, .sl (ws.map .str)), (0, .ptr rid 0)] ∧ st = z) st.nx (Nat.le_refl _) (by rintro _ _ _ ⟨j, _, _, _, _, rfl⟩; rfl)
  ⟨_, _, _, ⟨0, rfl, Nat.zero_le _, rfl, rfl, rfl⟩, (by repeat first | exact .nil | refine .cons (by first | rfl | (simp [V.bd, V.bdL]; try first | omega | assumption)) (by first | rfl | simp only [push_cast, ed, reduceCtorEq, ld]) ?_), .refl hwf⟩ ?_
 rintro n e z ⟨j, rfl, hj, hr, rfl, rfl⟩
 rcases Nat.lt_or_ge j ws.length with hlt | hge
 ·obtain ⟨w, hx⟩ : ∃ w, ws[j]? = some w := ⟨_, List.getElem?_eq_getElem hlt⟩
  obtain ⟨q1, q2⟩ := List.getElem?_eq_some_iff.1 hx
  have h2 : decide ((j : Int) < (ws.length : Int)) = true := decide_eq_true (by omega)
  have hwr : IntKind.i64.wrap ((j : Int) + 1) = (j : Int) + 1 := wrap64 (by omega) (by omega)
  rw [List.drop_eq_getElem_cons q1, q2] at hr
  (repeat' first | (with_reducible intro x1 x2 hE hW <;> (try (obtain ⟨rfl, rfl, hK⟩ := rNumber_inv hE)) <;> (try (obtain ⟨rfl, -⟩ := rMust_inv hE)) <;> (try (obtain ⟨u1, u2, rfl⟩ := rUnit_inv hE; dsimp only)) <;> try simp only [stR_eq, lookR, om, h2, hwr, hx, V.cells, push_cast, ed, reduceCtorEq, ld]) | (with_reducible intro x1 x2 x3 hE <;> try simp only [stR_eq, lookR, om, h2, hwr, hx, V.cells, push_cast, ed, reduceCtorEq, ld]) | (with_reducible intro hE2 <;> try simp only [stR_eq, lookR, om, h2, hwr, hx, V.cells, push_cast, ed, reduceCtorEq, ld]) | ((first | refine go rfl rfl ?_ | refine RdK.c (by first | assumption | (simp only [stR_eq, lookR, om, h2, hwr, hx, V.cells, push_cast, ed, reduceCtorEq, ld] <;> exact rfl)) (by assumption) (by assumption) ?_ | refine snap_two (by simp only [stR_eq, lookR, om, h2, hwr, hx, V.cells, push_cast, ed, reduceCtorEq, ld] <;> exact rfl) ?_ | (refine Fk.by_ ?_ ?_ <;> intro hc <;> try simp only [hc]) | refine storeK_eq rfl ?_ | with_reducible refine an ?_ ?_) <;> try simp only [stR_eq, lookR, om, h2, hwr, hx, V.cells, push_cast, ed, reduceCtorEq, ld]))
  ·have hw' := hw.tail (hdIs_ne hc (by decide))
   have he : rWord ws ts = .ok (w, ts.tail) := by rw [← hr]; simp [rWord, hc]
   (first | exact finRo hwf (by first | exact .inl rfl | exact .inr rfl) (by first | rfl | (simp only [push_cast, ed, reduceCtorEq, ld]; exact rfl)) (by first | exact .inl rfl | (right; simp only [push_cast, ed, reduceCtorEq, ld]; try rfl)) (by first | rfl | assumption | exact bd_cmd | (simp [V.bd, V.bdL]; done)) (by simp) (by (repeat first | exact (wfR hwf _).subm | exact subR hm hwf | refine Sub.drop (by simp) ?_)) (by simp [(hwf).z]) ((hwf).subx) (by first | assumption | (simp [*]; done) | (simp only [if_true, if_false, bf, *]; done) | fail) (by first | assumption | (simp [*]; done) | fail) | exact finRe hwf (by first | (simp [*]; done) | (simp only [if_true, if_false, bf, *]; done)) (by simp) (by (repeat first | exact (wfR hwf _).subm | exact subR hm hwf | refine Sub.drop (by simp) ?_)) (by simp [(hwf).z]) ((hwf).subx))
  ·simp only [rWord, hc, bf, if_false] at hr
   exact ⟨_, _, _, by omega, ⟨j + 1, rfl, by omega, hr, rfl, rfl⟩, (by repeat first | exact .nil | refine .cons (by first | rfl | (simp [V.bd, V.bdL]; try first | omega | assumption)) (by first | rfl | simp only [push_cast, ed, reduceCtorEq, ld]) ?_), .refl hwf⟩
 ·have h2 : decide ((j : Int) < (ws.length : Int)) = false := decide_eq_false (by omega)
  have ej : j = ws.length := by omega
  subst ej
  rw [List.drop_length] at hr
  have he : rWord ws ts = .ok ([], ts) := by rw [← hr]; rfl
  (repeat' first | (with_reducible intro x1 x2 hE hW <;> (try (obtain ⟨rfl, rfl, hK⟩ := rNumber_inv hE)) <;> (try (obtain ⟨rfl, -⟩ := rMust_inv hE)) <;> (try (obtain ⟨u1, u2, rfl⟩ := rUnit_inv hE; dsimp only)) <;> try simp only [stR_eq, lookR, om, h2, push_cast, ed, reduceCtorEq, ld]) | (with_reducible intro x1 x2 x3 hE <;> try simp only [stR_eq, lookR, om, h2, push_cast, ed, reduceCtorEq, ld]) | (with_reducible intro hE2 <;> try simp only [stR_eq, lookR, om, h2, push_cast, ed, reduceCtorEq, ld]) | ((first | refine go rfl rfl ?_ | refine RdK.c (by first | assumption | (simp only [stR_eq, lookR, om, h2, push_cast, ed, reduceCtorEq, ld] <;> exact rfl)) (by assumption) (by assumption) ?_ | refine snap_two (by simp only [stR_eq, lookR, om, h2, push_cast, ed, reduceCtorEq, ld] <;> exact rfl) ?_ | (refine Fk.by_ ?_ ?_ <;> intro hc <;> try simp only [hc]) | refine storeK_eq rfl ?_ | with_reducible refine an ?_ ?_) <;> try simp only [stR_eq, lookR, om, h2, push_cast, ed, reduceCtorEq, ld]))
  (first | exact finRo hwf (by first | exact .inl rfl | exact .inr rfl) (by first | rfl | (simp only [push_cast, ed, reduceCtorEq, ld]; exact rfl)) (by first | exact .inl rfl | (right; simp only [push_cast, ed, reduceCtorEq, ld]; try rfl)) (by first | rfl | assumption | exact bd_cmd | (simp [V.bd, V.bdL]; done)) (by simp) (by (repeat first | exact (wfR hwf _).subm | exact subR hm hwf | refine Sub.drop (by simp) ?_)) (by simp [(hwf).z]) ((hwf).subx) (by first | assumption | (simp [*]; done) | (simp only [if_true, if_false, bf, *]; done) | fail) (by first | assumption | (simp [*]; done) | fail) | exact finRe hwf (by first | (simp [*]; done) | (simp only [if_true, if_false, bf, *]; done)) (by simp) (by (repeat first | exact (wfR hwf _).subm | exact subR hm hwf | refine Sub.drop (by simp) ?_)) (by simp [(hwf).z]) ((hwf).subx))
theorem gneed_v (ws : List (List UInt8)) (hl : ws.length < 1000) : RdC 109 [.sl (ws.map .str)] (rNeed ws) .str := by
 intro st rid ts hG hw hm
 have hbw : V.bdL st.nx (ws.map V.str) = true := bdL_map fun _ _ => rfl
 refine vc F109_ok rfl (fun hwf => ?_)
 (repeat' first | (with_reducible intro x1 x2 hE hW <;> (try (obtain ⟨rfl, rfl, hK⟩ := rNumber_inv hE)) <;> (try (obtain ⟨rfl, -⟩ := rMust_inv hE)) <;> (try (obtain ⟨u1, u2, rfl⟩ := rUnit_inv hE; dsimp only)) <;> try simp only [stR_eq, lookR, om, hm, push_cast, ed, reduceCtorEq, ld]) | (with_reducible intro x1 x2 x3 hE <;> try simp only [stR_eq, lookR, om, hm, push_cast, ed, reduceCtorEq, ld]) | (with_reducible intro hE2 <;> try simp only [stR_eq, lookR, om, hm, push_cast, ed, reduceCtorEq, ld]) | ((first | refine go rfl rfl ?_ | refine rd_call (gword_v ws hl) (by first | rfl | (simp only [stR_eq, lookR, om, hm, push_cast, ed, reduceCtorEq, ld]; exact rfl)) (by assumption) (by assumption) (by first | assumption | (simp only [stR_eq, lookR, om, hm, push_cast, ed, reduceCtorEq, ld] <;> exact rfl)) ?_ ?_ | refine RdK.c (by first | assumption | (simp only [stR_eq, lookR, om, hm, push_cast, ed, reduceCtorEq, ld] <;> exact rfl)) (by assumption) (by assumption) ?_ | refine snap_two (by simp only [stR_eq, lookR, om, hm, push_cast, ed, reduceCtorEq, ld] <;> exact rfl) ?_ | (refine Fk.by_ ?_ ?_ <;> intro hc <;> try simp only [hc]) | refine storeK_eq rfl ?_ | with_reducible refine an ?_ ?_) <;> try simp only [stR_eq, lookR, om, hm, push_cast, ed, reduceCtorEq, ld]))
 all_goals first | (first | exact finRo hwf (by first | exact .inl rfl | exact .inr rfl) (by first | rfl | (simp only [rNeed, rNext, push_cast, ed, reduceCtorEq, ld]; exact rfl)) (by first | exact .inl rfl | (right; simp only [push_cast, ed, reduceCtorEq, ld]; try rfl)) (by first | rfl | assumption | exact bd_cmd | (simp [V.bd, V.bdL]; done)) (by simp) (by (repeat first | exact (wfR hwf _).subm | exact subR hm hwf | refine Sub.drop (by simp) ?_)) (by simp [(hwf).z]) ((hwf).subx) (by first | assumption | (simp [rNeed, rNext, *]; done) | (simp only [rNeed, rNext, if_true, if_false, bf, *]; done) | fail) (by first | assumption | (simp [rNeed, rNext, *]; done) | fail) | exact finRe hwf (by first | (simp [rNeed, rNext, *]; done) | (simp only [rNeed, rNext, if_true, if_false, bf, *]; done)) (by simp) (by (repeat first | exact (wfR hwf _).subm | exact subR hm hwf | refine Sub.drop (by simp) ?_)) (by simp [(hwf).z]) ((hwf).subx))
instance {a : List UInt8} : RdK 110 [.sl [.str a]] (RdP (rWord [a]) .str) := (gword_v [a] (by simp)).k
instance {a b : List UInt8} : RdK 110 [.sl [.str a, .str b]] (RdP (rWord [a, b]) .str) := (gword_v [a, b] (by simp)).k
instance {a : List UInt8} : RdK 109 [.sl [.str a]] (RdP (rNeed [a]) .str) := (gneed_v [a] (by simp)).k
instance {a b : List UInt8} : RdK 109 [.sl [.str a, .str b]] (RdP (rNeed [a, b]) .str) := (gneed_v [a, b] (by simp)).k
instance {a b c d : List UInt8} : RdK 109 [.sl [.str a, .str b, .str c, .str d]] (RdP (rNeed [a, b, c, d]) .str) := (gneed_v [a, b, c, d] (by simp)).k
instance {a b c d e f : List UInt8} : RdK 109 [.sl [.str a, .str b, .str c, .str d, .str e, .str f]] (RdP (rNeed [a, b, c, d, e, f]) .str) := (gneed_v [a, b, c, d, e, f] (by simp)).k
theorem gsign_v (s : List UInt8) : RdC 91 [.str s] (rSign s) .bool := by
 intro st rid ts hG hw hm
 refine vc F91_ok rfl (fun hwf => ?_)
 (repeat' first | (with_reducible intro x1 x2 hE hW <;> (try (obtain ⟨rfl, rfl, hK⟩ := rNumber_inv hE)) <;> (try (obtain ⟨rfl, -⟩ := rMust_inv hE)) <;> (try (obtain ⟨u1, u2, rfl⟩ := rUnit_inv hE; dsimp only)) <;> try simp only [stR_eq, lookR, om, push_cast, ed, reduceCtorEq, ld]) | (with_reducible intro x1 x2 x3 hE <;> try simp only [stR_eq, lookR, om, push_cast, ed, reduceCtorEq, ld]) | (with_reducible intro hE2 <;> try simp only [stR_eq, lookR, om, push_cast, ed, reduceCtorEq, ld]) | ((first | refine go rfl rfl ?_ | refine RdK.c (by first | assumption | (simp only [stR_eq, lookR, om, push_cast, ed, reduceCtorEq, ld] <;> exact rfl)) (by assumption) (by assumption) ?_ | refine snap_two (by simp only [stR_eq, lookR, om, push_cast, ed, reduceCtorEq, ld] <;> exact rfl) ?_ | (refine Fk.by_ ?_ ?_ <;> intro hc <;> try simp only [hc]) | refine storeK_eq rfl ?_ | with_reducible refine an ?_ ?_) <;> try simp only [stR_eq, lookR, om, push_cast, ed, reduceCtorEq, ld]))
 all_goals first | (have hw' := hw.tail (hdIs_ne hc (by decide)); (first | exact finRo hwf (by first | exact .inl rfl | exact .inr rfl) (by first | rfl | (simp only [rSign, push_cast, ed, reduceCtorEq, ld]; exact rfl)) (by first | exact .inl rfl | (right; simp only [push_cast, ed, reduceCtorEq, ld]; try rfl)) (by first | rfl | assumption | exact bd_cmd | (simp [V.bd, V.bdL]; done)) (by simp) (by (repeat first | exact (wfR hwf _).subm | exact subR hm hwf | refine Sub.drop (by simp) ?_)) (by simp [(hwf).z]) ((hwf).subx) (by first | assumption | (simp [rSign, *]; done) | (simp only [rSign, if_true, if_false, bf, *]; done) | fail) (by first | assumption | (simp [rSign, *]; done) | fail) | exact finRe hwf (by first | (simp [rSign, *]; done) | (simp only [rSign, if_true, if_false, bf, *]; done)) (by simp) (by (repeat first | exact (wfR hwf _).subm | exact subR hm hwf | refine Sub.drop (by simp) ?_)) (by simp [(hwf).z]) ((hwf).subx))) | (first | exact finRo hwf (by first | exact .inl rfl | exact .inr rfl) (by first | rfl | (simp only [rSign, push_cast, ed, reduceCtorEq, ld]; exact rfl)) (by first | exact .inl rfl | (right; simp only [push_cast, ed, reduceCtorEq, ld]; try rfl)) (by first | rfl | assumption | exact bd_cmd | (simp [V.bd, V.bdL]; done)) (by simp) (by (repeat first | exact (wfR hwf _).subm | exact subR hm hwf | refine Sub.drop (by simp) ?_)) (by simp [(hwf).z]) ((hwf).subx) (by first | assumption | (simp [rSign, *]; done) | (simp only [rSign, if_true, if_false, bf, *]; done) | fail) (by first | assumption | (simp [rSign, *]; done) | fail) | exact finRe hwf (by first | (simp [rSign, *]; done) | (simp only [rSign, if_true, if_false, bf, *]; done)) (by simp) (by (repeat first | exact (wfR hwf _).subm | exact subR hm hwf | refine Sub.drop (by simp) ?_)) (by simp [(hwf).z]) ((hwf).subx))
instance {s : List UInt8} : RdK 91 [.str s] (RdP (rSign s) .bool) := (gsign_v s).k
theorem gslash_v : RdC 174 [] rSlash (fun _ => .tup []) := by
 intro st rid ts hG hw hm
 refine vc F174_ok rfl (fun hwf => ?_)
 (repeat' first | (with_reducible intro x1 x2 hE hW <;> (try (obtain ⟨rfl, rfl, hK⟩ := rNumber_inv hE)) <;> (try (obtain ⟨rfl, -⟩ := rMust_inv hE)) <;> (try (obtain ⟨u1, u2, rfl⟩ := rUnit_inv hE; dsimp only)) <;> try simp only [stR_eq, lookR, om, hm, push_cast, ed, reduceCtorEq, ld]) | (with_reducible intro x1 x2 x3 hE <;> try simp only [stR_eq, lookR, om, hm, push_cast, ed, reduceCtorEq, ld]) | (with_reducible intro hE2 <;> try simp only [stR_eq, lookR, om, hm, push_cast, ed, reduceCtorEq, ld]) | ((first | refine go rfl rfl ?_ | refine RdK.c (by first | assumption | (simp only [stR_eq, lookR, om, hm, push_cast, ed, reduceCtorEq, ld] <;> exact rfl)) (by assumption) (by assumption) ?_ | refine snap_two (by simp only [stR_eq, lookR, om, hm, push_cast, ed, reduceCtorEq, ld] <;> exact rfl) ?_ | (refine Fk.by_ ?_ ?_ <;> intro hc <;> try simp only [hc]) | refine storeK_eq rfl ?_ | with_reducible refine an ?_ ?_) <;> try simp only [stR_eq, lookR, om, hm, push_cast, ed, reduceCtorEq, ld]))
 all_goals first | (first | exact finRo (a := ()) hwf (by first | exact .inl rfl | exact .inr rfl) (by first | rfl | (simp only [rSlash, rNext, push_cast, ed, reduceCtorEq, ld]; exact rfl)) (by first | exact .inl rfl | (right; simp only [push_cast, ed, reduceCtorEq, ld]; try rfl)) (by first | rfl | assumption | exact bd_cmd | (simp [V.bd, V.bdL]; done)) (by simp) (by (repeat first | exact (wfR hwf _).subm | exact subR hm hwf | refine Sub.drop (by simp) ?_)) (by simp [(hwf).z]) ((hwf).subx) (by first | assumption | (simp [rSlash, rNext, *]; done) | (simp only [rSlash, rNext, if_true, if_false, bf, *]; done) | fail) (by first | assumption | (simp [rSlash, rNext, *]; done) | fail) | exact finRe hwf (by first | (simp [rSlash, rNext, *]; done) | (simp only [rSlash, rNext, if_true, if_false, bf, *]; done)) (by simp) (by (repeat first | exact (wfR hwf _).subm | exact subR hm hwf | refine Sub.drop (by simp) ?_)) (by simp [(hwf).z]) ((hwf).subx))
instance : RdK 174 [] (RdP rSlash (fun _ => .tup [])) := (gslash_v).k
theorem gnumber_v : RdC 168 [] rNumber .str := by
 intro st rid ts hG hw hm
 refine vc F168_ok rfl (fun hwf => ?_)
 (repeat' first | (with_reducible intro x1 x2 hE hW <;> (try (obtain ⟨rfl, rfl, hK⟩ := rNumber_inv hE)) <;> (try (obtain ⟨rfl, -⟩ := rMust_inv hE)) <;> (try (obtain ⟨u1, u2, rfl⟩ := rUnit_inv hE; dsimp only)) <;> try simp only [stR_eq, lookR, om, hm, tkV, push_cast, ed, reduceCtorEq, ld]) | (with_reducible intro x1 x2 x3 hE <;> try simp only [stR_eq, lookR, om, hm, tkV, push_cast, ed, reduceCtorEq, ld]) | (with_reducible intro hE2 <;> try simp only [stR_eq, lookR, om, hm, tkV, push_cast, ed, reduceCtorEq, ld]) | ((first | refine go rfl rfl ?_ | refine RdK.c (by first | assumption | (simp only [stR_eq, lookR, om, hm, tkV, push_cast, ed, reduceCtorEq, ld] <;> exact rfl)) (by assumption) (by assumption) ?_ | refine snap_two (by simp only [stR_eq, lookR, om, hm, tkV, push_cast, ed, reduceCtorEq, ld] <;> exact rfl) ?_ | (refine Fk.by_ ?_ ?_ <;> intro hc <;> try simp only [hc]) | refine storeK_eq rfl ?_ | with_reducible refine an ?_ ?_) <;> try simp only [stR_eq, lookR, om, hm, tkV, push_cast, ed, reduceCtorEq, ld]))
 all_goals first | (first | exact finRo hwf (by first | exact .inl rfl | exact .inr rfl) (by first | rfl | (simp only [rNumber, push_cast, ed, reduceCtorEq, ld]; exact rfl)) (by first | exact .inl rfl | (right; simp only [push_cast, ed, reduceCtorEq, ld]; try rfl)) (by first | rfl | assumption | exact bd_cmd | (simp [V.bd, V.bdL]; done)) (by simp) (by (repeat first | exact (wfR hwf _).subm | exact subR hm hwf | refine Sub.drop (by simp) ?_)) (by simp [(hwf).z]) ((hwf).subx) (by first | assumption | (simp [rNumber, *]; done) | (simp only [rNumber, if_true, if_false, bf, *]; done) | fail) (by first | assumption | (simp [rNumber, *]; done) | fail) | exact finRe hwf (by first | (simp [rNumber, *]; done) | (simp only [rNumber, if_true, if_false, bf, *]; done)) (by simp) (by (repeat first | exact (wfR hwf _).subm | exact subR hm hwf | refine Sub.drop (by simp) ?_)) (by simp [(hwf).z]) ((hwf).subx))
instance : RdK 168 [] (RdP rNumber .str) := (gnumber_v).k
theorem gmust_v (e : Int) : RdC 170 [.int .i64 e] (rMust e) (fun _ => .tup []) := by
 intro st rid ts hG hw hm
 refine vc F170_ok rfl (fun hwf => ?_)
 (repeat' first | (with_reducible intro x1 x2 hE hW <;> (try (obtain ⟨rfl, rfl, hK⟩ := rNumber_inv hE)) <;> (try (obtain ⟨rfl, -⟩ := rMust_inv hE)) <;> (try (obtain ⟨u1, u2, rfl⟩ := rUnit_inv hE; dsimp only)) <;> try simp only [stR_eq, lookR, om, hm, tkV, push_cast, ed, reduceCtorEq, ld]) | (with_reducible intro x1 x2 x3 hE <;> try simp only [stR_eq, lookR, om, hm, tkV, push_cast, ed, reduceCtorEq, ld]) | (with_reducible intro hE2 <;> try simp only [stR_eq, lookR, om, hm, tkV, push_cast, ed, reduceCtorEq, ld]) | ((first | refine go rfl rfl ?_ | refine RdK.c (by first | assumption | (simp only [stR_eq, lookR, om, hm, tkV, push_cast, ed, reduceCtorEq, ld] <;> exact rfl)) (by assumption) (by assumption) ?_ | refine snap_two (by simp only [stR_eq, lookR, om, hm, tkV, push_cast, ed, reduceCtorEq, ld] <;> exact rfl) ?_ | (refine Fk.by_ ?_ ?_ <;> intro hc <;> try simp only [hc]) | refine storeK_eq rfl ?_ | with_reducible refine an ?_ ?_) <;> try simp only [stR_eq, lookR, om, hm, tkV, push_cast, ed, reduceCtorEq, ld]))
 all_goals first | (first | exact finRo (a := ()) hwf (by first | exact .inl rfl | exact .inr rfl) (by first | rfl | (simp only [rMust, push_cast, ed, reduceCtorEq, ld]; exact rfl)) (by first | exact .inl rfl | (right; simp only [push_cast, ed, reduceCtorEq, ld]; try rfl)) (by first | rfl | assumption | exact bd_cmd | (simp [V.bd, V.bdL]; done)) (by simp) (by (repeat first | exact (wfR hwf _).subm | exact subR hm hwf | refine Sub.drop (by simp) ?_)) (by simp [(hwf).z]) ((hwf).subx) (by first | assumption | (simp [rMust, *]; done) | (simp only [rMust, if_true, if_false, bf, *]; done) | fail) (by first | assumption | (simp [rMust, *]; done) | fail) | exact finRe hwf (by first | (simp [rMust, *]; done) | (simp only [rMust, if_true, if_false, bf, *]; done)) (by simp) (by (repeat first | exact (wfR hwf _).subm | exact subR hm hwf | refine Sub.drop (by simp) ?_)) (by simp [(hwf).z]) ((hwf).subx))
instance {e : Int} : RdK 170 [.int .i64 e] (RdP (rMust e) (fun _ => .tup [])) := (gmust_v e).k
def F37 : FT := ⟨43, 2, [.tmp 4],
 [.seq 1 2,
 .reg [.s 4 (.mv (.w []))],
 .seq 3 10,
 .seq 4 5,
 .reg [.s 7 (.m 0),
 .s 8 (.bin .eql (.t 7) (.w [])),
 .s 9 (.m 8),
 .x 10 (.m 1) 9,
 .x 11 (.bin .eql (.t 10) (.w [])) 9,
 .s 12 (.pick (.t 9) (.c (.bool true)) (.t 11))],
 .cond (.t 12) 6 9,
 .seq 7 8,
 .reg [.s 13 (.m 0),
 .s 4 (.m 13)],
 .ret,
 .skip,
 .seq 11 18,
 .seq 12 13,
 .reg [.s 14 (.m 1),
 .s 15 (.lens (.t 14)),
 .s 16 (.bin .eql (.t 15) (.i 1)),
 .s 17 (.m 16),
 .y 18 (.m 1) 17,
 .y 19 (.ichr (.t 18) (.i 0)) 17,
 .y 20 (.bin .lss (.t 19) (.c (.int .u8 128))) 17,
 .s 21 (.pick (.t 17) (.t 20) (.c (.bool false)))],
 .cond (.t 21) 14 17,
 .seq 15 16,
 .dreg 8 [.s 22 (.m 0),
 .s 23 (.m 1),
 .s 24 (.ichr (.t 23) (.i 0)),
 .s 25 (.f 48 [(.t 22), (.t 24)]),
 .s 26 (.m 1),
 .s 27 (.ichr (.t 26) (.i 0)),
 .s 28 (.f 84 [(.t 25), (.t 27)]),
 .s 4 (.m 28)],
 .ret,
 .skip,
 .seq 19 28,
 .seq 20 21,
 .reg [.s 30 (.m 1),
 .s 31 (.f 49 [(.t 30)]),
 .s 29 (.m 31),
 .s 32 (.ext 0 (.t 29)),
 .s 33 (.ext 1 (.t 29)),
 .s 5 (.alloc 83 Z2),
 .n (.store 256 (.t 5) (.t 32)),
 .s 6 (.m 33)],
 .seq 22 23,
 .reg [.s 34 (.m 6)],
 .cond (.t 34) 24 27,
 .seq 25 26,
 .reg [.s 35 (.m 0),
 .s 36 (.f 50 [(.t 35), (.t 5)]),
 .s 37 (.f 85 [(.t 36), (.t 5)]),
 .s 4 (.m 37)],
 .ret,
 .skip,
 .seq 29 30,
 .reg [.s 38 (.m 0),
 .s 39 (.m 1),
 .s 40 (.f 51 [(.t 38), (.t 39)]),
 .s 41 (.m 1),
 .s 42 (.f 86 [(.t 40), (.t 41)]),
 .s 4 (.m 42)],
 .ret]⟩
def F50 : FT := ⟨22, 2, [.tmp 4],
 [.seq 1 2,
 .reg [.s 4 (.mv (.w []))],
 .seq 3 19,
 .block 0 4,
 .loop 5,
 .seq 6 11,
 .seq 7 8,
 .reg [.s 5 (.m 0),
 .s 6 (.lens (.t 5)),
 .s 7 (.bin .gtr (.t 6) (.i 0))],
 .cond (.t 7) 9 10,
 .skip,
 .exit 0,
 .block 1 12,
 .seq 13 18,
 .seq 14 15,
 .reg [.s 8 (.m 1),
 .s 9 (.m 0),
 .s 10 (.m 0),
 .s 11 (.lens (.t 10)),
 .s 12 (.bin .sub (.t 11) (.i 1)),
 .s 13 (.ichr (.t 9) (.t 12)),
 .s 14 (.f 95 [(.t 8), (.t 13)]),
 .s 15 (.un .not (.t 14))],
 .cond (.t 15) 16 17,
 .exit 0,
 .skip,
 .reg [.s 16 (.m 0),
 .s 17 (.m 0),
 .s 18 (.lens (.t 17)),
 .s 19 (.bin .sub (.t 18) (.i 1)),
 .s 20 (.slices (.t 16) none (some (.t 19))),
 .s 0 (.m 20)],
 .seq 20 21,
 .reg [.s 21 (.m 0),
 .s 4 (.m 21)],
 .ret]⟩
def F85 : FT := ⟨16, 2, [.tmp 4],
 [.seq 1 2,
 .reg [.s 4 (.mv (.w []))],
 .seq 3 19,
 .block 0 4,
 .loop 5,
 .seq 6 11,
 .seq 7 8,
 .reg [.s 5 (.m 0),
 .s 6 (.lens (.t 5)),
 .s 7 (.bin .gtr (.t 6) (.i 0))],
 .cond (.t 7) 9 10,
 .skip,
 .exit 0,
 .block 1 12,
 .seq 13 18,
 .seq 14 15,
 .reg [.s 8 (.m 1),
 .s 9 (.m 0),
 .s 10 (.ichr (.t 9) (.i 0)),
 .s 11 (.f 95 [(.t 8), (.t 10)]),
 .s 12 (.un .not (.t 11))],
 .cond (.t 12) 16 17,
 .exit 0,
 .skip,
 .reg [.s 13 (.m 0),
 .s 14 (.slices (.t 13) (some (.i 1)) none),
 .s 0 (.m 14)],
 .seq 20 21,
 .reg [.s 15 (.m 0),
 .s 4 (.m 15)],
 .ret]⟩
def F95 : FT := ⟨10, 2, [.tmp 4],
 [.seq 1 2,
 .reg [.s 4 (.mv (.c (.bool false)))],
 .seq 3 4,
 .reg [.s 5 (.m 0),
 .s 6 (.m 1),
 .s 7 (.k 5),
 .s 8 (.iadra 256 1 (.t 7) (.t 6)),
 .s 9 (.l 8),
 .s 4 (.m 9)],
 .ret]⟩
theorem F37_ok : compFn Tryz.prog 37 = some F37 := by kernel_rfl
theorem F50_ok : compFn Tryz.prog 50 = some F50 := by kernel_rfl
theorem F85_ok : compFn Tryz.prog 85 = some F85 := by kernel_rfl
theorem F95_ok : compFn Tryz.prog 95 = some F95 := by kernel_rfl
end Go.Proofs.YtnondemehfkalaaGreatDoor

namespace Go.Proofs.YtnondemehfkalaaGreatDoor
open Go.Sha Go.RowKit
open Nat renaming reduceEqDiff → ed, reduceLeDiff → ld
open Option renaming map_some → om
open Bool renaming false_eq_true → bf
theorem callable98 : Callable Tryz.prog 98 := ⟨_, Tryz.func98, by kernel_rfl, by kernel_rfl⟩
theorem callable23 : Callable Tryz.prog 23 := ⟨_, Tryz.func23, by kernel_rfl, by kernel_rfl⟩
theorem callable49 : Callable Tryz.prog 49 := ⟨_, Tryz.func49, by kernel_rfl, by kernel_rfl⟩
theorem index1_v (s : List UInt8) (c : UInt8) (st : St) : VRet Tryz.prog 98 [.str s, .str [c]] st (.int .i64 (Lib.indexByte s c)) st := by
 refine VRet_of_below callable98 (fun w A vs hw ha => ?_)
 obtain ⟨u, v, rfl, h1, h2⟩ := ha.two
 have e1 := h1.str_inv
 have e2 := h2.str_inv
 subst e1; subst e2
 refine (Tryz.stringslite_Index_one ⟨s.toArray⟩ c w).mono fun e w' ⟨he, hb⟩ => ?_
 subst he; subst hb
 exact ⟨_, rfl, fun w' A' => .int _ _, Below.refl _ _⟩
theorem contains1_v (s : List UInt8) (c : UInt8) (st : St) : VRet Tryz.prog 23 [.str s, .str [c]] st (.bool (decide (0 ≤ Lib.indexByte s c))) st := by
 refine VRet_of_below callable23 (fun w A vs hw ha => ?_)
 obtain ⟨u, v, rfl, h1, h2⟩ := ha.two
 have e1 := h1.str_inv
 have e2 := h2.str_inv
 subst e1; subst e2
 refine (Tryz.strings_Contains_one ⟨s.toArray⟩ c w).mono fun e w' ⟨he, hb⟩ => ?_
 subst he; subst hb
 exact ⟨_, rfl, fun w' A' => .bool _, Below.refl _ _⟩
def posB (c : UInt8) (s : List UInt8) : Nat := (s.takeWhile fun b => !(b == c)).length
theorem posB_le {c : UInt8} {s : List UInt8} : posB c s ≤ s.length := (List.takeWhile_sublist _).length_le
theorem posB_cons {c b : UInt8} {s : List UInt8} : posB c (b :: s) = if (b == c) = true then 0 else posB c s + 1 := by
 unfold posB
 by_cases h : (b == c) = true
 ·rw [if_pos h, List.takeWhile_cons, if_neg (by simp [h])]; rfl
 ·rw [if_neg h, List.takeWhile_cons, if_pos (by simpa using h)]; rfl
theorem index_pos (c : UInt8) : ∀ s : List UInt8, Lib.indexByte s c = if posB c s < s.length then (posB c s : Int) else -1
 | [] => rfl
 | b :: s => by
  have ih := index_pos c s
  rw [Lib.indexByte, posB_cons, List.length_cons]
  by_cases h : (b == c) = true
  ·rw [if_pos h, if_pos h, if_pos (by omega)]; rfl
  ·rw [if_neg h, if_neg h]
   by_cases hp : posB c s < s.length
   ·rw [if_pos hp] at ih
    rw [ih, if_neg (show ¬ ((posB c s : Int) == -1) = true by simp), if_pos (show posB c s + 1 < s.length + 1 by omega)]; omega
   ·rw [if_neg hp] at ih
    rw [ih, if_pos (show ((-1 : Int) == -1) = true from rfl), if_neg (show ¬ posB c s + 1 < s.length + 1 by omega)]
def cutW (c : UInt8) (s : List UInt8) : List UInt8 := s.take (posB c s)
def cutR (c : UInt8) (s : List UInt8) : List UInt8 := s.drop (posB c s + 1)
def cutP (c : UInt8) (s : List UInt8) : Bool := decide (posB c s < s.length)
theorem slcut_v (s : List UInt8) (c : UInt8) (st : St) (hs : s.length < 4611686018427387904) : VRet Tryz.prog 83 [.str s, .str [c]] st (.tup [.str (cutW c s), .str (cutR c s), .bool (cutP c s)]) st := by
 refine vc F83_ok rfl (fun hwf => ?_)
 have hi := index_pos c s
 have hle := posB_le (c := c) (s := s)
 by_cases hp : posB c s < s.length
 ·rw [if_pos hp] at hi
  have h1 : decide ((0 : Int) ≤ (posB c s : Int)) = true := decide_eq_true (by omega)
  have hw : IntKind.i64.wrap ((posB c s : Int) + (0 + 1)) = (posB c s : Int) + 1 := wrap64 (by omega) (by omega)
  have hP : cutP c s = true := decide_eq_true hp
  have h2 : posB c s + 1 ≤ s.length := hp
  (repeat' first | ((first | refine go rfl rfl ?_ | refine Cl.by_ (by (first | refine index1_v _ _ _)) ?_ | (refine Fk.by_ ?_ ?_ <;> intro hc <;> try simp only [hc]) | refine storeK_eq rfl ?_ | with_reducible refine an ?_ ?_) <;> try simp only [hi, h1, hw, hle, h2, Nat.zero_le, Nat.le_refl, List.take_length, push_cast, ed, reduceCtorEq, ld]))
  rw [hP]
  all_goals refine finC (hwf) (by simp only [F83, cutW, cutR, push_cast, ed, reduceCtorEq, ld]; exact rfl) (by first | exact .inl rfl | (right; simp only [F83, cutW, cutR, push_cast, ed, reduceCtorEq, ld]; try rfl)) (by first | rfl | assumption) (by simp [(hwf).z])
 ·rw [if_neg hp] at hi
  have h1 : decide ((0 : Int) ≤ -1) = false := rfl
  have hP : cutP c s = false := decide_eq_false hp
  have e : posB c s = s.length := by omega
  (repeat' first | ((first | refine go rfl rfl ?_ | refine Cl.by_ (by (first | refine index1_v _ _ _)) ?_ | (refine Fk.by_ ?_ ?_ <;> intro hc <;> try simp only [hc]) | refine storeK_eq rfl ?_ | with_reducible refine an ?_ ?_) <;> try simp only [hi, h1, push_cast, ed, reduceCtorEq, ld]))
  have e1 : cutW c s = s := by unfold cutW; rw [e, List.take_length]
  have e2 : cutR c s = [] := by unfold cutR; exact List.drop_eq_nil_of_le (by omega)
  rw [hP, e1, e2]
  all_goals refine finC (hwf) (by simp only [F83, push_cast, ed, reduceCtorEq, ld]; exact rfl) (by first | exact .inl rfl | (right; simp only [F83, push_cast, ed, reduceCtorEq, ld]; try rfl)) (by first | rfl | assumption) (by simp [(hwf).z])
theorem cut_v (s : List UInt8) (c : UInt8) (st : St) (hs : s.length < 4611686018427387904) : VRet Tryz.prog 35 [.str s, .str [c]] st (.tup [.str (cutW c s), .str (cutR c s), .bool (cutP c s)]) st := by
 refine vc F35_ok rfl (fun hwf => ?_)
 (repeat' first | ((first | refine go rfl rfl ?_ | refine Cl.by_ (by (first | refine slcut_v _ _ _ hs)) ?_ | (refine Fk.by_ ?_ ?_ <;> intro hc <;> try simp only [hc]) | refine storeK_eq rfl ?_ | with_reducible refine an ?_ ?_) <;> try simp only [push_cast, ed, reduceCtorEq, ld]))
 all_goals refine finC (hwf) (by simp only [F35, push_cast, ed, reduceCtorEq, ld]; exact rfl) (by first | exact .inl rfl | (right; simp only [F35, push_cast, ed, reduceCtorEq, ld]; try rfl)) (by first | rfl | assumption) (by simp [(hwf).z])
def tenS : List UInt8 := [48, 49, 50, 51, 52, 53, 54, 55, 56, 57]
def setV : List V := (List.range 256).map fun n => V.bool (decide (48 ≤ n ∧ n ≤ 57))
theorem setV_get (b : UInt8) : setV[b.toNat]? = some (.bool (digB b)) := by
 unfold setV
 rw [List.getElem?_map, List.getElem?_range b.toNat_lt]
 simp only [om, Option.some.injEq, V.bool.injEq, digB, isDig]
 rw [Bool.eq_iff_iff]
 simp only [decide_eq_true_eq, Bool.and_eq_true]
 omega
theorem setV_len : setV.length = 256 := by simp [setV]
theorem u8_all (p : UInt8 → Bool) (h : (List.range 256).all (fun n => p n.toUInt8) = true) (b : UInt8) : p b = true := by
 have := List.all_eq_true.1 h b.toNat (List.mem_range.2 b.toNat_lt)
 have e : b.toNat.toUInt8 = b := by simp
 rwa [e] at this
theorem ten_dig (b : UInt8) : tenS.contains b = digB b := by
 have := u8_all (fun b => tenS.contains b == digB b) (by decide +kernel) b
 simpa using this
theorem makeSet_v (st : St) : VRet Tryz.prog 49 [.str tenS] st (.tup [.agg setV, .bool true]) st := by
 refine VRet_of_below callable49 (fun w A vs hw ha => ?_)
 obtain ⟨u, rfl, h1⟩ := ha.one
 have e1 := h1.str_inv
 subst e1
 refine (Tryz.strings_makeASCIISet Tryz.zeroValue83 ⟨tenS.toArray⟩ w (by decide) (fun j b hj => by
  have := List.all_eq_true.1 (show tenS.all (fun b => decide (b.toNat < 128)) = true from rfl) b (List.mem_of_getElem? hj)
  simpa using this)).mono fun e w' ⟨he, hb⟩ => ?_
 subst he; subst hb
 refine ⟨_, rfl, fun w' A' => ?_, Below.alloc (Below.refl _ _) (Nat.le_refl _) _⟩
 have hcell : ∀ (i : Nat) (v : Value) (c : V), (Lib.setCells tenS).toList[i]? = some v → setV[i]? = some c → Rep w' A' v c ∧ v.oneCell' = true := fun i v c hv hc => by
  have hi : i < 256 := by have := (List.getElem?_eq_some_iff.1 hc).1; rw [setV_len] at this; exact this
  have e2 : i.toUInt8.toNat = i := by simp [Nat.toUInt8, UInt8.toNat_ofNat', Nat.mod_eq_of_lt hi]
  have g1 := Lib.setCells_at tenS i.toUInt8
  have g2 := setV_get i.toUInt8
  rw [e2] at g1 g2
  rw [Array.getElem?_toList, g1] at hv
  rw [g2] at hc
  cases hv; cases hc
  rw [ten_dig]
  exact ⟨.bool _, rfl⟩
 refine .tup [.agg (Lib.setCells tenS), .bool true] [.agg setV, .bool true] rfl (fun i v c h1 h2 => ?_)
 match i, h1, h2 with
 | 0, h1, h2 =>
  simp at h1 h2; subst h1 h2
  have := Rep.agg (w := w') (A := A') (Lib.setCells tenS).toList setV (by rw [Array.length_toList, Lib.setCells_size, setV_len]) (fun v hv => by
   obtain ⟨i, hi⟩ := List.mem_iff_getElem?.1 hv
   have hlt : i < setV.length := by rw [setV_len]; have := (List.getElem?_eq_some_iff.1 hi).1; rw [Array.length_toList, Lib.setCells_size] at this; exact this
   exact (hcell i v setV[i] hi (List.getElem?_eq_getElem hlt)).2) (fun i v c hv hc => (hcell i v c hv hc).1)
  rwa [Array.toArray_toList] at this
 | 1, h1, h2 => simp at h1 h2; subst h1 h2; exact .bool _
theorem has_v (st : St) (id : Nat) (b : UInt8) (h : Sha.look st.mem id = some setV) : VRet Tryz.prog 95 [.ptr id 0, .int .u8 b.toNat] st (.bool (digB b)) st := by
 have hg := setV_get b
 have hl := setV_len
 have hb : b.toNat < 256 := b.toNat_lt
 refine vc F95_ok rfl (fun hwf => ?_)
 have hi : iadraV 256 1 (.ptr id 0) (.int .u8 (b.toNat : Int)) = some (.ptr id b.toNat) := by simp [iadraV, natV, hb]
 (repeat' first | ((first | refine go rfl rfl ?_ | (refine Fk.by_ ?_ ?_ <;> intro hc <;> try simp only [hc]) | refine storeK_eq rfl ?_ | with_reducible refine an ?_ ?_) <;> try simp only [h, hg, hl, hb, hi, push_cast, ed, reduceCtorEq, ld]))
 all_goals refine finC (hwf) (by simp only [F95, push_cast, ed, reduceCtorEq, ld]; exact rfl) (by first | exact .inl rfl | (right; simp only [F95, push_cast, ed, reduceCtorEq, ld]; try rfl)) (by first | rfl | assumption) (by simp [(hwf).z])
def trL (s : List UInt8) : List UInt8 := s.dropWhile digB
def trR (s : List UInt8) : List UInt8 := (s.reverse.dropWhile digB).reverse
theorem trimL_v (st : St) (id : Nat) (s : List UInt8) (h : Sha.look st.mem id = some setV) (hs : s.length < 4611686018427387904) : VRet Tryz.prog 85 [.str s, .ptr id 0] st (.str (trL s)) st := by
 refine vc F85_ok rfl (fun hwf => ?_)
 have hid := (hwf.mem _ _ h).1
 (repeat' first | ((first | refine go rfl rfl ?_ | (refine Fk.by_ ?_ ?_ <;> intro hc <;> try simp only [hc]) | refine storeK_eq rfl ?_ | with_reducible refine an ?_ ?_) <;> try simp only [push_cast, ed, reduceCtorEq, ld]))
 refine WT_loop rfl (fun n e z => ∃ t : List UInt8, n = t.length ∧ t.length ≤ s.length ∧ trL t = trL s ∧ e = [(0, .str t), (1, .ptr id 0), (4, .str [])] ∧ st = z) st.nx (Nat.le_refl _) (by rintro _ _ _ ⟨j, _, _, _, _, rfl⟩; rfl)
  ⟨_, _, _, ⟨s, rfl, Nat.le_refl _, rfl, rfl, rfl⟩, (by repeat first | exact .nil | refine .cons (by first | rfl | (simp [V.bd, V.bdL]; try first | omega | assumption)) (by first | rfl | simp only [push_cast, ed, reduceCtorEq, ld]) ?_), .refl hwf⟩ ?_
 rintro n e z ⟨t, rfl, hl, ht, rfl, rfl⟩
 cases t with
 | nil =>
  have h1 : decide ((0 : Int) < 0) = false := rfl
  (repeat' first | ((first | refine go rfl rfl ?_ | (refine Fk.by_ ?_ ?_ <;> intro hc <;> try simp only [hc]) | refine storeK_eq rfl ?_ | with_reducible refine an ?_ ?_) <;> try simp only [h1, push_cast, ed, reduceCtorEq, ld]))
  all_goals exact finRet0 hwf rfl (by rw [← ht]; rfl) rfl
 | cons b t =>
  have h1 : decide ((0 : Int) < (t.length : Int) + 1) = true := decide_eq_true (by omega)
  have h2 : t.length + 1 ≤ t.length + 1 := Nat.le_refl _
  cases hb : digB b with
  | true =>
   have h3 : ∀ st', st' = st → VRet Tryz.prog 95 [.ptr id 0, .int .u8 b.toNat] st' (.bool true) st' := fun st' e => by subst e; have := has_v _ id b h; rwa [hb] at this
   (repeat' first | ((first | refine go rfl rfl ?_ | refine Cl.by_ (by (first | refine h3 _ rfl)) ?_ | (refine Fk.by_ ?_ ?_ <;> intro hc <;> try simp only [hc]) | refine storeK_eq rfl ?_ | with_reducible refine an ?_ ?_) <;> try simp only [h1, h2, List.take_length, push_cast, ed, reduceCtorEq, ld]))
   exact ⟨_, _, _, Nat.lt_succ_self _, ⟨t, rfl, by simp at hl; omega, by rw [← ht]; simp [trL, hb], rfl, rfl⟩, (by repeat first | exact .nil | refine .cons (by first | rfl | (simp [V.bd, V.bdL]; try first | omega | assumption)) (by first | rfl | simp only [push_cast, ed, reduceCtorEq, ld]) ?_), .refl hwf⟩
  | false =>
   have h3 : ∀ st', st' = st → VRet Tryz.prog 95 [.ptr id 0, .int .u8 b.toNat] st' (.bool false) st' := fun st' e => by subst e; have := has_v _ id b h; rwa [hb] at this
   (repeat' first | ((first | refine go rfl rfl ?_ | refine Cl.by_ (by (first | refine h3 _ rfl)) ?_ | (refine Fk.by_ ?_ ?_ <;> intro hc <;> try simp only [hc]) | refine storeK_eq rfl ?_ | with_reducible refine an ?_ ?_) <;> try simp only [h1, h2, push_cast, ed, reduceCtorEq, ld]))
   all_goals exact finRet0 hwf rfl (by rw [← ht]; simp [trL, resOne, hb]) rfl
theorem trimR_v (st : St) (id : Nat) (s : List UInt8) (h : Sha.look st.mem id = some setV) (hs : s.length < 4611686018427387904) : VRet Tryz.prog 50 [.str s, .ptr id 0] st (.str (trR s)) st := by
 refine vc F50_ok rfl (fun hwf => ?_)
 have hid := (hwf.mem _ _ h).1
 (repeat' first | ((first | refine go rfl rfl ?_ | (refine Fk.by_ ?_ ?_ <;> intro hc <;> try simp only [hc]) | refine storeK_eq rfl ?_ | with_reducible refine an ?_ ?_) <;> try simp only [push_cast, ed, reduceCtorEq, ld]))
 refine WT_loop rfl (fun n e z => ∃ t : List UInt8, n = t.length ∧ t.length ≤ s.length ∧ trR t = trR s ∧ e = [(0, .str t), (1, .ptr id 0), (4, .str [])] ∧ st = z) st.nx (Nat.le_refl _) (by rintro _ _ _ ⟨j, _, _, _, _, rfl⟩; rfl)
  ⟨_, _, _, ⟨s, rfl, Nat.le_refl _, rfl, rfl, rfl⟩, (by repeat first | exact .nil | refine .cons (by first | rfl | (simp [V.bd, V.bdL]; try first | omega | assumption)) (by first | rfl | simp only [push_cast, ed, reduceCtorEq, ld]) ?_), .refl hwf⟩ ?_
 rintro n e z ⟨t, rfl, hl, ht, rfl, rfl⟩
 rcases List.eq_nil_or_concat t with rfl | ⟨t', b, rfl⟩
 ·have h1 : decide ((0 : Int) < 0) = false := rfl
  (repeat' first | ((first | refine go rfl rfl ?_ | (refine Fk.by_ ?_ ?_ <;> intro hc <;> try simp only [hc]) | refine storeK_eq rfl ?_ | with_reducible refine an ?_ ?_) <;> try simp only [h1, push_cast, ed, reduceCtorEq, ld]))
  all_goals exact finRet0 hwf rfl (by rw [← ht]; rfl) rfl
 ·have hlen : (t'.concat b).length = t'.length + 1 := by simp
  have h1 : decide ((0 : Int) < (t'.length : Int) + 1) = true := decide_eq_true (by omega)
  have hw : IntKind.i64.wrap ((t'.length : Int) + 1 - 1) = (t'.length : Int) := by rw [wrap64 (by omega) (by omega)]; omega
  have hg : (t'.concat b)[t'.length]? = some b := by simp
  have h2 : t'.length ≤ t'.length + 1 := Nat.le_succ _
  have htk : (t'.concat b).take t'.length = t' := by simp
  cases hb : digB b with
  | true =>
   have h3 : ∀ st', st' = st → VRet Tryz.prog 95 [.ptr id 0, .int .u8 b.toNat] st' (.bool true) st' := fun st' e => by subst e; have := has_v _ id b h; rwa [hb] at this
   (repeat' first | ((first | refine go rfl rfl ?_ | refine Cl.by_ (by (first | refine h3 _ rfl)) ?_ | (refine Fk.by_ ?_ ?_ <;> intro hc <;> try simp only [hc]) | refine storeK_eq rfl ?_ | with_reducible refine an ?_ ?_) <;> try simp only [h1, hw, hg, h2, hlen, htk, Nat.zero_le, push_cast, ed, reduceCtorEq, ld]))
   exact ⟨_, _, _, Nat.lt_succ_self _, ⟨t', rfl, by omega, by rw [← ht]; simp [trR, hb], rfl, rfl⟩, (by repeat first | exact .nil | refine .cons (by first | rfl | (simp [V.bd, V.bdL]; try first | omega | assumption)) (by first | rfl | simp only [push_cast, ed, reduceCtorEq, ld]) ?_), .refl hwf⟩
  | false =>
   have h3 : ∀ st', st' = st → VRet Tryz.prog 95 [.ptr id 0, .int .u8 b.toNat] st' (.bool false) st' := fun st' e => by subst e; have := has_v _ id b h; rwa [hb] at this
   (repeat' first | ((first | refine go rfl rfl ?_ | refine Cl.by_ (by (first | refine h3 _ rfl)) ?_ | (refine Fk.by_ ?_ ?_ <;> intro hc <;> try simp only [hc]) | refine storeK_eq rfl ?_ | with_reducible refine an ?_ ?_) <;> try simp only [h1, hw, hg, h2, hlen, htk, push_cast, ed, reduceCtorEq, ld]))
   all_goals exact finRet0 hwf rfl (by rw [← ht]; simp [trR, resOne, hb]) rfl
theorem trim_all (s : List UInt8) : (trL (trR s) == []) = s.all digB := by
 have h1 : ∀ l : List UInt8, l.dropWhile digB = [] ↔ l.all digB = true := fun l => by
  induction l with
  | nil => simp
  | cons b l ih => cases hb : digB b <;> simp [List.dropWhile_cons, hb, ih]
 rw [Bool.eq_iff_iff, beq_iff_eq]
 unfold trL
 rw [h1]
 unfold trR
 rw [List.all_reverse]
 constructor
 ·intro h
  cases hd' : s.reverse.dropWhile digB with
  | nil => have := (h1 _).1 hd'; rwa [List.all_reverse] at this
  | cons b l =>
   exfalso
   have hb := List.head_dropWhile_not digB (l := s.reverse) (by rw [hd']; simp)
   simp only [hd', List.head_cons] at hb
   rw [hd'] at h
   simp [hb] at h
 ·intro h
  have : s.reverse.dropWhile digB = [] := (h1 _).2 (by rw [List.all_reverse]; exact h)
  rw [this]; rfl
theorem trimD_v (s : List UInt8) (st : St) (hs : s.length < 4611686018427387904) : VRet Tryz.prog 37 [.str s, .str tenS] st (.str (trL (trR s))) st := by
 refine vc F37_ok rfl (fun hwf => ?_)
 have hlr : (trR s).length < 4611686018427387904 := by
  have : (trR s).length ≤ s.length := by unfold trR; rw [List.length_reverse]; have := (List.dropWhile_sublist digB (l := s.reverse)).length_le; simpa using this
  omega
 have h10 : (tenS.length : Int) = 10 := rfl
 cases s with
 | nil =>
  (repeat' first | ((first | refine go rfl rfl ?_ | (refine Fk.by_ ?_ ?_ <;> intro hc <;> try simp only [hc]) | refine storeK_eq rfl ?_ | with_reducible refine an ?_ ?_) <;> try simp only [tenS, push_cast, ed, reduceCtorEq, ld]))
  all_goals exact finRet0 hwf rfl rfl rfl
 | cons b s =>
  (repeat' first | ((first | refine go rfl rfl ?_ | refine Cl.by_ (by (first | refine makeSet_v _ | refine trimR_v _ _ _ (by simp [Sha.look]) hs | refine trimL_v _ _ _ (by simp [Sha.look]) hlr)) ?_ | (refine Fk.by_ ?_ ?_ <;> intro hc <;> try simp only [hc]) | refine storeK_eq rfl ?_ | with_reducible refine an ?_ ?_) <;> try simp only [push_cast, ed, reduceCtorEq, ld]))
  all_goals refine finC (hwf) (by simp only [F37, push_cast, ed, reduceCtorEq, ld]; exact rfl) (by first | exact .inl rfl | (right; simp only [F37, push_cast, ed, reduceCtorEq, ld]; try rfl)) (by first | rfl | assumption) (by simp [(hwf).z])
def digsB (s : List UInt8) : Bool := s != [] && s.all digB && (s.length == 1 || s[0]? != some 48)
theorem digits_v (s : List UInt8) (st : St) (hs : s.length < 4611686018427387904) : VRet Tryz.prog 36 [.str s] st (.bool (digsB s)) st := by
 refine vc F36_ok rfl (fun hwf => ?_)
 have ht := trim_all s
 cases s with
 | nil =>
  (repeat' first | ((first | refine go rfl rfl ?_ | (refine Fk.by_ ?_ ?_ <;> intro hc <;> try simp only [hc]) | refine storeK_eq rfl ?_ | with_reducible refine an ?_ ?_) <;> try simp only [push_cast, ed, reduceCtorEq, ld]))
  all_goals exact finRet0 hwf rfl rfl rfl
 | cons b s =>
  have h0 : (b :: s != []) = true := rfl
  have h1 : (((s.length : Int) + 1 == 1)) = ((b :: s).length == 1) := by
   rw [Bool.eq_iff_iff]; simp only [beq_iff_eq, List.length_cons]; omega
  have h2 : (((b.toNat : Int)) != 48) = ((b :: s)[0]? != some 48) := by
   rw [Bool.eq_iff_iff]; simp only [bne_iff_ne, ne_eq, List.getElem?_cons_zero, Option.some.injEq]
   constructor
   ·rintro h rfl; exact h rfl
   ·intro h e; exact h (UInt8.toNat_inj.1 (by have : (48 : UInt8).toNat = 48 := rfl; omega))
  have hR : digsB (b :: s) = ((digB b && s.all digB) && (((s.length : Int) + 1 == 1) || (((b.toNat : Int)) != 48))) := by rw [h1, h2]; rfl
  (repeat' first | ((first | refine go rfl rfl ?_ | refine Cl.by_ (by (first | refine trimD_v _ _ hs)) ?_ | (refine Fk.by_ ?_ ?_ <;> intro hc <;> try simp only [hc]) | refine storeK_eq rfl ?_ | with_reducible refine an ?_ ?_) <;> try simp only [h0, ht, push_cast, ed, reduceCtorEq, ld]))
  all_goals exact finRet0 hwf rfl (by rw [hR]; clear h1 h2 hR ht h0; simp [resOne, *]) rfl
def numD (s : List UInt8) : Nat := s.foldl (fun n b => 10 * n + (b.toNat - 48)) 0
theorem parse_digs : ∀ (s : List UInt8) (acc : Nat), s.all digB = true → acc < 18446744073709551616 → Lib.parseUint10 acc s = if s.foldl (fun n b => 10 * n + (b.toNat - 48)) acc < 18446744073709551616 then .ok (s.foldl (fun n b => 10 * n + (b.toNat - 48)) acc) else .range
 | [], acc, _, h => by simp [Lib.parseUint10, h]
 | b :: s, acc, h, ha => by
  have mono : ∀ (s : List UInt8) (n : Nat), n ≤ s.foldl (fun n b => 10 * n + (b.toNat - 48)) n := by
   intro s
   induction s with
   | nil => intro n; exact Nat.le_refl _
   | cons c s ih => intro n; rw [List.foldl_cons]; refine Nat.le_trans ?_ (ih _); omega
  simp only [List.all_cons, Bool.and_eq_true] at h
  obtain ⟨hb, hs⟩ := h
  have hb' : 48 ≤ b.toNat ∧ b.toNat ≤ 57 := by
   simp only [digB, isDig, Bool.and_eq_true, decide_eq_true_eq] at hb; omega
  rw [Lib.parseUint10, if_pos hb', List.foldl_cons]
  have hm := mono s (10 * acc + (b.toNat - 48))
  by_cases h1 : 1844674407370955162 ≤ acc
  ·rw [if_pos h1, if_neg (by omega)]
  ·rw [if_neg h1]
   by_cases h2 : 18446744073709551616 ≤ acc * 10 + (b.toNat - 48)
   ·rw [if_pos h2, if_neg (by omega)]
   ·rw [if_neg h2, parse_digs s _ hs (by omega), Nat.mul_comm]
theorem atoi_digs {s : List UInt8} (h0 : s ≠ []) (h : s.all digB = true) : Lib.atoiAll s = if numD s < 9223372036854775808 then .ok (numD s : Int) else .range := by
 cases s with
 | nil => exact absurd rfl h0
 | cons b s =>
  have hb : digB b = true := by simp only [List.all_cons, Bool.and_eq_true] at h; exact h.1
  have hb' : 48 ≤ b.toNat ∧ b.toNat ≤ 57 := by
   simp only [digB, isDig, Bool.and_eq_true, decide_eq_true_eq] at hb; omega
  rw [Lib.atoiAll_plain b s (by omega) (by omega), Lib.parseMag, if_neg (by simp), parse_digs (b :: s) 0 h (by omega)]
  show Lib.signless (if numD (b :: s) < 18446744073709551616 then .ok (numD (b :: s)) else .range) = _
  by_cases h1 : numD (b :: s) < 18446744073709551616
  ·rw [if_pos h1]
   unfold Lib.signless
   by_cases h2 : numD (b :: s) < 9223372036854775808
   ·rw [if_pos h2]; simp only; rw [if_neg (by omega)]
   ·rw [if_neg h2]; simp only; rw [if_pos (by omega)]
  ·rw [if_neg h1, if_neg (by omega)]; rfl
def capV (n : Nat) : Nat := min n 1099511627776
theorem callable87 : Callable Tryz.prog 87 := ⟨_, Tryz.func87, by kernel_rfl, by kernel_rfl⟩
theorem atoi_ok_v (s : List UInt8) (st : St) (hs : s.length < 140737488355328) (h0 : s ≠ []) (h : s.all digB = true) (hn : numD s < 9223372036854775808) : VRet Tryz.prog 87 [.str s] st (.tup [.int .i64 (numD s), .nili]) st := by
 refine VRet_of_below callable87 (fun w A vs hw ha => ?_)
 obtain ⟨u, rfl, h1⟩ := ha.one
 have e1 := h1.str_inv
 subst e1
 have hat := atoi_digs h0 h
 rw [if_pos hn] at hat
 refine (Tryz.strconv_Atoi_ok ⟨s.toArray⟩ (by simp [ByteArray.size]; omega) (numD s : Int) (by simpa using hat) w).mono fun e w' ⟨he, hb⟩ => ?_
 subst he
 refine ⟨_, rfl, fun w' A' => ?_, ?_⟩
 ·refine .tup [.int .i64 (numD s), .nilIface] [.int .i64 (numD s), .nili] rfl (fun i v c h1 h2 => ?_)
  match i, h1, h2 with
  | 0, h1, h2 => simp at h1 h2; subst h1 h2; exact .int _ _
  | 1, h1, h2 => simp at h1 h2; subst h1 h2; exact .nili
 ·rcases hb with rfl | ⟨t, rfl⟩
  ·exact Below.refl _ _
  ·exact Lib.bytesWorld_below w 5 t
theorem atoi_range_v (s : List UInt8) (st : St) (hg : GlOk st.x.gl) (hs : s.length < 140737488355328) (h0 : s ≠ []) (h : s.all digB = true) (hn : ¬ numD s < 9223372036854775808) : VRet Tryz.prog 87 [.str s] st (.tup [.und, .iface 189 .und]) st := by
 refine .inl ⟨callable87, fun w A vs hw ha => ?_⟩
 obtain ⟨u, rfl, h1⟩ := ha.one
 have e1 := h1.str_inv
 subst e1
 have hat := atoi_digs h0 h
 rw [if_neg hn] at hat
 obtain ⟨cs, T, fz, ev, g1, g2, g3⟩ := hg.err
 have hcell : w.cell? ⟨8, 0, none⟩ = some ev := by
  unfold World.cell?
  rw [(hw.x.gl _ g1).1]
  simpa using g2
 refine (Tryz.strconv_Atoi_range ⟨s.toArray⟩ (by simp [ByteArray.size]; omega) (by simpa using hat) ev w hcell g3).mono fun e w' ⟨N, he, _, _, hb⟩ => ?_
 subst he
 refine ⟨.ret (.tup [.und, .iface 189 .und]), A, st, ⟨rfl, rfl⟩, ?_, hw.below hb, Ext.below hw hb⟩
 refine .tup [_, _] [.und, .iface 189 .und] rfl (fun i v c h1 h2 => ?_)
 match i, h1, h2 with
 | 0, h1, h2 => simp at h1 h2; subst h1 h2; exact .und _
 | 1, h1, h2 => simp at h1 h2; subst h1 h2; exact .iface _ _ _ (.und _)
theorem value_v (s : List UInt8) (st : St) (hg : GlOk st.x.gl) (hs : s.length < 140737488355328) (h0 : s ≠ []) (h : s.all digB = true) : VRet Tryz.prog 38 [.str s] st (.int .i64 (capV (numD s))) st := by
 refine vc F38_ok rfl (fun hwf => ?_)
 by_cases hn : numD s < 9223372036854775808
 ·(repeat' first | ((first | refine go rfl rfl ?_ | refine Cl.by_ (by (first | refine atoi_ok_v _ _ hs h0 h hn)) ?_ | (refine Fk.by_ ?_ ?_ <;> intro hc <;> try simp only [hc]) | refine storeK_eq rfl ?_ | with_reducible refine an ?_ ?_) <;> try simp only [push_cast, ed, reduceCtorEq, ld]))
  all_goals exact finRet0 hwf rfl (by simp only [resOne, capV]; congr 1; split <;> omega) rfl
 ·(repeat' first | ((first | refine go rfl rfl ?_ | refine Cl.by_ (by (first | refine atoi_range_v _ _ hg hs h0 h hn)) ?_ | (refine Fk.by_ ?_ ?_ <;> intro hc <;> try simp only [hc]) | refine storeK_eq rfl ?_ | with_reducible refine an ?_ ?_) <;> try simp only [push_cast, ed, reduceCtorEq, ld]))
  all_goals exact finRet0 hwf rfl (by simp only [resOne, capV]; congr 1; omega) rfl
abbrev namesB : List (List UInt8) := [[105, 110, 116, 101, 110, 115, 105, 116, 121], [112, 97, 110], [116, 105, 108, 116], [114, 101, 100], [103, 114, 101, 101, 110], [98, 108, 117, 101], [119, 104, 105, 116, 101], [97, 109, 98, 101, 114], [99, 121, 97, 110], [109, 97, 103, 101, 110, 116, 97], [121, 101, 108, 108, 111, 119], [103, 111, 98, 111], [115, 104, 117, 116, 116, 101, 114], [122, 111, 111, 109], [102, 111, 99, 117, 115]]
def idxB (w : List UInt8) : List (List UInt8) → Nat
 | [] => 0
 | x :: r => if (x == w) = true then 0 else idxB w r + 1
def attrN (w : List UInt8) : Int × Int :=
 if idxB w namesB < 15 then ((idxB w namesB : Int), 0) else if (w == [112, 111, 115, 105, 116, 105, 111, 110]) = true then (16, 0) else if (w == [99, 111, 108, 111, 117, 114]) = true then (17, 0) else if (w == [98, 101, 97, 109]) = true then (18, 0) else (0, 8)
def msS (s : List UInt8) : Int := 1000 * (capV (numD (cutW 46 s)) : Int) + (capV (numD (49 :: (cutR 46 s ++ [48, 48, 48]).take 3)) : Int) - 1000
def secBad (s : List UInt8) : Bool := !(digsB (cutW 46 s)) || (cutP 46 s && (cutR 46 s == [] || decide (3 < ((cutR 46 s).length : Int)) || !((cutR 46 s).all digB)))
def secN (s : List UInt8) : Int × Int := if secBad s = true then (0, 3) else if decide (10000000 < msS s) = true then (0, 2) else (msS s, 0)
def dig3 (s : List UInt8) : Bool := decide (1 ≤ s.length) && decide (s.length ≤ 3) && s.all digB
def thouN (s : List UInt8) : Option Nat := if (!(dig3 (cutW 46 s)) || (decide (1 < (cutW 46 s).length) && (cutW 46 s)[0]? == some 48) || (cutP 46 s && !(dig3 (cutR 46 s)))) = true then none else some (numD (cutW 46 s ++ (cutR 46 s ++ [48, 48, 48]).take 3))
def ofN (n : Nat) : Nat := (65535 * n + 50000) / 100000
def pctN (s : List UInt8) : Int × Int := if (s == [102, 117, 108, 108]) = true then (65535, 0) else match thouN s with
 | none => (0, 3)
 | some n => if decide (100000 < (n : Int)) = true then (0, 2) else ((ofN n : Int), 0)
def digs1 (s : List UInt8) : Bool := s != [] && s.all digB
def chkBad (s : List UInt8) : Bool := !(digs1 (cutW 46 s)) || (cutP 46 s && (!(digs1 (cutR 46 s)) || (cutR 46 s).getLast? == some 48)) || ((cutW 46 s).length != 1 && (cutW 46 s)[0]? == some 48)
def chkN (s : List UInt8) : Int := if chkBad s = true then 3 else if (s == [48] || decide (4 < (cutW 46 s).length) || decide (3 < (cutR 46 s).length)) = true then 2 else 0
structure Sel where
 op : Int
 g : Int
 f : Int
 t : Int
 deriving DecidableEq
structure Fix where
 ch : Int
 pt : Int
 pf : List UInt8
 un : Int
 ad : Int
 ph : Int
 deriving DecidableEq
structure Cmd where
 kind : Int
 verb : List UInt8
 obj : List UInt8
 num : List UInt8
 list : Int
 sel : Option (List Sel)
 attr : Int
 lev : Int
 pal : Int
 time : Int
 fl : Int
 pl : Fix
 deriving DecidableEq
def selV (x : Sel) : V := .agg [.int .i64 x.op, .int .i64 x.g, .int .i64 x.f, .int .i64 x.t]
def fixV (x : Fix) : V := .agg [.int .i64 x.ch, .int .i64 x.pt, .str x.pf, .int .i64 x.un, .int .i64 x.ad, .int .i64 x.ph, .str []]
def fix0 : Fix := ⟨0, 0, [], 0, 0, 0⟩
def cmd0 : Cmd := ⟨0, [], [], [], 0, none, 0, 0, 0, 0, 0, fix0⟩
def selsV (l : List Sel) : V := .sl (l.map selV)
def selO : Option (List Sel) → V
 | none => .nils
 | some l => selsV l
def cmdL (c : Cmd) : List V := [.int .i64 c.kind, .str c.verb, .str c.obj, .str c.num, .int .i64 c.list, selO c.sel, .int .i64 c.attr, .int .i64 c.lev, .int .i64 c.pal, .int .i64 c.time, .int .i64 c.fl, .int .i64 c.pl.ch, .int .i64 c.pl.pt, .str c.pl.pf, .int .i64 c.pl.un, .int .i64 c.pl.ad, .int .i64 c.pl.ph, .str [], .nils]
def cmdV (c : Cmd) : V := .agg (cmdL c)
def rInt (most : Int) : Rd Int := rNext rNumber fun s ts => if (!(digsB s)) = true then .error ((hd ts).a, 4) else if (decide ((capV (numD s) : Int) < 1) || decide (most < (capV (numD s) : Int))) = true then .error ((hd ts).a, 2) else .ok ((capV (numD s) : Int), ts.tail)
def rCue : Rd (List UInt8) := rNext rNumber fun s => rNext (rMust (chkN s)) fun _ ts => .ok ((hd ts).t, ts.tail)
def rLevel : Rd Int := fun ts => (rNext (if hdIs 0 [102, 117, 108, 108] ts = true then rOk (hd ts).t else rNumber) fun s => rNext (rMust (pctN s).2) fun _ ts => .ok ((pctN s).1, ts.tail)) ts
def rTime : Rd Int := rNext (rWord [[116, 105, 109, 101]]) fun w => if (w == []) = true then rOk (-1) else rNext rNumber fun s => rNext (rMust (secN s).2) fun _ ts => .ok ((secN s).1, ts.tail)
def rUnit : Rd Fix := rNext rNumber fun s ts =>
 let rest := if cutP 46 s = true then cutR 46 s else [49]
 if (!(digsB (cutW 46 s)) || !(digsB rest)) = true then .error ((hd ts).a, 4) else
 if (decide ((capV (numD (cutW 46 s)) : Int) < 1) || decide (999 < (capV (numD (cutW 46 s)) : Int)) || decide ((capV (numD rest) : Int) < 1) || decide (64 < (capV (numD rest) : Int))) = true then .error ((hd ts).a, 2) else .ok (⟨capV (numD (cutW 46 s)), capV (numD rest), [], 0, 0, 0⟩, ts.tail)
noncomputable def rProfile : Rd (List UInt8) := fun ts => if ((hd ts).k != 0) = true then .error ((hd ts).a, 4) else if (wordN (hd ts).t == 8) = true then .error ((hd ts).a, 4) else if (wordN (hd ts).t == 13) = true then .error ((hd ts).a, 8) else .ok ((hd ts).t, ts.tail)
def rTerm (op : Int) : Rd Sel := rNext (rWord [[103, 114, 111, 117, 112]]) fun w => if (w != []) = true then rNext (rInt 1048576) fun n => rOk ⟨op, n, 0, 0⟩ else
 rNext (rInt 999) fun a => rNext (rWord [[116, 104, 114, 117]]) fun w ts => if (w != []) = true then (rNext (rInt 999) fun b ts' => if decide (b < a) = true then .error ((hd ts).a, 9) else .ok (⟨op, 0, a, b⟩, ts')) ts else .ok (⟨op, 0, a, a⟩, ts)
def rMore (acc : List Sel) : Nat → Rd (List Sel)
 | 0 => rOk acc
 | n + 1 => rNext (rSign [43]) fun p => if p = true then rNext (rTerm 0) fun x => rMore (acc ++ [x]) n else rNext (rSign [45]) fun m => if m = true then rNext (rTerm 1) fun x => rMore (acc ++ [x]) n else rOk acc
def rSelection : Rd (List Sel) := rNext (rTerm 0) fun x ts => rMore [x] ts.length ts
def rKind (none : Int) : Rd Int := fun ts => if ((hd ts).k != 0) = true then .ok (none, ts) else if ((attrN (hd ts).t).2 != 0) = true then .ok (none, ts) else .ok ((attrN (hd ts).t).1, ts.tail)
def rPl : Rd (Int × List UInt8) := rNext (rInt 1048576) fun n => rNext rSlash fun _ => rNext rCue fun q => rOk (n, q)
def rPlace (c : Cmd) : Rd Cmd := rNext rPl fun nq => rOk { c with list := nq.1, num := nq.2 }
def rSet : Rd Cmd := rNext rSelection fun l => rNext (rKind 0) fun a => rNext (rNeed [[97, 116]]) fun _ => rNext (rWord [[112, 97, 108, 101, 116, 116, 101], [104, 111, 109, 101]]) fun w =>
 let c : Cmd := { cmd0 with kind := 0, verb := [97, 116], sel := some l, attr := a }
 if (w == [112, 97, 108, 101, 116, 116, 101]) = true then rNext (rInt 1048576) fun n => rNext rTime fun t => rOk { c with pal := n, time := t }
 else if (w == [104, 111, 109, 101]) = true then rNext rTime fun t => rOk { c with pal := -1, time := t }
 else fun ts => if decide (15 ≤ a) = true then .error ((hd ts).a, 4) else (rNext rLevel fun v => rNext rTime fun t => rOk { c with lev := v, time := t }) ts
def rClear : Rd Cmd := fun ts => if ((hd ts).k != 3) = true then (rNext rSelection fun l => rNext (rKind (-1)) fun a => rOk { cmd0 with kind := 1, verb := [99, 108, 101, 97, 114], sel := some l, attr := a }) ts else .ok ({ cmd0 with kind := 1, verb := [99, 108, 101, 97, 114], attr := -1 }, ts)
def rRecord : Rd Cmd := rNext (rNeed [[99, 117, 101], [112, 97, 108, 101, 116, 116, 101], [115, 117, 98], [103, 114, 111, 117, 112]]) fun w =>
 let c : Cmd := { cmd0 with kind := 2, verb := [114, 101, 99, 111, 114, 100], obj := w }
 if (w != [99, 117, 101]) = true then rNext (rInt 1048576) fun n => if (w == [103, 114, 111, 117, 112]) = true then rNext rSelection fun l => rOk { c with list := n, sel := some l } else rOk { c with list := n }
 else rNext (rPlace c) fun c => rNext (rWord [[111, 110, 108, 121]]) fun o => rNext (rWord [[112, 97, 114, 116]]) fun p => rNext (if (p != []) = true then rInt 4 else rOk 1) fun v => rNext rTime fun t => rOk { c with fl := if (o != []) = true then 1 else 0, lev := v, time := t }
def rUpdate : Rd Cmd := rNext (rNeed [[99, 117, 101]]) fun w => rPlace { cmd0 with kind := 3, verb := [117, 112, 100, 97, 116, 101], obj := w }
def rRemove : Rd Cmd := rNext (rNeed [[99, 117, 101], [112, 97, 108, 101, 116, 116, 101], [103, 114, 111, 117, 112], [115, 117, 98], [101, 102, 102, 101, 99, 116], [102, 105, 120, 116, 117, 114, 101]]) fun w =>
 let c : Cmd := { cmd0 with kind := 4, verb := [100, 101, 108, 101, 116, 101], obj := w }
 if (w == [99, 117, 101]) = true then rNext (rPlace c) fun c => rNext (rWord [[107, 101, 101, 112]]) fun k => rOk { c with fl := if (k != []) = true then 2 else 0 }
 else if (w == [102, 105, 120, 116, 117, 114, 101]) = true then rNext rUnit fun f => rOk { c with pl := f } else rNext (rInt 1048576) fun n => rOk { c with list := n }
noncomputable def rPatch : Rd Cmd := rNext rUnit fun f => rNext rProfile fun p => rNext (rNeed [[97, 116]]) fun _ => rNext (rInt 8) fun u => rNext rSlash fun _ => rNext (rInt 512) fun a => rNext (rWord [[112, 104, 97, 115, 101]]) fun w => rNext (if (w != []) = true then rInt 3 else rOk 1) fun ph => rOk { cmd0 with kind := 5, verb := [112, 97, 116, 99, 104], pl := ⟨f.ch, f.pt, p, u, a, ph⟩ }
def rPlay (verb : List UInt8) : Rd Cmd := rNext (rInt 1048576) fun n =>
 let c : Cmd := { cmd0 with kind := 6, verb := verb, list := n }
 if (verb == [103, 111, 116, 111]) = true then rNext (rNeed [[99, 117, 101]]) fun _ => rNext rCue fun q => rOk { c with num := q }
 else if (verb == [114, 97, 116, 101]) = true then rNext (rNeed [[97, 116]]) fun _ => rNext (rInt 400) fun v => rOk { c with lev := v }
 else if (verb == [114, 101, 108, 101, 97, 115, 101]) = true then rNext rTime fun t => rOk { c with time := t } else rOk c
def rFader (verb : List UInt8) : Rd Cmd := rNext (if (verb != [109, 97, 115, 116, 101, 114]) = true then rInt 1048576 else rOk 0) fun n => rNext (rNeed [[97, 116]]) fun _ => rNext rLevel fun v => rNext rTime fun t => rOk { cmd0 with kind := 7, verb := verb, list := n, lev := v, time := t }
def rBlackout (verb : List UInt8) : Rd Cmd := rNext (rNeed [[111, 110], [111, 102, 102]]) fun w => rOk { cmd0 with kind := 7, verb := verb, lev := if (w == [111, 110]) = true then 1 else 0 }
def rEffect (verb : List UInt8) : Rd Cmd := rNext (rInt 1048576) fun n =>
 let c : Cmd := { cmd0 with kind := 8, verb := verb, list := n }
 if (verb == [115, 116, 111, 112]) = true then rOk c else rNext (rNeed [[111, 110], [97, 116]]) fun w => if (w == [111, 110]) = true then rNext rSelection fun l => rOk { c with sel := some l } else rNext (rInt 400) fun v => rOk { c with verb := [115, 112, 101, 101, 100], lev := v }
def rUndo (verb : List UInt8) : Rd Cmd := rOk { cmd0 with kind := 9, verb := verb }
noncomputable def tabV : List (List UInt8 × Nat × (List UInt8 → Rd Cmd)) := [([99, 108, 101, 97, 114], 114, fun _ => rClear), ([114, 101, 99, 111, 114, 100], 115, fun _ => rRecord), ([117, 112, 100, 97, 116, 101], 116, fun _ => rUpdate), ([100, 101, 108, 101, 116, 101], 117, fun _ => rRemove), ([112, 97, 116, 99, 104], 118, fun _ => rPatch), ([98, 108, 97, 99, 107, 111, 117, 116], 119, rBlackout), ([103, 111], 121, rPlay), ([98, 97, 99, 107], 121, rPlay), ([112, 97, 117, 115, 101], 121, rPlay), ([114, 101, 115, 117, 109, 101], 121, rPlay), ([114, 101, 118, 101, 114, 115, 101], 121, rPlay), ([103, 111, 116, 111], 121, rPlay), ([114, 97, 116, 101], 121, rPlay), ([114, 101, 108, 101, 97, 115, 101], 121, rPlay), ([108, 105, 115, 116], 122, rFader), ([115, 117, 98], 122, rFader), ([109, 97, 115, 116, 101, 114], 122, rFader), ([101, 102, 102, 101, 99, 116], 123, rEffect), ([115, 116, 111, 112], 123, rEffect), ([117, 110, 100, 111], 124, rUndo), ([114, 101, 100, 111], 124, rUndo)]
noncomputable def lukT (t : List UInt8) : List (List UInt8 × Nat × (List UInt8 → Rd Cmd)) → Option (Nat × (List UInt8 → Rd Cmd))
 | [] => none
 | p :: r => if t = p.1 then some p.2 else lukT t r
noncomputable def rCommand : Rd Cmd := fun ts => if ((hd ts).k != 0 || (hd ts).t == [103, 114, 111, 117, 112]) = true then rSet ts else match lukT (hd ts).t tabV with
 | none => .error ((hd ts).a, 4)
 | some q => q.2 (hd ts).t ts.tail
end Go.Proofs.YtnondemehfkalaaGreatDoor

namespace Go.Proofs.YtnondemehfkalaaGreatDoor
open Go.Sha Go.RowKit
open Nat renaming reduceEqDiff → ed, reduceLeDiff → ld
open Option renaming map_some → om
open Bool renaming false_eq_true → bf
theorem capV_le (n : Nat) : capV n ≤ 1099511627776 := Nat.min_le_right _ _
theorem digsB_ok {s : List UInt8} (h : digsB s = true) : s ≠ [] ∧ s.all digB = true := by
 simp only [digsB, Bool.and_eq_true, bne_iff_ne] at h; exact ⟨h.1.1, h.1.2⟩
theorem sec_ok {s : List UInt8} (h : secBad s = false) : digsB (cutW 46 s) = true ∧ (cutP 46 s = true → (cutR 46 s).all digB = true) := by
 simp only [secBad, Bool.or_eq_false_iff, Bool.and_eq_false_iff, Bool.not_eq_false'] at h
 refine ⟨h.1, fun hp => ?_⟩
 rcases h.2 with h | h
 ·rw [hp] at h; cases h
 ·exact h.2
theorem cutR_none {c : UInt8} {s : List UInt8} (h : cutP c s = false) : cutR c s = [] := by
 simp only [cutP, decide_eq_false_iff_not] at h
 exact List.drop_eq_nil_of_le (by omega)
theorem take_all {p : UInt8 → Bool} {l : List UInt8} {n : Nat} (h : l.all p = true) : (l.take n).all p = true := by
 rw [List.all_eq_true] at h ⊢
 exact fun x hx => h x (List.mem_of_mem_take hx)
theorem sl3 (l : List UInt8) : sliceS (l ++ [48, 48, 48]) (some 0) (natV (.int .i64 3)) = some (.str ((l ++ [48, 48, 48]).take 3)) := by
 have h : (3 : Nat) ≤ (l ++ [48, 48, 48]).length := by simp
 have h2 : natV (.int .i64 3) = some 3 := by rfl
 simp only [sliceS, h2, Option.bind_some]
 rw [if_pos ⟨Nat.zero_le _, h⟩]
 simp
theorem seconds_v (s : List UInt8) (st : St) (hg : GlOk st.x.gl) (hs : s.length < 140737488355328) : VRet Tryz.prog 15 [.str s] st (.tup [.int .i64 (secN s).1, .int .i64 (secN s).2]) st := by
 have h1 : (cutW 46 s).length ≤ s.length := by unfold cutW; rw [List.length_take]; omega
 have h2 : (cutR 46 s).length ≤ s.length := by unfold cutR; rw [List.length_drop]; omega
 have ht := trim_all (cutR 46 s)
 have ht' : (trL (trR (cutR 46 s)) != []) = !((cutR 46 s).all digB) := by rw [← ht]; rfl
 have hv1 : secBad s = false → VRet Tryz.prog 38 [.str (cutW 46 s)] st (.int .i64 (capV (numD (cutW 46 s)))) st := fun h => by
  obtain ⟨q1, q2⟩ := digsB_ok (sec_ok h).1
  exact value_v _ _ hg (by omega) q1 q2
 have hv2 : secBad s = false → VRet Tryz.prog 38 [.str (49 :: (cutR 46 s ++ [48, 48, 48]).take 3)] st (.int .i64 (capV (numD (49 :: (cutR 46 s ++ [48, 48, 48]).take 3)))) st := fun h => by
  refine value_v _ _ hg ?_ (by simp) ?_
  ·rw [List.length_cons, List.length_take]; omega
  ·rw [List.all_cons]
   have : (cutR 46 s).all digB = true := by
    cases hp : cutP 46 s with
    | true => exact (sec_ok h).2 hp
    | false => rw [cutR_none hp]; rfl
   have h3 : (cutR 46 s ++ [48, 48, 48]).all digB = true := by rw [List.all_append, this]; rfl
   rw [take_all h3]; rfl
 have c1 := capV_le (numD (cutW 46 s))
 have c2 := capV_le (numD (49 :: (cutR 46 s ++ [48, 48, 48]).take 3))
 have w1 : IntKind.i64.wrap (1000 * (capV (numD (cutW 46 s)) : Int)) = 1000 * (capV (numD (cutW 46 s)) : Int) := wrap64 (by omega) (by omega)
 have w2 : IntKind.i64.wrap (1000 * (capV (numD (cutW 46 s)) : Int) + (capV (numD (49 :: (cutR 46 s ++ [48, 48, 48]).take 3)) : Int)) = 1000 * (capV (numD (cutW 46 s)) : Int) + (capV (numD (49 :: (cutR 46 s ++ [48, 48, 48]).take 3)) : Int) := wrap64 (by omega) (by omega)
 have w3 : IntKind.i64.wrap (1000 * (capV (numD (cutW 46 s)) : Int) + (capV (numD (49 :: (cutR 46 s ++ [48, 48, 48]).take 3)) : Int) - 1000) = msS s := wrap64 (by omega) (by omega)
 have h3 : (3 : Nat) ≤ (cutR 46 s ++ [48, 48, 48]).length := by simp
 have hl4 : (cutR 46 s).length ≤ 9223372036854775804 := by omega
 have hl5 : 1 + (List.take 3 (cutR 46 s ++ [48, 48, 48])).length ≤ 9223372036854775807 := by rw [List.length_take]; omega
 refine vc F15_ok rfl (fun hwf => ?_)
 (repeat' first | ((first | refine go rfl rfl ?_ | refine Cl.by_ (by (first | refine cut_v _ _ _ (by omega) | refine digits_v _ _ (by omega) | refine trimD_v _ _ (by omega) | refine hv1 (by simp [secBad, *]) | refine hv2 (by simp [secBad, *]))) ?_ | (refine Fk.by_ ?_ ?_ <;> intro hc <;> try simp only [hc]) | refine storeK_eq rfl ?_ | with_reducible refine an ?_ ?_) <;> try simp only [ht', w1, w2, w3, h3, sl3, hl4, hl5, Nat.zero_le, List.drop_zero, push_cast, ed, reduceCtorEq, ld]))
 all_goals exact finRet0 hwf rfl (by simp [resOne, secN, secBad, *]) rfl
theorem sl_new {w : World} {A : Abs} {st : St} (hs : Sim w A st) (vs : List Value) (xs : List V) (e : Nat) (hl : vs.length = xs.length) (hm : xs.length ≤ maxLen) (hc : ∀ x ∈ xs, x.cells = [x])
  (h : ∀ (i : Nat) (v : Value) (x : V), vs[i]? = some v → xs[i]? = some x → v.oneCell' = true ∧ Rep w A v x) :
  ∃ A', Sim (w.alloc (.cells vs.toArray e)) A' ⟨st.nx + 1, st.mem, (st.nx, ⟨e, 1, xs, false, false⟩) :: st.arr, st.x⟩ ∧ Ext w A (w.alloc (.cells vs.toArray e)) A' ∧ Rep (w.alloc (.cells vs.toArray e)) A' (.slice (some ⟨w.heap.size, 0, none⟩) xs.length xs.length) (.sl xs) := by
 have hx := Ext.newArr (w0 := w) hs ⟨rfl, rfl, rfl, rfl⟩ (.cells vs.toArray e) xs.length (.slice (some ⟨w.heap.size, 0, none⟩) xs.length xs.length) (!false) (xs.length * 1)
 have hcell : ∀ (i : Nat) (x : V), xs[i]? = some x → ∃ v, vs[i]? = some v ∧ v.oneCell' = true ∧ Rep w A v x := fun i x hi => by
  have hlt : i < vs.length := by rw [hl]; exact (List.getElem?_eq_some_iff.1 hi).1
  obtain ⟨q1, q2⟩ := h i vs[i] x (List.getElem?_eq_getElem hlt) hi
  exact ⟨_, List.getElem?_eq_getElem hlt, q1, q2⟩
 refine ⟨_, Sim.newArr (w0 := w) hs ⟨rfl, rfl, rfl, rfl⟩ (cur := vs.toArray) (xs := xs) (e := e) (es := 1) (cap := xs.length) (wr := false) (fz := false) (fun x hx => by rw [hc x hx]; rfl) (Nat.le_refl _) hm (by simp [hl]) (fun i j x c hi hj => ?_), hx, ?_⟩
 ·rw [hc x (List.mem_of_getElem? hi)] at hj
  match j, hj with
  | 0, hj =>
   simp at hj; subst hj
   obtain ⟨v, q1, q2, q3⟩ := hcell i x hi
   exact ⟨v, by simpa using q1, q2, q3⟩
 ·refine .sl xs w.heap.size 0 xs.length 1 (fun i _ => vs[i]?.getD .nilIface) (fun x hx => by rw [hc x hx]; rfl) (Nat.le_refl _) hm (fun i j x c hi hj => ?_) (fun i j x c hi hj => ?_)
  ·rw [hc x (List.mem_of_getElem? hi)] at hj
   match j, hj with
   | 0, hj =>
    simp at hj; subst hj
    obtain ⟨v, q1, q2, q3⟩ := hcell i x hi
    have hlt := (List.getElem?_eq_some_iff.1 hi).1
    refine ⟨.inr ⟨rfl, rfl, by omega⟩, ?_, by rw [q1]; exact q2⟩
    have := World.cell?_alloc_new w vs.toArray e i
    simp only [Nat.zero_add, Nat.mul_one, Nat.add_zero]
    rw [q1]
    unfold World.cell?
    rw [heap_alloc_new]
    simpa using q1
  ·rw [hc x (List.mem_of_getElem? hi)] at hj
   match j, hj with
   | 0, hj =>
    simp at hj; subst hj
    obtain ⟨v, q1, q2, q3⟩ := hcell i x hi
    simp only [q1]
    exact q3.mono hx
def attrsS : List UInt8 := [105, 110, 116, 101, 110, 115, 105, 116, 121, 32, 112, 97, 110, 32, 116, 105, 108, 116, 32, 114, 101, 100, 32, 103, 114, 101, 101, 110, 32, 98, 108, 117, 101, 32, 119, 104, 105, 116, 101, 32, 97, 109, 98, 101, 114, 32, 99, 121, 97, 110, 32, 109, 97, 103, 101, 110, 116, 97, 32, 121, 101, 108, 108, 111, 119, 32, 103, 111, 98, 111, 32, 115, 104, 117, 116, 116, 101, 114, 32, 122, 111, 111, 109, 32, 102, 111, 99, 117, 115]
theorem attr_fields : Lib.fields attrsS = namesB := by decide +kernel
theorem callable32 : Callable Tryz.prog 32 := ⟨_, Tryz.func32, by kernel_rfl, by kernel_rfl⟩
theorem fields_v (st : St) (hg : GlOk st.x.gl) : VRet Tryz.prog 32 [.str attrsS] st (.sl (namesB.map .str)) ⟨st.nx + 1, st.mem, (st.nx, ⟨9, 1, namesB.map .str, false, false⟩) :: st.arr, st.x⟩ := by
 refine .inl ⟨callable32, fun w A vs hw ha => ?_⟩
 obtain ⟨u, rfl, h1⟩ := ha.one
 have e1 := h1.str_inv
 subst e1
 obtain ⟨g, T, fz, g1, g2⟩ := hg.spc
 have htab : Lib.TabIs Tryz.prog w "strings.asciiSpace" .u8 Lib.asciiSpaceTab := by
  have := (hw.x.gl _ g2).1
  simp only [Lib.TabIs, World.var?, g1, Option.bind_some, this]
 refine (Tryz.strings_Fields ⟨attrsS.toArray⟩ w (by decide) (fun j b hj => by
  have := List.all_eq_true.1 (show attrsS.all (fun b => decide (b.toNat < 128)) = true from rfl) b (List.mem_of_getElem? hj)
  simpa using this) htab).mono fun e w' ⟨he, hb⟩ => ?_
 subst he; subst hb
 have hn : Lib.fields attrsS = namesB := attr_fields
 obtain ⟨A', q1, q2, q3⟩ := sl_new hw (namesB.map fun l => Value.string ⟨l.toArray⟩) (namesB.map .str) 9 rfl (by decide) (fun x hx => by
  obtain ⟨l, _, rfl⟩ := List.mem_map.1 hx; rfl) (fun i v x hi hx => by
  rw [List.getElem?_map] at hi hx
  cases hk : namesB[i]? with
  | none => rw [hk] at hi; cases hi
  | some l => rw [hk] at hi hx; cases hi; cases hx; exact ⟨rfl, .str _⟩)
 refine ⟨.ret (.sl (namesB.map .str)), A', _, ⟨rfl, rfl⟩, ?_, ?_, ?_⟩
 ·show EndRel _ _ (.returned (.slice (some ⟨w.heap.size, 0, none⟩) (Lib.fields attrsS).length (Lib.fields attrsS).length)) _
  rw [hn]; exact q3
 ·show Sim (w.alloc (.cells ((Lib.fields attrsS).map fun l => Value.string ⟨l.toArray⟩).toArray 9)) _ _
  rw [hn]; exact q1
 ·show Ext _ _ (w.alloc (.cells ((Lib.fields attrsS).map fun l => Value.string ⟨l.toArray⟩).toArray 9)) _
  rw [hn]; exact q2
end Go.Proofs.YtnondemehfkalaaGreatDoor
