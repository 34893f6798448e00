/- The compiled code of the functions of this seat, printed by a program (ShaMain), and that it is the translation's: checked by the kernel. The lexer's small functions: what bytes are. What is a sign, by strings.IndexByte. The reader: is, skip. made, lower. The lexer's token. lexer.Scan. The reference's word, number, quoted, Lower. The reference's quoted, Lower. The reference's Token, Scan. slices.Equal of tokens; the chapter's examples; LexerScans. one; Quote and Unquote. Word and Number. The compiled code of the functions of this seat, printed by a program (ShaMain), and that it is the translation's: checked by the kernel. -/
import Derived.Test.YtnondemehfkalaaGreatDoorShaY
import Derived.Test.YtnondemehfkalaaGreatDoorProg
import Derived.KernelRfl
import Derived.Test.YtnondemehfkalaaGreatDoorShaV
set_option linter.unusedSimpArgs false
set_option linter.unusedVariables false
namespace Go.Proofs.YtnondemehfkalaaGreatDoor
open Go.Sha
/-- luminaire/lexer.Scan -/
def F60 : FT := ⟨41, 1, [.tmp 2, .tmp 3, .tmp 4],
  [.seq 1 2,
   .reg [⟨(some 2), .mv (.c .nils), none⟩,
      ⟨(some 3), .mv (.c (.int .i64 0)), none⟩,
      ⟨(some 4), .mv (.c (.int .i64 0)), none⟩],
   .seq 3 10,
   .seq 4 5,
   .reg [⟨(some 9), .mv (.t 0), none⟩,
      ⟨(some 10), .lens (.t 9), none⟩,
      ⟨(some 11), .bin .gtr (.t 10) (.c (.int .i64 4096)), none⟩],
   .cond (.t 11) 6 9,
   .seq 7 8,
   .reg [⟨(some 2), .mv (.c .nils), none⟩,
      ⟨(some 3), .mv (.c (.int .i64 0)), none⟩,
      ⟨(some 4), .mv (.c (.int .i64 13)), none⟩],
   .ret,
   .skip,
   .seq 11 12,
   .reg [⟨(some 12), .mv (.t 0), none⟩,
      ⟨(some 13), .build [(.str []), (.int .i64 0)] [(0, 1, (.t 12))], none⟩,
      ⟨(some 14), .box 139 (.t 13), none⟩,
      ⟨(some 5), .mv (.t 14), none⟩],
   .seq 13 14,
   .reg [⟨(some 6), .mv (.c .nils), none⟩],
   .block 0 15,
   .loop 16,
   .block 1 17,
   .seq 18 19,
   .reg [⟨(some 16), .mv (.t 5), none⟩,
      ⟨(some 17), .call (.c (.fn (.func 107) [] [])) [(.t 16)], none⟩,
      ⟨(some 15), .mv (.t 17), none⟩,
      ⟨(some 18), .ext 0 (.t 15), none⟩,
      ⟨(some 19), .ext 1 (.t 15), none⟩,
      ⟨(some 7), .alloc 111 [(.int .i64 0), (.str []), (.int .i64 0)], none⟩,
      ⟨none, .store 3 (.t 7) (.t 18), none⟩,
      ⟨(some 8), .mv (.t 19), none⟩],
   .seq 20 34,
   .block 2 21,
   .seq 22 23,
   .reg [⟨(some 21), .mv (.t 8), none⟩,
      ⟨(some 22), .un .not (.t 21), none⟩,
      ⟨(some 20), .mv (.t 22), none⟩],
   .cond (.t 20) 24 27,
   .seq 25 26,
   .dreg 7 [⟨(some 23), .mv (.t 5), none⟩,
      ⟨(some 24), .nilc (.t 23), none⟩,
      ⟨(some 25), .fadr 1 (.t 24), none⟩,
      ⟨(some 26), .load none (.t 25), none⟩,
      ⟨(some 2), .mv (.c .nils), none⟩,
      ⟨(some 3), .mv (.t 26), none⟩,
      ⟨(some 4), .mv (.c (.int .i64 4)), none⟩],
   .ret,
   .seq 28 29,
   .reg [⟨(some 28), .mv (.t 6), none⟩,
      ⟨(some 29), .len (.t 28), none⟩,
      ⟨(some 30), .bin .eql (.t 29) (.c (.int .i64 256)), none⟩,
      ⟨(some 27), .mv (.t 30), none⟩],
   .cond (.t 27) 30 33,
   .seq 31 32,
   .dreg 5 [⟨(some 31), .fadr 2 (.t 7), none⟩,
      ⟨(some 32), .load none (.t 31), none⟩,
      ⟨(some 2), .mv (.c .nils), none⟩,
      ⟨(some 3), .mv (.t 32), none⟩,
      ⟨(some 4), .mv (.c (.int .i64 5)), none⟩],
   .ret,
   .skip,
   .seq 35 36,
   .reg [⟨(some 33), .mv (.t 6), none⟩,
      ⟨(some 34), .load (some 3) (.t 7), none⟩,
      ⟨(some 35), .bslice 111 3 [(.t 34)], none⟩,
      ⟨(some 36), .append 111 3 32 (.t 33) (.t 35), none⟩,
      ⟨(some 6), .mv (.t 36), none⟩],
   .seq 37 38,
   .reg [⟨(some 37), .fadr 0 (.t 7), none⟩,
      ⟨(some 38), .load none (.t 37), none⟩,
      ⟨(some 39), .bin .eql (.t 38) (.c (.int .i64 3)), none⟩],
   .cond (.t 39) 39 42,
   .seq 40 41,
   .reg [⟨(some 40), .mv (.t 6), none⟩,
      ⟨(some 2), .mv (.t 40), none⟩,
      ⟨(some 3), .mv (.c (.int .i64 0)), none⟩,
      ⟨(some 4), .mv (.c (.int .i64 0)), none⟩],
   .ret,
   .skip]⟩

/-- (*luminaire/lexer.reader).token -/
def F107 : FT := ⟨124, 1, [.cell 2 (some 3), .tmp 3],
  [.seq 1 2,
   .reg [⟨(some 1), .box 137 (.t 0), none⟩,
      ⟨(some 2), .alloc 111 [(.int .i64 0), (.str []), (.int .i64 0)], none⟩,
      ⟨(some 3), .mv (.c (.bool false)), none⟩],
   .seq 3 4,
   .reg [⟨(some 8), .load none (.t 1), none⟩,
      ⟨(some 9), .call (.c (.fn (.func 156) [] [])) [(.t 8), (.c (.fn (.func 157) [] []))], none⟩],
   .seq 5 6,
   .reg [⟨(some 10), .load none (.t 1), none⟩,
      ⟨(some 11), .nilc (.t 10), none⟩,
      ⟨(some 12), .fadr 1 (.t 11), none⟩,
      ⟨(some 13), .load none (.t 12), none⟩,
      ⟨(some 4), .alloc 3 [(.int .i64 0)], none⟩,
      ⟨none, .store 1 (.t 4) (.t 13), none⟩],
   .seq 7 8,
   .reg [⟨(some 14), .mkfn (.func 158) [] [(.t 1), (.t 4)], none⟩,
      ⟨(some 5), .mv (.t 14), none⟩],
   .seq 9 75,
   .block 0 10,
   .seq 11 12,
   .dreg 11 [⟨(some 16), .load none (.t 1), none⟩,
      ⟨(some 17), .nilc (.t 16), none⟩,
      ⟨(some 18), .fadr 1 (.t 17), none⟩,
      ⟨(some 19), .load none (.t 18), none⟩,
      ⟨(some 20), .load none (.t 1), none⟩,
      ⟨(some 21), .nilc (.t 20), none⟩,
      ⟨(some 22), .fadr 0 (.t 21), none⟩,
      ⟨(some 23), .load none (.t 22), none⟩,
      ⟨(some 24), .lens (.t 23), none⟩,
      ⟨(some 25), .bin .eql (.t 19) (.t 24), none⟩,
      ⟨(some 15), .mv (.t 25), none⟩],
   .cond (.t 15) 13 16,
   .seq 14 15,
   .reg [⟨(some 26), .mv (.t 5), none⟩,
      ⟨(some 27), .call (.t 26) [(.c (.int .i64 3))], none⟩,
      ⟨(some 28), .ext 0 (.t 27), none⟩,
      ⟨(some 29), .ext 1 (.t 27), none⟩,
      ⟨none, .store 3 (.t 2) (.t 28), none⟩,
      ⟨(some 3), .mv (.t 29), none⟩],
   .ret,
   .seq 17 18,
   .reg [⟨(some 31), .load none (.t 1), none⟩,
      ⟨(some 32), .call (.c (.fn (.func 159) [] [])) [(.t 31), (.c (.int .i64 0)), (.c (.fn (.func 160) [] []))], none⟩,
      ⟨(some 30), .mv (.t 32), none⟩],
   .cond (.t 30) 19 28,
   .seq 20 21,
   .reg [⟨(some 33), .load none (.t 1), none⟩,
      ⟨(some 34), .call (.c (.fn (.func 156) [] [])) [(.t 33), (.c (.fn (.func 161) [] []))], none⟩],
   .seq 22 23,
   .reg [⟨(some 36), .mv (.t 5), none⟩,
      ⟨(some 37), .call (.t 36) [(.c (.int .i64 0))], none⟩,
      ⟨(some 35), .mv (.t 37), none⟩,
      ⟨(some 38), .ext 0 (.t 35), none⟩,
      ⟨(some 39), .ext 1 (.t 35), none⟩,
      ⟨(some 6), .alloc 111 [(.int .i64 0), (.str []), (.int .i64 0)], none⟩,
      ⟨none, .store 3 (.t 6) (.t 38), none⟩,
      ⟨(some 7), .mv (.t 39), none⟩],
   .seq 24 25,
   .reg [⟨(some 40), .fadr 1 (.t 6), none⟩,
      ⟨(some 41), .load none (.t 40), none⟩,
      ⟨(some 42), .call (.c (.fn (.func 162) [] [])) [(.t 41)], none⟩,
      ⟨(some 43), .fadr 1 (.t 6), none⟩,
      ⟨none, .store 1 (.t 43) (.t 42), none⟩],
   .seq 26 27,
   .reg [⟨(some 44), .load (some 3) (.t 6), none⟩,
      ⟨(some 45), .mv (.t 7), none⟩,
      ⟨none, .store 3 (.t 2) (.t 44), none⟩,
      ⟨(some 3), .mv (.t 45), none⟩],
   .ret,
   .seq 29 30,
   .dreg 11 [⟨(some 47), .load none (.t 1), none⟩,
      ⟨(some 48), .nilc (.t 47), none⟩,
      ⟨(some 49), .fadr 0 (.t 48), none⟩,
      ⟨(some 50), .load none (.t 49), none⟩,
      ⟨(some 51), .load none (.t 1), none⟩,
      ⟨(some 52), .nilc (.t 51), none⟩,
      ⟨(some 53), .fadr 1 (.t 52), none⟩,
      ⟨(some 54), .load none (.t 53), none⟩,
      ⟨(some 55), .ichr (.t 50) (.t 54), none⟩,
      ⟨(some 56), .bin .eql (.t 55) (.c (.int .u8 34)), none⟩,
      ⟨(some 46), .mv (.t 56), none⟩],
   .cond (.t 46) 31 50,
   .seq 32 33,
   .reg [⟨(some 57), .load none (.t 1), none⟩,
      ⟨(some 58), .nilc (.t 57), none⟩,
      ⟨(some 59), .fadr 1 (.t 58), none⟩,
      ⟨(some 60), .load none (.t 59), none⟩,
      ⟨(some 61), .bin .add (.t 60) (.c (.int .i64 1)), none⟩,
      ⟨(some 62), .nilc (.t 57), none⟩,
      ⟨(some 63), .fadr 1 (.t 62), none⟩,
      ⟨none, .store 1 (.t 63) (.t 61), none⟩],
   .seq 34 35,
   .reg [⟨(some 64), .load none (.t 1), none⟩,
      ⟨(some 65), .call (.c (.fn (.func 156) [] [])) [(.t 64), (.c (.fn (.func 163) [] []))], none⟩],
   .seq 36 45,
   .seq 37 38,
   .reg [⟨(some 66), .load none (.t 1), none⟩,
      ⟨(some 67), .call (.c (.fn (.func 159) [] [])) [(.t 66), (.c (.int .i64 0)), (.c (.fn (.func 164) [] []))], none⟩,
      ⟨(some 68), .un .not (.t 67), none⟩],
   .cond (.t 68) 39 44,
   .seq 40 41,
   .reg [⟨(some 69), .load none (.t 1), none⟩,
      ⟨(some 70), .load none (.t 4), none⟩,
      ⟨(some 71), .nilc (.t 69), none⟩,
      ⟨(some 72), .fadr 1 (.t 71), none⟩,
      ⟨none, .store 1 (.t 72) (.t 70), none⟩],
   .seq 42 43,
   .reg [⟨(some 73), .build [(.int .i64 0), (.str []), (.int .i64 0)] [], none⟩,
      ⟨none, .store 3 (.t 2) (.t 73), none⟩,
      ⟨(some 3), .mv (.c (.bool false)), none⟩],
   .ret,
   .skip,
   .seq 46 47,
   .reg [⟨(some 74), .load none (.t 1), none⟩,
      ⟨(some 75), .nilc (.t 74), none⟩,
      ⟨(some 76), .fadr 1 (.t 75), none⟩,
      ⟨(some 77), .load none (.t 76), none⟩,
      ⟨(some 78), .bin .add (.t 77) (.c (.int .i64 1)), none⟩,
      ⟨(some 79), .nilc (.t 74), none⟩,
      ⟨(some 80), .fadr 1 (.t 79), none⟩,
      ⟨none, .store 1 (.t 80) (.t 78), none⟩],
   .seq 48 49,
   .reg [⟨(some 81), .mv (.t 5), none⟩,
      ⟨(some 82), .call (.t 81) [(.c (.int .i64 0))], none⟩,
      ⟨(some 83), .ext 0 (.t 82), none⟩,
      ⟨(some 84), .ext 1 (.t 82), none⟩,
      ⟨none, .store 3 (.t 2) (.t 83), none⟩,
      ⟨(some 3), .mv (.t 84), none⟩],
   .ret,
   .seq 51 52,
   .reg [⟨(some 86), .load none (.t 1), none⟩,
      ⟨(some 87), .call (.c (.fn (.func 159) [] [])) [(.t 86), (.c (.int .i64 0)), (.c (.fn (.func 165) [] []))], none⟩,
      ⟨(some 85), .mv (.t 87), none⟩],
   .cond (.t 85) 53 66,
   .seq 54 55,
   .reg [⟨(some 88), .load none (.t 1), none⟩,
      ⟨(some 89), .call (.c (.fn (.func 156) [] [])) [(.t 88), (.c (.fn (.func 165) [] []))], none⟩],
   .seq 56 63,
   .seq 57 58,
   .reg [⟨(some 90), .load none (.t 1), none⟩,
      ⟨(some 91), .call (.c (.fn (.func 159) [] [])) [(.t 90), (.c (.int .i64 0)), (.c (.fn (.func 166) [] []))], none⟩,
      ⟨(some 92), .mv (.t 91), none⟩,
      ⟨(some 93), .load none (.t 1), some (92, true)⟩,
      ⟨(some 94), .call (.c (.fn (.func 159) [] [])) [(.t 93), (.c (.int .i64 1)), (.c (.fn (.func 165) [] []))], some (92, true)⟩,
      ⟨(some 95), .pick (.t 92) (.t 94) (.c (.bool false)), none⟩],
   .cond (.t 95) 59 62,
   .seq 60 61,
   .reg [⟨(some 96), .load none (.t 1), none⟩,
      ⟨(some 97), .nilc (.t 96), none⟩,
      ⟨(some 98), .fadr 1 (.t 97), none⟩,
      ⟨(some 99), .load none (.t 98), none⟩,
      ⟨(some 100), .bin .add (.t 99) (.c (.int .i64 1)), none⟩,
      ⟨(some 101), .nilc (.t 96), none⟩,
      ⟨(some 102), .fadr 1 (.t 101), none⟩,
      ⟨none, .store 1 (.t 102) (.t 100), none⟩],
   .reg [⟨(some 103), .load none (.t 1), none⟩,
      ⟨(some 104), .call (.c (.fn (.func 156) [] [])) [(.t 103), (.c (.fn (.func 165) [] []))], none⟩],
   .skip,
   .seq 64 65,
   .reg [⟨(some 105), .mv (.t 5), none⟩,
      ⟨(some 106), .call (.t 105) [(.c (.int .i64 1))], none⟩,
      ⟨(some 107), .ext 0 (.t 106), none⟩,
      ⟨(some 108), .ext 1 (.t 106), none⟩,
      ⟨none, .store 3 (.t 2) (.t 107), none⟩,
      ⟨(some 3), .mv (.t 108), none⟩],
   .ret,
   .seq 67 68,
   .reg [⟨(some 110), .load none (.t 1), none⟩,
      ⟨(some 111), .call (.c (.fn (.func 159) [] [])) [(.t 110), (.c (.int .i64 0)), (.c (.fn (.func 167) [] []))], none⟩,
      ⟨(some 109), .mv (.t 111), none⟩],
   .cond (.t 109) 69 74,
   .seq 70 71,
   .reg [⟨(some 112), .load none (.t 1), none⟩,
      ⟨(some 113), .nilc (.t 112), none⟩,
      ⟨(some 114), .fadr 1 (.t 113), none⟩,
      ⟨(some 115), .load none (.t 114), none⟩,
      ⟨(some 116), .bin .add (.t 115) (.c (.int .i64 1)), none⟩,
      ⟨(some 117), .nilc (.t 112), none⟩,
      ⟨(some 118), .fadr 1 (.t 117), none⟩,
      ⟨none, .store 1 (.t 118) (.t 116), none⟩],
   .seq 72 73,
   .reg [⟨(some 119), .mv (.t 5), none⟩,
      ⟨(some 120), .call (.t 119) [(.c (.int .i64 2))], none⟩,
      ⟨(some 121), .ext 0 (.t 120), none⟩,
      ⟨(some 122), .ext 1 (.t 120), none⟩,
      ⟨none, .store 3 (.t 2) (.t 121), none⟩,
      ⟨(some 3), .mv (.t 122), none⟩],
   .ret,
   .skip,
   .seq 76 77,
   .reg [⟨(some 123), .build [(.int .i64 0), (.str []), (.int .i64 0)] [], none⟩,
      ⟨none, .store 3 (.t 2) (.t 123), none⟩,
      ⟨(some 3), .mv (.c (.bool false)), none⟩],
   .ret]⟩

/-- (*luminaire/lexer.reader).skip -/
def F156 : FT := ⟨14, 2, [],
  [.block 0 1,
   .loop 2,
   .seq 3 8,
   .seq 4 5,
   .reg [⟨(some 4), .mv (.t 0), none⟩,
      ⟨(some 5), .mv (.t 1), none⟩,
      ⟨(some 6), .call (.c (.fn (.func 159) [] [])) [(.t 4), (.c (.int .i64 0)), (.t 5)], none⟩],
   .cond (.t 6) 6 7,
   .skip,
   .exit 0,
   .block 1 9,
   .reg [⟨(some 7), .mv (.t 0), none⟩,
      ⟨(some 8), .nilc (.t 7), none⟩,
      ⟨(some 9), .fadr 1 (.t 8), none⟩,
      ⟨(some 10), .load none (.t 9), none⟩,
      ⟨(some 11), .bin .add (.t 10) (.c (.int .i64 1)), none⟩,
      ⟨(some 12), .nilc (.t 7), none⟩,
      ⟨(some 13), .fadr 1 (.t 12), none⟩,
      ⟨none, .store 1 (.t 13) (.t 11), none⟩]]⟩

/-- (*luminaire/lexer.reader).token$1 -/
def F157 : FT := ⟨5, 1, [.tmp 2],
  [.seq 1 2,
   .reg [⟨(some 2), .mv (.c (.bool false)), none⟩],
   .seq 3 4,
   .reg [⟨(some 3), .mv (.t 0), none⟩,
      ⟨(some 4), .bin .eql (.t 3) (.c (.int .u8 32)), none⟩,
      ⟨(some 2), .mv (.t 4), none⟩],
   .ret]⟩

/-- (*luminaire/lexer.reader).token$2 -/
def F158 : FT := ⟨19, 1, [.cell 4 (some 3), .tmp 5],
  [.seq 1 2,
   .reg [⟨(some 4), .alloc 111 [(.int .i64 0), (.str []), (.int .i64 0)], none⟩,
      ⟨(some 5), .mv (.c (.bool false)), none⟩],
   .seq 3 4,
   .dreg 13 [⟨(some 6), .mv (.t 0), none⟩,
      ⟨(some 7), .load none (.t 1), none⟩,
      ⟨(some 8), .nilc (.t 7), none⟩,
      ⟨(some 9), .fadr 0 (.t 8), none⟩,
      ⟨(some 10), .load none (.t 9), none⟩,
      ⟨(some 11), .load none (.t 2), none⟩,
      ⟨(some 12), .load none (.t 1), none⟩,
      ⟨(some 13), .nilc (.t 12), none⟩,
      ⟨(some 14), .fadr 1 (.t 13), none⟩,
      ⟨(some 15), .load none (.t 14), none⟩,
      ⟨(some 16), .slices (.t 10) (some (.t 11)) (some (.t 15)), none⟩,
      ⟨(some 17), .load none (.t 2), none⟩,
      ⟨(some 18), .build [(.int .i64 0), (.str []), (.int .i64 0)] [(0, 1, (.t 6)), (1, 1, (.t 16)), (2, 1, (.t 17))], none⟩,
      ⟨none, .store 3 (.t 4) (.t 18), none⟩,
      ⟨(some 5), .mv (.c (.bool true)), none⟩],
   .ret]⟩

/-- (*luminaire/lexer.reader).is -/
def F159 : FT := ⟨34, 3, [.tmp 6],
  [.seq 1 2,
   .reg [⟨(some 6), .mv (.c (.bool false)), none⟩],
   .seq 3 4,
   .dreg 28 [⟨(some 7), .mv (.t 0), none⟩,
      ⟨(some 8), .nilc (.t 7), none⟩,
      ⟨(some 9), .fadr 1 (.t 8), none⟩,
      ⟨(some 10), .load none (.t 9), none⟩,
      ⟨(some 11), .mv (.t 1), none⟩,
      ⟨(some 12), .bin .add (.t 10) (.t 11), none⟩,
      ⟨(some 13), .mv (.t 0), none⟩,
      ⟨(some 14), .nilc (.t 13), none⟩,
      ⟨(some 15), .fadr 0 (.t 14), none⟩,
      ⟨(some 16), .load none (.t 15), none⟩,
      ⟨(some 17), .lens (.t 16), none⟩,
      ⟨(some 18), .bin .lss (.t 12) (.t 17), none⟩,
      ⟨(some 19), .mv (.t 18), none⟩,
      ⟨(some 20), .mv (.t 2), some (19, true)⟩,
      ⟨(some 21), .mv (.t 0), some (19, true)⟩,
      ⟨(some 22), .nilc (.t 21), some (19, true)⟩,
      ⟨(some 23), .fadr 0 (.t 22), some (19, true)⟩,
      ⟨(some 24), .load none (.t 23), some (19, true)⟩,
      ⟨(some 25), .mv (.t 0), some (19, true)⟩,
      ⟨(some 26), .nilc (.t 25), some (19, true)⟩,
      ⟨(some 27), .fadr 1 (.t 26), some (19, true)⟩,
      ⟨(some 28), .load none (.t 27), some (19, true)⟩,
      ⟨(some 29), .mv (.t 1), some (19, true)⟩,
      ⟨(some 30), .bin .add (.t 28) (.t 29), some (19, true)⟩,
      ⟨(some 31), .ichr (.t 24) (.t 30), some (19, true)⟩,
      ⟨(some 32), .call (.t 20) [(.t 31)], some (19, true)⟩,
      ⟨(some 33), .pick (.t 19) (.t 32) (.c (.bool false)), none⟩,
      ⟨(some 6), .mv (.t 33), none⟩],
   .ret]⟩

/-- luminaire/lexer.isLetter -/
def F160 : FT := ⟨17, 1, [.tmp 2],
  [.seq 1 2,
   .reg [⟨(some 2), .mv (.c (.bool false)), none⟩],
   .seq 3 4,
   .reg [⟨(some 3), .mv (.t 0), none⟩,
      ⟨(some 4), .bin .geq (.t 3) (.c (.int .u8 97)), none⟩,
      ⟨(some 5), .mv (.t 4), none⟩,
      ⟨(some 6), .mv (.t 0), some (5, true)⟩,
      ⟨(some 7), .bin .leq (.t 6) (.c (.int .u8 122)), some (5, true)⟩,
      ⟨(some 8), .pick (.t 5) (.t 7) (.c (.bool false)), none⟩,
      ⟨(some 9), .mv (.t 8), none⟩,
      ⟨(some 10), .mv (.t 0), some (9, false)⟩,
      ⟨(some 11), .bin .geq (.t 10) (.c (.int .u8 65)), some (9, false)⟩,
      ⟨(some 12), .mv (.t 11), some (9, false)⟩,
      ⟨(some 13), .mv (.t 0), some (12, true)⟩,
      ⟨(some 14), .bin .leq (.t 13) (.c (.int .u8 90)), some (12, true)⟩,
      ⟨(some 15), .pick (.t 12) (.t 14) (.c (.bool false)), some (9, false)⟩,
      ⟨(some 16), .pick (.t 9) (.c (.bool true)) (.t 15), none⟩,
      ⟨(some 2), .mv (.t 16), none⟩],
   .ret]⟩

/-- luminaire/lexer.isWord -/
def F161 : FT := ⟨13, 1, [.tmp 2],
  [.seq 1 2,
   .reg [⟨(some 2), .mv (.c (.bool false)), none⟩],
   .seq 3 4,
   .reg [⟨(some 3), .mv (.t 0), none⟩,
      ⟨(some 4), .call (.c (.fn (.func 160) [] [])) [(.t 3)], none⟩,
      ⟨(some 5), .mv (.t 4), none⟩,
      ⟨(some 6), .mv (.t 0), some (5, false)⟩,
      ⟨(some 7), .call (.c (.fn (.func 165) [] [])) [(.t 6)], some (5, false)⟩,
      ⟨(some 8), .pick (.t 5) (.c (.bool true)) (.t 7), none⟩,
      ⟨(some 9), .mv (.t 8), none⟩,
      ⟨(some 10), .mv (.t 0), some (9, false)⟩,
      ⟨(some 11), .bin .eql (.t 10) (.c (.int .u8 95)), some (9, false)⟩,
      ⟨(some 12), .pick (.t 9) (.c (.bool true)) (.t 11), none⟩,
      ⟨(some 2), .mv (.t 12), none⟩],
   .ret]⟩

/-- luminaire/lexer.lower -/
def F162 : FT := ⟨30, 1, [.tmp 2],
  [.seq 1 2,
   .reg [⟨(some 2), .mv (.c (.str [])), none⟩],
   .seq 3 4,
   .reg [⟨(some 6), .mv (.t 0), none⟩,
      ⟨(some 7), .cvsb 5 (.t 6), none⟩,
      ⟨(some 3), .mv (.t 7), none⟩],
   .seq 5 25,
   .seq 6 7,
   .reg [⟨(some 8), .mv (.t 3), none⟩,
      ⟨(some 9), .len (.t 8), none⟩,
      ⟨(some 10), .mv (.c (.int .i64 0)), none⟩],
   .block 0 8,
   .loop 9,
   .seq 10 11,
   .reg [⟨(some 11), .bin .lss (.t 10) (.t 9), none⟩],
   .seq 12 15,
   .cond (.t 11) 13 14,
   .skip,
   .exit 0,
   .seq 16 24,
   .block 1 17,
   .seq 18 19,
   .reg [⟨(some 12), .mv (.t 10), none⟩,
      ⟨(some 13), .iadr 1 (.t 8) (.t 10), none⟩,
      ⟨(some 14), .load none (.t 13), none⟩,
      ⟨(some 4), .mv (.t 12), none⟩,
      ⟨(some 5), .mv (.t 14), none⟩],
   .seq 20 21,
   .reg [⟨(some 15), .mv (.t 5), none⟩,
      ⟨(some 16), .bin .geq (.t 15) (.c (.int .u8 65)), none⟩,
      ⟨(some 17), .mv (.t 16), none⟩,
      ⟨(some 18), .mv (.t 5), some (17, true)⟩,
      ⟨(some 19), .bin .leq (.t 18) (.c (.int .u8 90)), some (17, true)⟩,
      ⟨(some 20), .pick (.t 17) (.t 19) (.c (.bool false)), none⟩],
   .cond (.t 20) 22 23,
   .reg [⟨(some 21), .mv (.t 3), none⟩,
      ⟨(some 22), .mv (.t 4), none⟩,
      ⟨(some 23), .mv (.t 5), none⟩,
      ⟨(some 24), .bin .add (.t 23) (.c (.int .u8 97)), none⟩,
      ⟨(some 25), .bin .sub (.t 24) (.c (.int .u8 65)), none⟩,
      ⟨(some 26), .iadr 1 (.t 21) (.t 22), none⟩,
      ⟨none, .store 1 (.t 26) (.t 25), none⟩],
   .skip,
   .reg [⟨(some 27), .bin .add (.t 10) (.c (.int .i64 1)), none⟩,
      ⟨(some 10), .mv (.t 27), none⟩],
   .seq 26 27,
   .reg [⟨(some 28), .mv (.t 3), none⟩,
      ⟨(some 29), .cvbs (.t 28), none⟩,
      ⟨(some 2), .mv (.t 29), none⟩],
   .ret]⟩

/-- luminaire/lexer.isPlain -/
def F163 : FT := ⟨13, 1, [.tmp 2],
  [.seq 1 2,
   .reg [⟨(some 2), .mv (.c (.bool false)), none⟩],
   .seq 3 4,
   .reg [⟨(some 3), .mv (.t 0), none⟩,
      ⟨(some 4), .bin .geq (.t 3) (.c (.int .u8 32)), none⟩,
      ⟨(some 5), .mv (.t 4), none⟩,
      ⟨(some 6), .mv (.t 0), some (5, true)⟩,
      ⟨(some 7), .bin .leq (.t 6) (.c (.int .u8 126)), some (5, true)⟩,
      ⟨(some 8), .pick (.t 5) (.t 7) (.c (.bool false)), none⟩,
      ⟨(some 9), .mv (.t 8), none⟩,
      ⟨(some 10), .mv (.t 0), some (9, true)⟩,
      ⟨(some 11), .bin .neq (.t 10) (.c (.int .u8 34)), some (9, true)⟩,
      ⟨(some 12), .pick (.t 9) (.t 11) (.c (.bool false)), none⟩,
      ⟨(some 2), .mv (.t 12), none⟩],
   .ret]⟩

/-- (*luminaire/lexer.reader).token$3 -/
def F164 : FT := ⟨5, 1, [.tmp 2],
  [.seq 1 2,
   .reg [⟨(some 2), .mv (.c (.bool false)), none⟩],
   .seq 3 4,
   .reg [⟨(some 3), .mv (.t 0), none⟩,
      ⟨(some 4), .bin .eql (.t 3) (.c (.int .u8 34)), none⟩,
      ⟨(some 2), .mv (.t 4), none⟩],
   .ret]⟩

/-- luminaire/lexer.isDigit -/
def F165 : FT := ⟨9, 1, [.tmp 2],
  [.seq 1 2,
   .reg [⟨(some 2), .mv (.c (.bool false)), none⟩],
   .seq 3 4,
   .reg [⟨(some 3), .mv (.t 0), none⟩,
      ⟨(some 4), .bin .geq (.t 3) (.c (.int .u8 48)), none⟩,
      ⟨(some 5), .mv (.t 4), none⟩,
      ⟨(some 6), .mv (.t 0), some (5, true)⟩,
      ⟨(some 7), .bin .leq (.t 6) (.c (.int .u8 57)), some (5, true)⟩,
      ⟨(some 8), .pick (.t 5) (.t 7) (.c (.bool false)), none⟩,
      ⟨(some 2), .mv (.t 8), none⟩],
   .ret]⟩

/-- (*luminaire/lexer.reader).token$4 -/
def F166 : FT := ⟨5, 1, [.tmp 2],
  [.seq 1 2,
   .reg [⟨(some 2), .mv (.c (.bool false)), none⟩],
   .seq 3 4,
   .reg [⟨(some 3), .mv (.t 0), none⟩,
      ⟨(some 4), .bin .eql (.t 3) (.c (.int .u8 46)), none⟩,
      ⟨(some 2), .mv (.t 4), none⟩],
   .ret]⟩

/-- luminaire/lexer.isSign -/
def F167 : FT := ⟨6, 1, [.tmp 2],
  [.seq 1 2,
   .reg [⟨(some 2), .mv (.c (.bool false)), none⟩],
   .seq 3 4,
   .reg [⟨(some 3), .mv (.t 0), none⟩,
      ⟨(some 4), .call (.c (.fn (.func 198) [] [])) [(.c (.str [43, 45, 47, 46, 44, 64, 58, 61, 37, 40, 41])), (.t 3)], none⟩,
      ⟨(some 5), .bin .geq (.t 4) (.c (.int .i64 0)), none⟩,
      ⟨(some 2), .mv (.t 5), none⟩],
   .ret]⟩

/-- internal/stringslite.IndexByte -/
def F145 : FT := ⟨8, 2, [.tmp 4],
  [.seq 1 2,
   .reg [⟨(some 4), .mv (.c (.int .i64 0)), none⟩],
   .seq 3 4,
   .reg [⟨(some 5), .mv (.t 0), none⟩,
      ⟨(some 6), .mv (.t 1), none⟩,
      ⟨(some 7), .call (.c (.fn (.func 200) [] [])) [(.t 5), (.t 6)], none⟩,
      ⟨(some 4), .mv (.t 7), none⟩],
   .ret]⟩

/-- strings.IndexByte -/
def F198 : FT := ⟨8, 2, [.tmp 4],
  [.seq 1 2,
   .reg [⟨(some 4), .mv (.c (.int .i64 0)), none⟩],
   .seq 3 4,
   .reg [⟨(some 5), .mv (.t 0), none⟩,
      ⟨(some 6), .mv (.t 1), none⟩,
      ⟨(some 7), .call (.c (.fn (.func 145) [] [])) [(.t 5), (.t 6)], none⟩,
      ⟨(some 4), .mv (.t 7), none⟩],
   .ret]⟩

/-- luminaire/lexer.one -/
def F221 : FT := ⟨36, 1, [.cell 2 (some 3), .tmp 3],
  [.seq 1 2,
   .reg [⟨(some 2), .alloc 111 [(.int .i64 0), (.str []), (.int .i64 0)], none⟩,
      ⟨(some 3), .mv (.c (.bool false)), none⟩],
   .seq 3 4,
   .reg [⟨(some 7), .mv (.t 0), none⟩,
      ⟨(some 8), .build [(.str []), (.int .i64 0)] [(0, 1, (.t 7))], none⟩,
      ⟨(some 9), .box 139 (.t 8), none⟩,
      ⟨(some 4), .mv (.t 9), none⟩],
   .seq 5 6,
   .reg [⟨(some 11), .mv (.t 4), none⟩,
      ⟨(some 12), .call (.c (.fn (.func 107) [] [])) [(.t 11)], none⟩,
      ⟨(some 10), .mv (.t 12), none⟩,
      ⟨(some 13), .ext 0 (.t 10), none⟩,
      ⟨(some 14), .ext 1 (.t 10), none⟩,
      ⟨(some 5), .alloc 111 [(.int .i64 0), (.str []), (.int .i64 0)], none⟩,
      ⟨none, .store 3 (.t 5) (.t 13), none⟩,
      ⟨(some 6), .mv (.t 14), none⟩],
   .seq 7 8,
   .sreg 21 [⟨(some 15), .load (some 3) (.t 5), none⟩,
      ⟨(some 16), .mv (.t 6), none⟩,
      ⟨(some 17), .mv (.t 16), none⟩,
      ⟨(some 18), .fadr 2 (.t 5), some (17, true)⟩,
      ⟨(some 19), .load none (.t 18), some (17, true)⟩,
      ⟨(some 20), .bin .eql (.t 19) (.c (.int .i64 0)), some (17, true)⟩,
      ⟨(some 21), .pick (.t 17) (.t 20) (.c (.bool false)), none⟩,
      ⟨(some 22), .mv (.t 21), none⟩,
      ⟨(some 23), .mv (.t 4), some (22, true)⟩,
      ⟨(some 24), .nilc (.t 23), some (22, true)⟩,
      ⟨(some 25), .fadr 1 (.t 24), some (22, true)⟩,
      ⟨(some 26), .load none (.t 25), some (22, true)⟩,
      ⟨(some 27), .mv (.t 0), some (22, true)⟩,
      ⟨(some 28), .lens (.t 27), some (22, true)⟩,
      ⟨(some 29), .bin .eql (.t 26) (.t 28), some (22, true)⟩,
      ⟨(some 30), .pick (.t 22) (.t 29) (.c (.bool false)), none⟩,
      ⟨(some 31), .mv (.t 30), none⟩,
      ⟨(some 32), .fadr 0 (.t 5), some (31, true)⟩,
      ⟨(some 33), .load none (.t 32), some (31, true)⟩,
      ⟨(some 34), .bin .neq (.t 33) (.c (.int .i64 3)), some (31, true)⟩,
      ⟨(some 35), .pick (.t 31) (.t 34) (.c (.bool false)), none⟩,
      ⟨none, .store 3 (.t 2) (.t 15), none⟩,
      ⟨(some 3), .mv (.t 35), none⟩],
   .ret]⟩

/-- luminaire/lexer.Word -/
def F207 : FT := ⟨31, 1, [.tmp 2],
  [.seq 1 2,
   .reg [⟨(some 2), .mv (.c (.int .i64 0)), none⟩],
   .seq 3 4,
   .reg [⟨(some 6), .mv (.t 0), none⟩,
      ⟨(some 7), .call (.c (.fn (.func 221) [] [])) [(.t 6)], none⟩,
      ⟨(some 5), .mv (.t 7), none⟩,
      ⟨(some 8), .ext 0 (.t 5), none⟩,
      ⟨(some 9), .ext 1 (.t 5), none⟩,
      ⟨(some 3), .alloc 111 [(.int .i64 0), (.str []), (.int .i64 0)], none⟩,
      ⟨none, .store 3 (.t 3) (.t 8), none⟩,
      ⟨(some 4), .mv (.t 9), none⟩],
   .seq 5 12,
   .seq 6 7,
   .reg [⟨(some 10), .mv (.t 4), none⟩,
      ⟨(some 11), .un .not (.t 10), none⟩,
      ⟨(some 12), .mv (.t 11), none⟩,
      ⟨(some 13), .fadr 0 (.t 3), some (12, false)⟩,
      ⟨(some 14), .load none (.t 13), some (12, false)⟩,
      ⟨(some 15), .bin .neq (.t 14) (.c (.int .i64 0)), some (12, false)⟩,
      ⟨(some 16), .pick (.t 12) (.c (.bool true)) (.t 15), none⟩,
      ⟨(some 17), .mv (.t 16), none⟩,
      ⟨(some 18), .fadr 1 (.t 3), some (17, false)⟩,
      ⟨(some 19), .load none (.t 18), some (17, false)⟩,
      ⟨(some 20), .mv (.t 0), some (17, false)⟩,
      ⟨(some 21), .bin .neq (.t 19) (.t 20), some (17, false)⟩,
      ⟨(some 22), .pick (.t 17) (.c (.bool true)) (.t 21), none⟩,
      ⟨(some 23), .mv (.t 22), none⟩,
      ⟨(some 24), .mv (.t 0), some (23, false)⟩,
      ⟨(some 25), .ichr (.t 24) (.c (.int .i64 0)), some (23, false)⟩,
      ⟨(some 26), .bin .eql (.t 25) (.c (.int .u8 34)), some (23, false)⟩,
      ⟨(some 27), .pick (.t 23) (.c (.bool true)) (.t 26), none⟩],
   .cond (.t 27) 8 11,
   .seq 9 10,
   .reg [⟨(some 2), .mv (.c (.int .i64 8)), none⟩],
   .ret,
   .skip,
   .seq 13 20,
   .seq 14 15,
   .reg [⟨(some 28), .mv (.t 0), none⟩,
      ⟨(some 29), .lens (.t 28), none⟩,
      ⟨(some 30), .bin .gtr (.t 29) (.c (.int .i64 24)), none⟩],
   .cond (.t 30) 16 19,
   .seq 17 18,
   .reg [⟨(some 2), .mv (.c (.int .i64 13)), none⟩],
   .ret,
   .skip,
   .seq 21 22,
   .reg [⟨(some 2), .mv (.c (.int .i64 0)), none⟩],
   .ret]⟩

/-- luminaire/luminaireref07.Scan -/
def F67 : FT := ⟨50, 1, [.tmp 2, .tmp 3, .tmp 4],
  [.seq 1 2,
   .reg [⟨(some 2), .mv (.c .nils), none⟩,
      ⟨(some 3), .mv (.c (.int .i64 0)), none⟩,
      ⟨(some 4), .mv (.c (.int .i64 0)), none⟩],
   .seq 3 10,
   .seq 4 5,
   .reg [⟨(some 9), .mv (.t 0), none⟩,
      ⟨(some 10), .lens (.t 9), none⟩,
      ⟨(some 11), .bin .gtr (.t 10) (.c (.int .i64 4096)), none⟩],
   .cond (.t 11) 6 9,
   .seq 7 8,
   .reg [⟨(some 2), .mv (.c .nils), none⟩,
      ⟨(some 3), .mv (.c (.int .i64 0)), none⟩,
      ⟨(some 4), .mv (.c (.int .i64 13)), none⟩],
   .ret,
   .skip,
   .seq 11 12,
   .reg [⟨(some 5), .mv (.c .nils), none⟩],
   .seq 13 64,
   .seq 14 15,
   .reg [⟨(some 6), .mv (.c (.int .i64 0)), none⟩],
   .block 0 16,
   .loop 17,
   .seq 18 23,
   .seq 19 20,
   .reg [⟨(some 12), .mv (.t 6), none⟩,
      ⟨(some 13), .mv (.t 0), none⟩,
      ⟨(some 14), .lens (.t 13), none⟩,
      ⟨(some 15), .bin .leq (.t 12) (.t 14), none⟩],
   .cond (.t 15) 21 22,
   .skip,
   .exit 0,
   .block 1 24,
   .seq 25 35,
   .block 2 26,
   .loop 27,
   .seq 28 33,
   .seq 29 30,
   .reg [⟨(some 16), .mv (.t 6), none⟩,
      ⟨(some 17), .mv (.t 0), none⟩,
      ⟨(some 18), .lens (.t 17), none⟩,
      ⟨(some 19), .bin .lss (.t 16) (.t 18), none⟩,
      ⟨(some 20), .mv (.t 19), none⟩,
      ⟨(some 21), .mv (.t 0), some (20, true)⟩,
      ⟨(some 22), .mv (.t 6), some (20, true)⟩,
      ⟨(some 23), .ichr (.t 21) (.t 22), some (20, true)⟩,
      ⟨(some 24), .bin .eql (.t 23) (.c (.int .u8 32)), some (20, true)⟩,
      ⟨(some 25), .pick (.t 20) (.t 24) (.c (.bool false)), none⟩],
   .cond (.t 25) 31 32,
   .skip,
   .exit 2,
   .block 3 34,
   .reg [⟨(some 26), .mv (.t 6), none⟩,
      ⟨(some 27), .bin .add (.t 26) (.c (.int .i64 1)), none⟩,
      ⟨(some 6), .mv (.t 27), none⟩],
   .seq 36 37,
   .reg [⟨(some 29), .mv (.t 0), none⟩,
      ⟨(some 30), .mv (.t 6), none⟩,
      ⟨(some 31), .call (.c (.fn (.func 125) [] [])) [(.t 29), (.t 30)], none⟩,
      ⟨(some 28), .mv (.t 31), none⟩,
      ⟨(some 32), .ext 0 (.t 28), none⟩,
      ⟨(some 33), .ext 1 (.t 28), none⟩,
      ⟨(some 7), .alloc 111 [(.int .i64 0), (.str []), (.int .i64 0)], none⟩,
      ⟨none, .store 3 (.t 7) (.t 32), none⟩,
      ⟨(some 8), .mv (.t 33), none⟩],
   .seq 38 45,
   .seq 39 40,
   .reg [⟨(some 34), .mv (.t 8), none⟩,
      ⟨(some 35), .bin .lss (.t 34) (.c (.int .i64 0)), none⟩],
   .cond (.t 35) 41 44,
   .seq 42 43,
   .reg [⟨(some 36), .mv (.t 6), none⟩,
      ⟨(some 2), .mv (.c .nils), none⟩,
      ⟨(some 3), .mv (.t 36), none⟩,
      ⟨(some 4), .mv (.c (.int .i64 4)), none⟩],
   .ret,
   .skip,
   .seq 46 53,
   .seq 47 48,
   .reg [⟨(some 37), .mv (.t 5), none⟩,
      ⟨(some 38), .len (.t 37), none⟩,
      ⟨(some 39), .bin .eql (.t 38) (.c (.int .i64 256)), none⟩],
   .cond (.t 39) 49 52,
   .seq 50 51,
   .reg [⟨(some 40), .mv (.t 6), none⟩,
      ⟨(some 2), .mv (.c .nils), none⟩,
      ⟨(some 3), .mv (.t 40), none⟩,
      ⟨(some 4), .mv (.c (.int .i64 5)), none⟩],
   .ret,
   .skip,
   .seq 54 55,
   .reg [⟨(some 41), .mv (.t 5), none⟩,
      ⟨(some 42), .load (some 3) (.t 7), none⟩,
      ⟨(some 43), .bslice 111 3 [(.t 42)], none⟩,
      ⟨(some 44), .append 111 3 32 (.t 41) (.t 43), none⟩,
      ⟨(some 5), .mv (.t 44), none⟩],
   .seq 56 63,
   .seq 57 58,
   .reg [⟨(some 45), .fadr 0 (.t 7), none⟩,
      ⟨(some 46), .load none (.t 45), none⟩,
      ⟨(some 47), .bin .eql (.t 46) (.c (.int .i64 3)), none⟩],
   .cond (.t 47) 59 62,
   .seq 60 61,
   .reg [⟨(some 48), .mv (.t 5), none⟩,
      ⟨(some 2), .mv (.t 48), none⟩,
      ⟨(some 3), .mv (.c (.int .i64 0)), none⟩,
      ⟨(some 4), .mv (.c (.int .i64 0)), none⟩],
   .ret,
   .skip,
   .reg [⟨(some 49), .mv (.t 8), none⟩,
      ⟨(some 6), .mv (.t 49), none⟩],
   .seq 65 66,
   .reg [⟨(some 2), .mv (.c .nils), none⟩,
      ⟨(some 3), .mv (.c (.int .i64 0)), none⟩,
      ⟨(some 4), .mv (.c (.int .i64 4)), none⟩],
   .ret]⟩

/-- luminaire/luminaireref07.Token -/
def F125 : FT := ⟨66, 2, [.cell 4 (some 3), .tmp 5],
  [.seq 1 2,
   .reg [⟨(some 4), .alloc 111 [(.int .i64 0), (.str []), (.int .i64 0)], none⟩,
      ⟨(some 5), .mv (.c (.int .i64 0)), none⟩],
   .seq 3 10,
   .seq 4 5,
   .reg [⟨(some 8), .mv (.t 1), none⟩,
      ⟨(some 9), .mv (.t 0), none⟩,
      ⟨(some 10), .lens (.t 9), none⟩,
      ⟨(some 11), .bin .eql (.t 8) (.t 10), none⟩],
   .cond (.t 11) 6 9,
   .seq 7 8,
   .reg [⟨(some 12), .mv (.t 1), none⟩,
      ⟨(some 13), .build [(.int .i64 0), (.str []), (.int .i64 0)] [(0, 1, (.c (.int .i64 3))), (2, 1, (.t 12))], none⟩,
      ⟨(some 14), .mv (.t 1), none⟩,
      ⟨none, .store 3 (.t 4) (.t 13), none⟩,
      ⟨(some 5), .mv (.t 14), none⟩],
   .ret,
   .skip,
   .seq 11 12,
   .reg [⟨(some 6), .mv (.c (.int .i64 (-1))), none⟩,
      ⟨(some 7), .mv (.c (.int .i64 0)), none⟩],
   .seq 13 35,
   .block 0 14,
   .seq 15 16,
   .reg [⟨(some 16), .mv (.t 0), none⟩,
      ⟨(some 17), .mv (.t 1), none⟩,
      ⟨(some 18), .ichr (.t 16) (.t 17), none⟩,
      ⟨(some 19), .call (.c (.fn (.func 176) [] [])) [(.t 18)], none⟩,
      ⟨(some 15), .mv (.t 19), none⟩],
   .cond (.t 15) 17 22,
   .seq 18 19,
   .reg [⟨(some 20), .mv (.t 0), none⟩,
      ⟨(some 21), .mv (.t 1), none⟩,
      ⟨(some 22), .call (.c (.fn (.func 177) [] [])) [(.t 20), (.t 21)], none⟩,
      ⟨(some 6), .mv (.t 22), none⟩],
   .seq 20 21,
   .reg [⟨(some 23), .mv (.t 7), none⟩,
      ⟨(some 24), .mv (.t 0), none⟩,
      ⟨(some 25), .mv (.t 1), none⟩,
      ⟨(some 26), .mv (.t 6), none⟩,
      ⟨(some 27), .slices (.t 24) (some (.t 25)) (some (.t 26)), none⟩,
      ⟨(some 28), .call (.c (.fn (.func 178) [] [])) [(.t 27)], none⟩,
      ⟨(some 29), .mv (.t 1), none⟩,
      ⟨(some 30), .build [(.int .i64 0), (.str []), (.int .i64 0)] [(0, 1, (.t 23)), (1, 1, (.t 28)), (2, 1, (.t 29))], none⟩,
      ⟨(some 31), .mv (.t 6), none⟩,
      ⟨none, .store 3 (.t 4) (.t 30), none⟩,
      ⟨(some 5), .mv (.t 31), none⟩],
   .ret,
   .seq 23 24,
   .reg [⟨(some 33), .mv (.t 0), none⟩,
      ⟨(some 34), .mv (.t 1), none⟩,
      ⟨(some 35), .ichr (.t 33) (.t 34), none⟩,
      ⟨(some 36), .bin .eql (.t 35) (.c (.int .u8 34)), none⟩,
      ⟨(some 32), .mv (.t 36), none⟩],
   .cond (.t 32) 25 26,
   .reg [⟨(some 37), .mv (.t 0), none⟩,
      ⟨(some 38), .mv (.t 1), none⟩,
      ⟨(some 39), .call (.c (.fn (.func 179) [] [])) [(.t 37), (.t 38)], none⟩,
      ⟨(some 6), .mv (.t 39), none⟩],
   .seq 27 28,
   .reg [⟨(some 41), .mv (.t 0), none⟩,
      ⟨(some 42), .mv (.t 1), none⟩,
      ⟨(some 43), .ichr (.t 41) (.t 42), none⟩,
      ⟨(some 44), .call (.c (.fn (.func 180) [] [])) [(.t 43)], none⟩,
      ⟨(some 40), .mv (.t 44), none⟩],
   .cond (.t 40) 29 30,
   .reg [⟨(some 45), .mv (.t 0), none⟩,
      ⟨(some 46), .mv (.t 1), none⟩,
      ⟨(some 47), .call (.c (.fn (.func 181) [] [])) [(.t 45), (.t 46)], none⟩,
      ⟨(some 6), .mv (.t 47), none⟩,
      ⟨(some 7), .mv (.c (.int .i64 1)), none⟩],
   .seq 31 32,
   .reg [⟨(some 49), .mv (.t 0), none⟩,
      ⟨(some 50), .mv (.t 1), none⟩,
      ⟨(some 51), .ichr (.t 49) (.t 50), none⟩,
      ⟨(some 52), .call (.c (.fn (.func 182) [] [])) [(.t 51)], none⟩,
      ⟨(some 48), .mv (.t 52), none⟩],
   .cond (.t 48) 33 34,
   .reg [⟨(some 53), .mv (.t 1), none⟩,
      ⟨(some 54), .bin .add (.t 53) (.c (.int .i64 1)), none⟩,
      ⟨(some 6), .mv (.t 54), none⟩,
      ⟨(some 7), .mv (.c (.int .i64 2)), none⟩],
   .skip,
   .seq 36 43,
   .seq 37 38,
   .reg [⟨(some 55), .mv (.t 6), none⟩,
      ⟨(some 56), .bin .lss (.t 55) (.c (.int .i64 0)), none⟩],
   .cond (.t 56) 39 42,
   .seq 40 41,
   .reg [⟨(some 57), .build [(.int .i64 0), (.str []), (.int .i64 0)] [], none⟩,
      ⟨none, .store 3 (.t 4) (.t 57), none⟩,
      ⟨(some 5), .mv (.c (.int .i64 (-1))), none⟩],
   .ret,
   .skip,
   .seq 44 45,
   .reg [⟨(some 58), .mv (.t 7), none⟩,
      ⟨(some 59), .mv (.t 0), none⟩,
      ⟨(some 60), .mv (.t 1), none⟩,
      ⟨(some 61), .mv (.t 6), none⟩,
      ⟨(some 62), .slices (.t 59) (some (.t 60)) (some (.t 61)), none⟩,
      ⟨(some 63), .mv (.t 1), none⟩,
      ⟨(some 64), .build [(.int .i64 0), (.str []), (.int .i64 0)] [(0, 1, (.t 58)), (1, 1, (.t 62)), (2, 1, (.t 63))], none⟩,
      ⟨(some 65), .mv (.t 6), none⟩,
      ⟨none, .store 3 (.t 4) (.t 64), none⟩,
      ⟨(some 5), .mv (.t 65), none⟩],
   .ret]⟩

/-- luminaire/luminaireref07.letter -/
def F176 : FT := ⟨17, 1, [.tmp 2],
  [.seq 1 2,
   .reg [⟨(some 2), .mv (.c (.bool false)), none⟩],
   .seq 3 4,
   .reg [⟨(some 3), .mv (.t 0), none⟩,
      ⟨(some 4), .bin .geq (.t 3) (.c (.int .u8 97)), none⟩,
      ⟨(some 5), .mv (.t 4), none⟩,
      ⟨(some 6), .mv (.t 0), some (5, true)⟩,
      ⟨(some 7), .bin .leq (.t 6) (.c (.int .u8 122)), some (5, true)⟩,
      ⟨(some 8), .pick (.t 5) (.t 7) (.c (.bool false)), none⟩,
      ⟨(some 9), .mv (.t 8), none⟩,
      ⟨(some 10), .mv (.t 0), some (9, false)⟩,
      ⟨(some 11), .bin .geq (.t 10) (.c (.int .u8 65)), some (9, false)⟩,
      ⟨(some 12), .mv (.t 11), some (9, false)⟩,
      ⟨(some 13), .mv (.t 0), some (12, true)⟩,
      ⟨(some 14), .bin .leq (.t 13) (.c (.int .u8 90)), some (12, true)⟩,
      ⟨(some 15), .pick (.t 12) (.t 14) (.c (.bool false)), some (9, false)⟩,
      ⟨(some 16), .pick (.t 9) (.c (.bool true)) (.t 15), none⟩,
      ⟨(some 2), .mv (.t 16), none⟩],
   .ret]⟩

/-- luminaire/luminaireref07.word -/
def F177 : FT := ⟨30, 2, [.tmp 4],
  [.seq 1 2,
   .reg [⟨(some 4), .mv (.c (.int .i64 0)), none⟩],
   .seq 3 13,
   .block 0 4,
   .loop 5,
   .seq 6 11,
   .seq 7 8,
   .reg [⟨(some 5), .mv (.t 1), none⟩,
      ⟨(some 6), .mv (.t 0), none⟩,
      ⟨(some 7), .lens (.t 6), none⟩,
      ⟨(some 8), .bin .lss (.t 5) (.t 7), none⟩,
      ⟨(some 9), .mv (.t 8), none⟩,
      ⟨(some 10), .mv (.t 0), some (9, true)⟩,
      ⟨(some 11), .mv (.t 1), some (9, true)⟩,
      ⟨(some 12), .ichr (.t 10) (.t 11), some (9, true)⟩,
      ⟨(some 13), .call (.c (.fn (.func 176) [] [])) [(.t 12)], some (9, true)⟩,
      ⟨(some 14), .mv (.t 13), some (9, true)⟩,
      ⟨(some 15), .mv (.t 0), some (14, false)⟩,
      ⟨(some 16), .mv (.t 1), some (14, false)⟩,
      ⟨(some 17), .ichr (.t 15) (.t 16), some (14, false)⟩,
      ⟨(some 18), .call (.c (.fn (.func 180) [] [])) [(.t 17)], some (14, false)⟩,
      ⟨(some 19), .pick (.t 14) (.c (.bool true)) (.t 18), some (9, true)⟩,
      ⟨(some 20), .mv (.t 19), some (9, true)⟩,
      ⟨(some 21), .mv (.t 0), some (20, false)⟩,
      ⟨(some 22), .mv (.t 1), some (20, false)⟩,
      ⟨(some 23), .ichr (.t 21) (.t 22), some (20, false)⟩,
      ⟨(some 24), .bin .eql (.t 23) (.c (.int .u8 95)), some (20, false)⟩,
      ⟨(some 25), .pick (.t 20) (.c (.bool true)) (.t 24), some (9, true)⟩,
      ⟨(some 26), .pick (.t 9) (.t 25) (.c (.bool false)), none⟩],
   .cond (.t 26) 9 10,
   .skip,
   .exit 0,
   .block 1 12,
   .reg [⟨(some 27), .mv (.t 1), none⟩,
      ⟨(some 28), .bin .add (.t 27) (.c (.int .i64 1)), none⟩,
      ⟨(some 1), .mv (.t 28), none⟩],
   .seq 14 15,
   .reg [⟨(some 29), .mv (.t 1), none⟩,
      ⟨(some 4), .mv (.t 29), none⟩],
   .ret]⟩

/-- luminaire/luminaireref07.Lower -/
def F178 : FT := ⟨30, 1, [.tmp 2],
  [.seq 1 2,
   .reg [⟨(some 2), .mv (.c (.str [])), none⟩],
   .seq 3 4,
   .reg [⟨(some 3), .mv (.c (.str [])), none⟩],
   .seq 5 27,
   .seq 6 7,
   .reg [⟨(some 4), .mv (.c (.int .i64 0)), none⟩],
   .block 0 8,
   .loop 9,
   .seq 10 15,
   .seq 11 12,
   .reg [⟨(some 6), .mv (.t 4), none⟩,
      ⟨(some 7), .mv (.t 0), none⟩,
      ⟨(some 8), .lens (.t 7), none⟩,
      ⟨(some 9), .bin .lss (.t 6) (.t 8), none⟩],
   .cond (.t 9) 13 14,
   .skip,
   .exit 0,
   .seq 16 26,
   .block 1 17,
   .seq 18 19,
   .reg [⟨(some 12), .mv (.t 0), none⟩,
      ⟨(some 13), .mv (.t 4), none⟩,
      ⟨(some 14), .ichr (.t 12) (.t 13), none⟩,
      ⟨(some 5), .mv (.t 14), none⟩],
   .seq 20 25,
   .seq 21 22,
   .reg [⟨(some 15), .mv (.t 5), none⟩,
      ⟨(some 16), .bin .geq (.t 15) (.c (.int .u8 65)), none⟩,
      ⟨(some 17), .mv (.t 16), none⟩,
      ⟨(some 18), .mv (.t 5), some (17, true)⟩,
      ⟨(some 19), .bin .leq (.t 18) (.c (.int .u8 90)), some (17, true)⟩,
      ⟨(some 20), .pick (.t 17) (.t 19) (.c (.bool false)), none⟩],
   .cond (.t 20) 23 24,
   .reg [⟨(some 21), .mv (.t 5), none⟩,
      ⟨(some 22), .bin .sub (.t 21) (.c (.int .u8 65)), none⟩,
      ⟨(some 23), .bin .add (.t 22) (.c (.int .u8 97)), none⟩,
      ⟨(some 5), .mv (.t 23), none⟩],
   .skip,
   .reg [⟨(some 24), .mv (.t 3), none⟩,
      ⟨(some 25), .mv (.t 5), none⟩,
      ⟨(some 26), .cvi .i32 (.t 25), none⟩,
      ⟨(some 27), .cvis (.t 26), none⟩,
      ⟨(some 28), .bin .add (.t 24) (.t 27), none⟩,
      ⟨(some 3), .mv (.t 28), none⟩],
   .reg [⟨(some 10), .mv (.t 4), none⟩,
      ⟨(some 11), .bin .add (.t 10) (.c (.int .i64 1)), none⟩,
      ⟨(some 4), .mv (.t 11), none⟩],
   .seq 28 29,
   .reg [⟨(some 29), .mv (.t 3), none⟩,
      ⟨(some 2), .mv (.t 29), none⟩],
   .ret]⟩

/-- luminaire/luminaireref07.quoted -/
def F179 : FT := ⟨32, 2, [.tmp 4],
  [.seq 1 2,
   .reg [⟨(some 4), .mv (.c (.int .i64 0)), none⟩],
   .seq 3 4,
   .reg [⟨(some 6), .mv (.t 1), none⟩,
      ⟨(some 7), .bin .add (.t 6) (.c (.int .i64 1)), none⟩,
      ⟨(some 5), .mv (.t 7), none⟩],
   .seq 5 15,
   .block 0 6,
   .loop 7,
   .seq 8 13,
   .seq 9 10,
   .reg [⟨(some 8), .mv (.t 5), none⟩,
      ⟨(some 9), .mv (.t 0), none⟩,
      ⟨(some 10), .lens (.t 9), none⟩,
      ⟨(some 11), .bin .lss (.t 8) (.t 10), none⟩,
      ⟨(some 12), .mv (.t 11), none⟩,
      ⟨(some 13), .mv (.t 0), some (12, true)⟩,
      ⟨(some 14), .mv (.t 5), some (12, true)⟩,
      ⟨(some 15), .ichr (.t 13) (.t 14), some (12, true)⟩,
      ⟨(some 16), .call (.c (.fn (.func 209) [] [])) [(.t 15)], some (12, true)⟩,
      ⟨(some 17), .pick (.t 12) (.t 16) (.c (.bool false)), none⟩],
   .cond (.t 17) 11 12,
   .skip,
   .exit 0,
   .block 1 14,
   .reg [⟨(some 18), .mv (.t 5), none⟩,
      ⟨(some 19), .bin .add (.t 18) (.c (.int .i64 1)), none⟩,
      ⟨(some 5), .mv (.t 19), none⟩],
   .seq 16 23,
   .seq 17 18,
   .reg [⟨(some 20), .mv (.t 5), none⟩,
      ⟨(some 21), .mv (.t 0), none⟩,
      ⟨(some 22), .lens (.t 21), none⟩,
      ⟨(some 23), .bin .eql (.t 20) (.t 22), none⟩,
      ⟨(some 24), .mv (.t 23), none⟩,
      ⟨(some 25), .mv (.t 0), some (24, false)⟩,
      ⟨(some 26), .mv (.t 5), some (24, false)⟩,
      ⟨(some 27), .ichr (.t 25) (.t 26), some (24, false)⟩,
      ⟨(some 28), .bin .neq (.t 27) (.c (.int .u8 34)), some (24, false)⟩,
      ⟨(some 29), .pick (.t 24) (.c (.bool true)) (.t 28), none⟩],
   .cond (.t 29) 19 22,
   .seq 20 21,
   .reg [⟨(some 4), .mv (.c (.int .i64 (-1))), none⟩],
   .ret,
   .skip,
   .seq 24 25,
   .reg [⟨(some 30), .mv (.t 5), none⟩,
      ⟨(some 31), .bin .add (.t 30) (.c (.int .i64 1)), none⟩,
      ⟨(some 4), .mv (.t 31), none⟩],
   .ret]⟩

/-- luminaire/luminaireref07.digit -/
def F180 : FT := ⟨9, 1, [.tmp 2],
  [.seq 1 2,
   .reg [⟨(some 2), .mv (.c (.bool false)), none⟩],
   .seq 3 4,
   .reg [⟨(some 3), .mv (.t 0), none⟩,
      ⟨(some 4), .bin .geq (.t 3) (.c (.int .u8 48)), none⟩,
      ⟨(some 5), .mv (.t 4), none⟩,
      ⟨(some 6), .mv (.t 0), some (5, true)⟩,
      ⟨(some 7), .bin .leq (.t 6) (.c (.int .u8 57)), some (5, true)⟩,
      ⟨(some 8), .pick (.t 5) (.t 7) (.c (.bool false)), none⟩,
      ⟨(some 2), .mv (.t 8), none⟩],
   .ret]⟩

/-- luminaire/luminaireref07.number -/
def F181 : FT := ⟨50, 2, [.tmp 4],
  [.seq 1 2,
   .reg [⟨(some 4), .mv (.c (.int .i64 0)), none⟩],
   .seq 3 13,
   .block 0 4,
   .loop 5,
   .seq 6 11,
   .seq 7 8,
   .reg [⟨(some 5), .mv (.t 1), none⟩,
      ⟨(some 6), .mv (.t 0), none⟩,
      ⟨(some 7), .lens (.t 6), none⟩,
      ⟨(some 8), .bin .lss (.t 5) (.t 7), none⟩,
      ⟨(some 9), .mv (.t 8), none⟩,
      ⟨(some 10), .mv (.t 0), some (9, true)⟩,
      ⟨(some 11), .mv (.t 1), some (9, true)⟩,
      ⟨(some 12), .ichr (.t 10) (.t 11), some (9, true)⟩,
      ⟨(some 13), .call (.c (.fn (.func 180) [] [])) [(.t 12)], some (9, true)⟩,
      ⟨(some 14), .pick (.t 9) (.t 13) (.c (.bool false)), none⟩],
   .cond (.t 14) 9 10,
   .skip,
   .exit 0,
   .block 1 12,
   .reg [⟨(some 15), .mv (.t 1), none⟩,
      ⟨(some 16), .bin .add (.t 15) (.c (.int .i64 1)), none⟩,
      ⟨(some 1), .mv (.t 16), none⟩],
   .seq 14 30,
   .seq 15 16,
   .reg [⟨(some 17), .mv (.t 1), none⟩,
      ⟨(some 18), .bin .add (.t 17) (.c (.int .i64 1)), none⟩,
      ⟨(some 19), .mv (.t 0), none⟩,
      ⟨(some 20), .lens (.t 19), none⟩,
      ⟨(some 21), .bin .lss (.t 18) (.t 20), none⟩,
      ⟨(some 22), .mv (.t 21), none⟩,
      ⟨(some 23), .mv (.t 0), some (22, true)⟩,
      ⟨(some 24), .mv (.t 1), some (22, true)⟩,
      ⟨(some 25), .ichr (.t 23) (.t 24), some (22, true)⟩,
      ⟨(some 26), .bin .eql (.t 25) (.c (.int .u8 46)), some (22, true)⟩,
      ⟨(some 27), .pick (.t 22) (.t 26) (.c (.bool false)), none⟩,
      ⟨(some 28), .mv (.t 27), none⟩,
      ⟨(some 29), .mv (.t 0), some (28, true)⟩,
      ⟨(some 30), .mv (.t 1), some (28, true)⟩,
      ⟨(some 31), .bin .add (.t 30) (.c (.int .i64 1)), some (28, true)⟩,
      ⟨(some 32), .ichr (.t 29) (.t 31), some (28, true)⟩,
      ⟨(some 33), .call (.c (.fn (.func 180) [] [])) [(.t 32)], some (28, true)⟩,
      ⟨(some 34), .pick (.t 28) (.t 33) (.c (.bool false)), none⟩],
   .cond (.t 34) 17 29,
   .seq 18 19,
   .reg [⟨(some 35), .mv (.t 1), none⟩,
      ⟨(some 36), .bin .add (.t 35) (.c (.int .i64 1)), none⟩,
      ⟨(some 1), .mv (.t 36), none⟩],
   .block 2 20,
   .loop 21,
   .seq 22 27,
   .seq 23 24,
   .reg [⟨(some 37), .mv (.t 1), none⟩,
      ⟨(some 38), .mv (.t 0), none⟩,
      ⟨(some 39), .lens (.t 38), none⟩,
      ⟨(some 40), .bin .lss (.t 37) (.t 39), none⟩,
      ⟨(some 41), .mv (.t 40), none⟩,
      ⟨(some 42), .mv (.t 0), some (41, true)⟩,
      ⟨(some 43), .mv (.t 1), some (41, true)⟩,
      ⟨(some 44), .ichr (.t 42) (.t 43), some (41, true)⟩,
      ⟨(some 45), .call (.c (.fn (.func 180) [] [])) [(.t 44)], some (41, true)⟩,
      ⟨(some 46), .pick (.t 41) (.t 45) (.c (.bool false)), none⟩],
   .cond (.t 46) 25 26,
   .skip,
   .exit 2,
   .block 3 28,
   .reg [⟨(some 47), .mv (.t 1), none⟩,
      ⟨(some 48), .bin .add (.t 47) (.c (.int .i64 1)), none⟩,
      ⟨(some 1), .mv (.t 48), none⟩],
   .skip,
   .seq 31 32,
   .reg [⟨(some 49), .mv (.t 1), none⟩,
      ⟨(some 4), .mv (.t 49), none⟩],
   .ret]⟩

/-- luminaire/luminaireref07.sign -/
def F182 : FT := ⟨12, 1, [.tmp 2],
  [.seq 1 2,
   .reg [⟨(some 2), .mv (.c (.bool false)), none⟩],
   .seq 3 23,
   .seq 4 5,
   .reg [⟨(some 3), .mv (.c (.int .i64 0)), none⟩],
   .block 0 6,
   .loop 7,
   .seq 8 13,
   .seq 9 10,
   .reg [⟨(some 4), .mv (.t 3), none⟩,
      ⟨(some 5), .bin .lss (.t 4) (.c (.int .i64 11)), none⟩],
   .cond (.t 5) 11 12,
   .skip,
   .exit 0,
   .seq 14 22,
   .block 1 15,
   .seq 16 17,
   .reg [⟨(some 8), .mv (.t 3), none⟩,
      ⟨(some 9), .ichr (.c (.str [43, 45, 47, 46, 44, 64, 58, 61, 37, 40, 41])) (.t 8), none⟩,
      ⟨(some 10), .mv (.t 0), none⟩,
      ⟨(some 11), .bin .eql (.t 9) (.t 10), none⟩],
   .cond (.t 11) 18 21,
   .seq 19 20,
   .reg [⟨(some 2), .mv (.c (.bool true)), none⟩],
   .ret,
   .skip,
   .reg [⟨(some 6), .mv (.t 3), none⟩,
      ⟨(some 7), .bin .add (.t 6) (.c (.int .i64 1)), none⟩,
      ⟨(some 3), .mv (.t 7), none⟩],
   .seq 24 25,
   .reg [⟨(some 2), .mv (.c (.bool false)), none⟩],
   .ret]⟩

/-- luminaire/luminaireref07.Word -/
def F185 : FT := ⟨27, 1, [.tmp 2],
  [.seq 1 2,
   .reg [⟨(some 2), .mv (.c (.int .i64 0)), none⟩],
   .seq 3 10,
   .seq 4 5,
   .reg [⟨(some 3), .mv (.t 0), none⟩,
      ⟨(some 4), .bin .eql (.t 3) (.c (.str [])), none⟩,
      ⟨(some 5), .mv (.t 4), none⟩,
      ⟨(some 6), .mv (.t 0), some (5, false)⟩,
      ⟨(some 7), .ichr (.t 6) (.c (.int .i64 0)), some (5, false)⟩,
      ⟨(some 8), .call (.c (.fn (.func 176) [] [])) [(.t 7)], some (5, false)⟩,
      ⟨(some 9), .un .not (.t 8), some (5, false)⟩,
      ⟨(some 10), .pick (.t 5) (.c (.bool true)) (.t 9), none⟩,
      ⟨(some 11), .mv (.t 10), none⟩,
      ⟨(some 12), .mv (.t 0), some (11, false)⟩,
      ⟨(some 13), .call (.c (.fn (.func 177) [] [])) [(.t 12), (.c (.int .i64 0))], some (11, false)⟩,
      ⟨(some 14), .mv (.t 0), some (11, false)⟩,
      ⟨(some 15), .lens (.t 14), some (11, false)⟩,
      ⟨(some 16), .bin .neq (.t 13) (.t 15), some (11, false)⟩,
      ⟨(some 17), .pick (.t 11) (.c (.bool true)) (.t 16), none⟩,
      ⟨(some 18), .mv (.t 17), none⟩,
      ⟨(some 19), .mv (.t 0), some (18, false)⟩,
      ⟨(some 20), .call (.c (.fn (.func 178) [] [])) [(.t 19)], some (18, false)⟩,
      ⟨(some 21), .mv (.t 0), some (18, false)⟩,
      ⟨(some 22), .bin .neq (.t 20) (.t 21), some (18, false)⟩,
      ⟨(some 23), .pick (.t 18) (.c (.bool true)) (.t 22), none⟩],
   .cond (.t 23) 6 9,
   .seq 7 8,
   .reg [⟨(some 2), .mv (.c (.int .i64 8)), none⟩],
   .ret,
   .skip,
   .seq 11 18,
   .seq 12 13,
   .reg [⟨(some 24), .mv (.t 0), none⟩,
      ⟨(some 25), .lens (.t 24), none⟩,
      ⟨(some 26), .bin .gtr (.t 25) (.c (.int .i64 24)), none⟩],
   .cond (.t 26) 14 17,
   .seq 15 16,
   .reg [⟨(some 2), .mv (.c (.int .i64 13)), none⟩],
   .ret,
   .skip,
   .seq 19 20,
   .reg [⟨(some 2), .mv (.c (.int .i64 0)), none⟩],
   .ret]⟩

/-- luminaire/luminaireref07.plain -/
def F209 : FT := ⟨13, 1, [.tmp 2],
  [.seq 1 2,
   .reg [⟨(some 2), .mv (.c (.bool false)), none⟩],
   .seq 3 4,
   .reg [⟨(some 3), .mv (.t 0), none⟩,
      ⟨(some 4), .bin .geq (.t 3) (.c (.int .u8 32)), none⟩,
      ⟨(some 5), .mv (.t 4), none⟩,
      ⟨(some 6), .mv (.t 0), some (5, true)⟩,
      ⟨(some 7), .bin .leq (.t 6) (.c (.int .u8 126)), some (5, true)⟩,
      ⟨(some 8), .pick (.t 5) (.t 7) (.c (.bool false)), none⟩,
      ⟨(some 9), .mv (.t 8), none⟩,
      ⟨(some 10), .mv (.t 0), some (9, true)⟩,
      ⟨(some 11), .bin .neq (.t 10) (.c (.int .u8 34)), some (9, true)⟩,
      ⟨(some 12), .pick (.t 9) (.t 11) (.c (.bool false)), none⟩,
      ⟨(some 2), .mv (.t 12), none⟩],
   .ret]⟩

theorem F60_ok : compFn Tryz.prog 60 = some F60 := by kernel_rfl
theorem F107_ok : compFn Tryz.prog 107 = some F107 := by kernel_rfl
theorem F156_ok : compFn Tryz.prog 156 = some F156 := by kernel_rfl
theorem F157_ok : compFn Tryz.prog 157 = some F157 := by kernel_rfl
theorem F158_ok : compFn Tryz.prog 158 = some F158 := by kernel_rfl
theorem F159_ok : compFn Tryz.prog 159 = some F159 := by kernel_rfl
theorem F160_ok : compFn Tryz.prog 160 = some F160 := by kernel_rfl
theorem F161_ok : compFn Tryz.prog 161 = some F161 := by kernel_rfl
theorem F162_ok : compFn Tryz.prog 162 = some F162 := by kernel_rfl
theorem F163_ok : compFn Tryz.prog 163 = some F163 := by kernel_rfl
theorem F164_ok : compFn Tryz.prog 164 = some F164 := by kernel_rfl
theorem F165_ok : compFn Tryz.prog 165 = some F165 := by kernel_rfl
theorem F166_ok : compFn Tryz.prog 166 = some F166 := by kernel_rfl
theorem F167_ok : compFn Tryz.prog 167 = some F167 := by kernel_rfl
theorem F145_ok : compFn Tryz.prog 145 = some F145 := by kernel_rfl
theorem F198_ok : compFn Tryz.prog 198 = some F198 := by kernel_rfl
theorem F221_ok : compFn Tryz.prog 221 = some F221 := by kernel_rfl
theorem F207_ok : compFn Tryz.prog 207 = some F207 := by kernel_rfl
theorem F67_ok : compFn Tryz.prog 67 = some F67 := by kernel_rfl
theorem F125_ok : compFn Tryz.prog 125 = some F125 := by kernel_rfl
theorem F176_ok : compFn Tryz.prog 176 = some F176 := by kernel_rfl
theorem F177_ok : compFn Tryz.prog 177 = some F177 := by kernel_rfl
theorem F178_ok : compFn Tryz.prog 178 = some F178 := by kernel_rfl
theorem F179_ok : compFn Tryz.prog 179 = some F179 := by kernel_rfl
theorem F180_ok : compFn Tryz.prog 180 = some F180 := by kernel_rfl
theorem F181_ok : compFn Tryz.prog 181 = some F181 := by kernel_rfl
theorem F182_ok : compFn Tryz.prog 182 = some F182 := by kernel_rfl
theorem F185_ok : compFn Tryz.prog 185 = some F185 := by kernel_rfl
theorem F209_ok : compFn Tryz.prog 209 = some F209 := by kernel_rfl
theorem mixed : Tryz.prog.follows .mixedOrders = true := by kernel_rfl
end Go.Proofs.YtnondemehfkalaaGreatDoor

set_option maxRecDepth 10000
namespace Go.Proofs.YtnondemehfkalaaGreatDoor
open Go.Sha

def isDig (c : Int) : Bool := decide (48 ≤ c) && decide (c ≤ 57)
def isLet (c : Int) : Bool := decide (97 ≤ c) && decide (c ≤ 122) || decide (65 ≤ c) && decide (c ≤ 90)
def isWrd (c : Int) : Bool := isLet c || isDig c || c == 95
def isPln (c : Int) : Bool := decide (32 ≤ c) && decide (c ≤ 126) && c != 34
def signs : List UInt8 := [43, 45, 47, 46, 44, 64, 58, 61, 37, 40, 41]
def isSgn (c : Int) : Bool := signs.any fun b => (b.toNat : Int) == c

theorem isDigit_v (c : Int) (st : St) : VRet Tryz.prog 165 [.int .u8 c] st (.bool (isDig c)) st := by
  refine VCalls_of F165_ok mixed (Nat.le_of_ble_eq_true rfl) (fun hwf => ?_)
  (repeat' first | ((first | refine go rfl rfl ?_ | (refine Fk.by_ ?_ ?_ <;> intro hc <;> try simp only [hc]) | refine storeK_eq rfl ?_ | with_reducible refine And.intro ?_ ?_ | fail) <;> try simp only [push_cast, reduceIte, Nat.reduceEqDiff, reduceCtorEq, Nat.reduceAdd, Nat.reduceLeDiff, Nat.reduceBEq]))
  all_goals exact finRet0 hwf rfl (by simp [resOne, isDig, hc]) rfl
theorem digit_v (c : Int) (st : St) : VRet Tryz.prog 180 [.int .u8 c] st (.bool (isDig c)) st := by
  refine VCalls_of F180_ok mixed (Nat.le_of_ble_eq_true rfl) (fun hwf => ?_)
  (repeat' first | ((first | refine go rfl rfl ?_ | (refine Fk.by_ ?_ ?_ <;> intro hc <;> try simp only [hc]) | refine storeK_eq rfl ?_ | with_reducible refine And.intro ?_ ?_ | fail) <;> try simp only [push_cast, reduceIte, Nat.reduceEqDiff, reduceCtorEq, Nat.reduceAdd, Nat.reduceLeDiff, Nat.reduceBEq]))
  all_goals exact finRet0 hwf rfl (by simp [resOne, isDig, hc]) rfl
theorem isLetter_v (c : Int) (st : St) : VRet Tryz.prog 160 [.int .u8 c] st (.bool (isLet c)) st := by
  refine VCalls_of F160_ok mixed (Nat.le_of_ble_eq_true rfl) (fun hwf => ?_)
  (repeat' first | ((first | refine go rfl rfl ?_ | (refine Fk.by_ ?_ ?_ <;> intro hc <;> try simp only [hc]) | refine storeK_eq rfl ?_ | with_reducible refine And.intro ?_ ?_ | fail) <;> try simp only [push_cast, reduceIte, Nat.reduceEqDiff, reduceCtorEq, Nat.reduceAdd, Nat.reduceLeDiff, Nat.reduceBEq]))
  all_goals exact finRet0 hwf rfl (by simp [resOne, isLet, *] ) rfl
theorem letter_v (c : Int) (st : St) : VRet Tryz.prog 176 [.int .u8 c] st (.bool (isLet c)) st := by
  refine VCalls_of F176_ok mixed (Nat.le_of_ble_eq_true rfl) (fun hwf => ?_)
  (repeat' first | ((first | refine go rfl rfl ?_ | (refine Fk.by_ ?_ ?_ <;> intro hc <;> try simp only [hc]) | refine storeK_eq rfl ?_ | with_reducible refine And.intro ?_ ?_ | fail) <;> try simp only [push_cast, reduceIte, Nat.reduceEqDiff, reduceCtorEq, Nat.reduceAdd, Nat.reduceLeDiff, Nat.reduceBEq]))
  all_goals exact finRet0 hwf rfl (by simp [resOne, isLet, *] ) rfl
theorem isPlain_v (c : Int) (st : St) : VRet Tryz.prog 163 [.int .u8 c] st (.bool (isPln c)) st := by
  refine VCalls_of F163_ok mixed (Nat.le_of_ble_eq_true rfl) (fun hwf => ?_)
  (repeat' first | ((first | refine go rfl rfl ?_ | (refine Fk.by_ ?_ ?_ <;> intro hc <;> try simp only [hc]) | refine storeK_eq rfl ?_ | with_reducible refine And.intro ?_ ?_ | fail) <;> try simp only [push_cast, reduceIte, Nat.reduceEqDiff, reduceCtorEq, Nat.reduceAdd, Nat.reduceLeDiff, Nat.reduceBEq]))
  all_goals exact finRet0 hwf rfl (by simp [resOne, isPln, *] ) rfl
theorem plain_v (c : Int) (st : St) : VRet Tryz.prog 209 [.int .u8 c] st (.bool (isPln c)) st := by
  refine VCalls_of F209_ok mixed (Nat.le_of_ble_eq_true rfl) (fun hwf => ?_)
  (repeat' first | ((first | refine go rfl rfl ?_ | (refine Fk.by_ ?_ ?_ <;> intro hc <;> try simp only [hc]) | refine storeK_eq rfl ?_ | with_reducible refine And.intro ?_ ?_ | fail) <;> try simp only [push_cast, reduceIte, Nat.reduceEqDiff, reduceCtorEq, Nat.reduceAdd, Nat.reduceLeDiff, Nat.reduceBEq]))
  all_goals exact finRet0 hwf rfl (by simp [resOne, isPln, *] ) rfl
theorem isWord_v (c : Int) (st : St) : VRet Tryz.prog 161 [.int .u8 c] st (.bool (isWrd c)) st := by
  refine VCalls_of F161_ok mixed (Nat.le_of_ble_eq_true rfl) (fun hwf => ?_)
  (repeat' first | ((first | refine go rfl rfl ?_ | refine Cl.by_ (by (first | refine isLetter_v _ _ | refine isDigit_v _ _)) ?_ | (refine Fk.by_ ?_ ?_ <;> intro hc <;> try simp only [hc]) | refine storeK_eq rfl ?_ | with_reducible refine And.intro ?_ ?_ | fail) <;> try simp only [push_cast, reduceIte, Nat.reduceEqDiff, reduceCtorEq, Nat.reduceAdd, Nat.reduceLeDiff, Nat.reduceBEq]))
  all_goals exact finRet0 hwf rfl (by simp [resOne, isWrd, *] ) rfl
theorem blank_v (c : Int) (st : St) : VRet Tryz.prog 157 [.int .u8 c] st (.bool (c == 32)) st := by
  refine VCalls_of F157_ok mixed (Nat.le_of_ble_eq_true rfl) (fun hwf => ?_)
  (repeat' first | ((first | refine go rfl rfl ?_ | (refine Fk.by_ ?_ ?_ <;> intro hc <;> try simp only [hc]) | refine storeK_eq rfl ?_ | with_reducible refine And.intro ?_ ?_ | fail) <;> try simp only [push_cast, reduceIte, Nat.reduceEqDiff, reduceCtorEq, Nat.reduceAdd, Nat.reduceLeDiff, Nat.reduceBEq]))
  all_goals exact finRet0 hwf rfl rfl rfl
theorem quote_v (c : Int) (st : St) : VRet Tryz.prog 164 [.int .u8 c] st (.bool (c == 34)) st := by
  refine VCalls_of F164_ok mixed (Nat.le_of_ble_eq_true rfl) (fun hwf => ?_)
  (repeat' first | ((first | refine go rfl rfl ?_ | (refine Fk.by_ ?_ ?_ <;> intro hc <;> try simp only [hc]) | refine storeK_eq rfl ?_ | with_reducible refine And.intro ?_ ?_ | fail) <;> try simp only [push_cast, reduceIte, Nat.reduceEqDiff, reduceCtorEq, Nat.reduceAdd, Nat.reduceLeDiff, Nat.reduceBEq]))
  all_goals exact finRet0 hwf rfl rfl rfl
theorem dot_v (c : Int) (st : St) : VRet Tryz.prog 166 [.int .u8 c] st (.bool (c == 46)) st := by
  refine VCalls_of F166_ok mixed (Nat.le_of_ble_eq_true rfl) (fun hwf => ?_)
  (repeat' first | ((first | refine go rfl rfl ?_ | (refine Fk.by_ ?_ ?_ <;> intro hc <;> try simp only [hc]) | refine storeK_eq rfl ?_ | with_reducible refine And.intro ?_ ?_ | fail) <;> try simp only [push_cast, reduceIte, Nat.reduceEqDiff, reduceCtorEq, Nat.reduceAdd, Nat.reduceLeDiff, Nat.reduceBEq]))
  all_goals exact finRet0 hwf rfl rfl rfl

theorem sign_v (c : Int) (st : St) : VRet Tryz.prog 182 [.int .u8 c] st (.bool (isSgn c)) st := by
  refine VCalls_of F182_ok mixed (Nat.le_of_ble_eq_true rfl) (fun hwf => ?_)
  (repeat' first | ((first | refine go rfl rfl ?_ | (refine Fk.by_ ?_ ?_ <;> intro hc <;> try simp only [hc]) | refine storeK_eq rfl ?_ | with_reducible refine And.intro ?_ ?_ | fail) <;> try simp only [push_cast, reduceIte, Nat.reduceEqDiff, reduceCtorEq, Nat.reduceAdd, Nat.reduceLeDiff, Nat.reduceBEq]))
  refine WT_loop rfl (fun n e s => ∃ i : Nat, n = 11 - i ∧ i ≤ 11 ∧ (signs.take i).any (fun b => (b.toNat : Int) == c) = false ∧ e = [(3, .int .i64 i), (0, .int .u8 c)] ∧ s = st) st.nx (Nat.le_refl _) (by rintro _ _ _ ⟨i, _, _, _, _, rfl⟩; rfl)
    ⟨11, _, _, ⟨0, rfl, by omega, rfl, rfl, rfl⟩, .cons rfl rfl (.cons rfl rfl .nil), .refl hwf⟩ ?_
  rintro n e s ⟨i, rfl, hi, hno, rfl, rfl⟩
  (repeat' first | ((first | refine go rfl rfl ?_ | (refine Fk.by_ ?_ ?_ <;> intro hc <;> try simp only [hc]) | refine storeK_eq rfl ?_ | with_reducible refine And.intro ?_ ?_ | fail) <;> try simp only [push_cast, reduceIte, Nat.reduceEqDiff, reduceCtorEq, Nat.reduceAdd, Nat.reduceLeDiff, Nat.reduceBEq]))
  · have hi' : i < 11 := by have : (i : Int) < 11 := by simpa using hc
                            omega
    obtain ⟨b, hb⟩ : ∃ b, signs[i]? = some b := ⟨_, List.getElem?_eq_getElem (by simpa [signs] using hi')⟩
    refine afterE_map hb ?_
    simp only [push_cast, reduceIte, Nat.reduceEqDiff, reduceCtorEq, Nat.reduceAdd, Nat.reduceLeDiff, Nat.reduceBEq]
    (repeat' first | ((first | refine go rfl rfl ?_ | (refine Fk.by_ ?_ ?_ <;> intro hc <;> try simp only [hc]) | refine storeK_eq rfl ?_ | with_reducible refine And.intro ?_ ?_ | fail) <;> try simp only [push_cast, reduceIte, Nat.reduceEqDiff, reduceCtorEq, Nat.reduceAdd, Nat.reduceLeDiff, Nat.reduceBEq]))
    · refine finRet0 hwf rfl ?_ rfl
      have : isSgn c = true := List.any_eq_true.2 ⟨b, List.mem_of_getElem? hb, hc⟩
      simp [resOne, this]
    · rw [wrap64 (by omega) (by omega)]
      refine ⟨_, _, _, ?_, ⟨i + 1, rfl, by omega, ?_, rfl, rfl⟩, .cons rfl rfl (.cons rfl rfl .nil), .refl hwf⟩
      · omega
      · rw [List.take_add_one, hb]; simp [hno, hc]
  · have hi' : i = 11 := by have : ¬ ((i : Int) < 11) := by simpa using hc
                            omega
    subst hi'
    refine finRet0 hwf rfl ?_ rfl
    have : isSgn c = false := hno
    simp [resOne, this]
end Go.Proofs.YtnondemehfkalaaGreatDoor

set_option maxRecDepth 10000
namespace Go.Proofs.YtnondemehfkalaaGreatDoor
open Go.Sha

theorem f60 (s : List UInt8) (c : Int) (st : St) : VRet Tryz.prog 200 [.str s, .int .u8 c] st (.int .i64 (Lib.indexByte s c.toNat.toUInt8)) st :=
  indexByteString_v Tryz.func200 (by kernel_rfl) (by kernel_rfl) (by kernel_rfl) (by kernel_rfl) s c st
theorem f57 (s : List UInt8) (c : Int) (st : St) : VRet Tryz.prog 145 [.str s, .int .u8 c] st (.int .i64 (Lib.indexByte s c.toNat.toUInt8)) st := by
  refine VCalls_of F145_ok mixed (Nat.le_of_ble_eq_true rfl) (fun hwf => ?_)
  (repeat' first | ((first | refine go rfl rfl ?_ | refine Cl.by_ (by (first | refine f60 _ _ _)) ?_ | (refine Fk.by_ ?_ ?_ <;> intro hc <;> try simp only [hc]) | refine storeK_eq rfl ?_ | with_reducible refine And.intro ?_ ?_ | fail) <;> try simp only [push_cast, reduceIte, Nat.reduceEqDiff, reduceCtorEq, Nat.reduceAdd, Nat.reduceLeDiff, Nat.reduceBEq]))
  all_goals exact finRet0 hwf rfl rfl rfl
theorem f54 (s : List UInt8) (c : Int) (st : St) : VRet Tryz.prog 198 [.str s, .int .u8 c] st (.int .i64 (Lib.indexByte s c.toNat.toUInt8)) st := by
  refine VCalls_of F198_ok mixed (Nat.le_of_ble_eq_true rfl) (fun hwf => ?_)
  (repeat' first | ((first | refine go rfl rfl ?_ | refine Cl.by_ (by (first | refine f57 _ _ _)) ?_ | (refine Fk.by_ ?_ ?_ <;> intro hc <;> try simp only [hc]) | refine storeK_eq rfl ?_ | with_reducible refine And.intro ?_ ?_ | fail) <;> try simp only [push_cast, reduceIte, Nat.reduceEqDiff, reduceCtorEq, Nat.reduceAdd, Nat.reduceLeDiff, Nat.reduceBEq]))
  all_goals exact finRet0 hwf rfl rfl rfl

theorem indexByte_any (l : List UInt8) (c : UInt8) : decide (0 ≤ Lib.indexByte l c) = l.any fun b => (b.toNat : Int) == (c.toNat : Int) := by
  induction l with
  | nil => rfl
  | cons b l ih =>
    have hb : (b == c) = ((b.toNat : Int) == (c.toNat : Int)) := by
      rw [Bool.eq_iff_iff]
      simp only [beq_iff_eq]
      constructor
      · rintro rfl; rfl
      · intro h; exact UInt8.toNat_inj.1 (by omega)
    have hg := Lib.indexByte_ge l c
    rw [List.any_cons, ← hb, ← ih]
    by_cases h : (b == c) = true
    · simp [Lib.indexByte, h]
    · have h' : (b == c) = false := by simpa using h
      rw [h', Bool.false_or]
      apply decide_eq_decide.2
      have e : Lib.indexByte (b :: l) c = if (b == c) = true then 0 else if (Lib.indexByte l c == -1) = true then -1 else Lib.indexByte l c + 1 := rfl
      rw [e, if_neg h]
      split
      · rename_i h; have : Lib.indexByte l c = -1 := by simpa using h
        omega
      · rename_i h; have : Lib.indexByte l c ≠ -1 := by simpa using h
        omega

theorem isSign_v (b : UInt8) (st : St) : VRet Tryz.prog 167 [.int .u8 b.toNat] st (.bool (isSgn b.toNat)) st := by
  refine VCalls_of F167_ok mixed (Nat.le_of_ble_eq_true rfl) (fun hwf => ?_)
  (repeat' first | ((first | refine go rfl rfl ?_ | refine Cl.by_ (by (first | refine f54 _ _ _)) ?_ | (refine Fk.by_ ?_ ?_ <;> intro hc <;> try simp only [hc]) | refine storeK_eq rfl ?_ | with_reducible refine And.intro ?_ ?_ | fail) <;> try simp only [push_cast, reduceIte, Nat.reduceEqDiff, reduceCtorEq, Nat.reduceAdd, Nat.reduceLeDiff, Nat.reduceBEq]))
  refine finRet0 hwf rfl ?_ rfl
  have : ((b.toNat : Int).toNat).toUInt8 = b := by simp
  simp only [resOne, isSgn, ← indexByte_any, this]
  rfl
end Go.Proofs.YtnondemehfkalaaGreatDoor

set_option maxRecDepth 10000
namespace Go.Proofs.YtnondemehfkalaaGreatDoor
open Go.Sha

def atIs (ok : UInt8 → Bool) (s : List UInt8) (i : Nat) : Bool := match s[i]? with
  | some b => ok b
  | none => false

theorem is_v {k : FuncId} {ok : UInt8 → Bool} (hk : ∀ (b : UInt8) (st : St), VRet Tryz.prog k [.int .u8 b.toNat] st (.bool (ok b)) st) {st : St} {id : Nat} {s : List UInt8} {i n : Nat}
    (hm : Sha.look st.mem id = some [.str s, .int .i64 (i : Int)]) (hn : i + n < 4611686018427387904) :
    VRet Tryz.prog 159 [.ptr id 0, .int .i64 (n : Int), .fn (.func k) [] []] st (.bool (atIs ok s (i + n))) st := by
  refine VCalls_of F159_ok mixed (Nat.le_of_ble_eq_true rfl) (fun hwf => ?_)
  have hw : IntKind.i64.wrap ((i : Int) + (n : Int)) = (i : Int) + (n : Int) := wrap64 (by omega) (by omega)
  cases hb : s[i + n]? with
  | none =>
    have hlt : decide ((i : Int) + (n : Int) < (s.length : Int)) = false := by
      have := List.getElem?_eq_none_iff.1 hb
      simp; omega
    (repeat' first | ((first | refine go rfl rfl ?_ | (refine Fk.by_ ?_ ?_ <;> intro hc <;> try simp only [hc]) | refine storeK_eq rfl ?_ | with_reducible refine And.intro ?_ ?_ | fail) <;> try simp only [hm, hw, hlt, push_cast, reduceIte, Nat.reduceEqDiff, reduceCtorEq, Nat.reduceAdd, Nat.reduceLeDiff, Nat.reduceBEq]))
    exact finRet0 hwf rfl (by simp [resOne, atIs, hb]) rfl
  | some b =>
    have hlt : decide ((i : Int) + (n : Int) < (s.length : Int)) = true := by
      have := (List.getElem?_eq_some_iff.1 hb).1
      simp; omega
    (repeat' first | ((first | refine go rfl rfl ?_ | refine Cl.by_ (by (first | refine hk _ _)) ?_ | (refine Fk.by_ ?_ ?_ <;> intro hc <;> try simp only [hc]) | refine storeK_eq rfl ?_ | with_reducible refine And.intro ?_ ?_ | fail) <;> try simp only [hm, hw, hlt, hb, push_cast, reduceIte, Nat.reduceEqDiff, reduceCtorEq, Nat.reduceAdd, Nat.reduceLeDiff, Nat.reduceBEq]))
    exact finRet0 hwf rfl (by simp [resOne, atIs, hb]) rfl

/-- The place behind all bytes of a class from a place on. -/
def runTo (ok : UInt8 → Bool) (s : List UInt8) (i : Nat) : Nat := i + ((s.drop i).takeWhile ok).length

theorem runTo_stop {ok : UInt8 → Bool} {s : List UInt8} {i : Nat} (h : atIs ok s i = false) : runTo ok s i = i := by
  unfold runTo
  unfold atIs at h
  cases hb : s[i]? with
  | none => rw [List.drop_eq_nil_of_le (List.getElem?_eq_none_iff.1 hb)]; rfl
  | some b =>
    rw [hb] at h
    obtain ⟨hlt, e⟩ := List.getElem?_eq_some_iff.1 hb
    rw [List.drop_eq_getElem_cons hlt, e, List.takeWhile_cons, if_neg (by simpa using h)]; rfl

theorem runTo_go {ok : UInt8 → Bool} {s : List UInt8} {i : Nat} (h : atIs ok s i = true) : runTo ok s (i + 1) = runTo ok s i ∧ i < s.length := by
  unfold runTo
  unfold atIs at h
  cases hb : s[i]? with
  | none => rw [hb] at h; cases h
  | some b =>
    rw [hb] at h
    obtain ⟨hlt, e⟩ := List.getElem?_eq_some_iff.1 hb
    refine ⟨?_, hlt⟩
    rw [List.drop_eq_getElem_cons hlt, e, List.takeWhile_cons, if_pos (by simpa using h), List.length_cons]; omega

theorem runTo_le {ok : UInt8 → Bool} {s : List UInt8} {i : Nat} (h : i ≤ s.length) : runTo ok s i ≤ s.length := by
  unfold runTo
  have := (List.takeWhile_sublist ok (l := s.drop i)).length_le
  rw [List.length_drop] at this; omega

theorem skip_v {k : FuncId} {ok : UInt8 → Bool} (hk : ∀ (b : UInt8) (st : St), VRet Tryz.prog k [.int .u8 b.toNat] st (.bool (ok b)) st) {st : St} {id : Nat} {s : List UInt8} {i : Nat}
    (hm : Sha.look st.mem id = some [.str s, .int .i64 (i : Int)]) (hi : i ≤ s.length) (hs : s.length < 2305843009213693952) :
    VRet Tryz.prog 156 [.ptr id 0, .fn (.func k) [] []] st (.tup []) (st.put id [.str s, .int .i64 (runTo ok s i : Nat)]) := by
  refine VCalls_of F156_ok mixed (Nat.le_of_ble_eq_true rfl) (fun hwf => ?_)
  have hid := (hwf.mem _ _ hm).1
  (repeat' first | ((first | refine go rfl rfl ?_ | (refine Fk.by_ ?_ ?_ <;> intro hc <;> try simp only [hc]) | refine storeK_eq rfl ?_ | with_reducible refine And.intro ?_ ?_ | fail) <;> try simp only [push_cast, reduceIte, Nat.reduceEqDiff, reduceCtorEq, Nat.reduceAdd, Nat.reduceLeDiff, Nat.reduceBEq]))
  refine WT_loop rfl (fun n e z => ∃ j : Nat, n = s.length - j ∧ j ≤ s.length ∧ runTo ok s j = runTo ok s i ∧ e = [(0, .ptr id 0), (1, .fn (.func k) [] [])] ∧ z = st.put id [.str s, .int .i64 (j : Int)]) st.nx (Nat.le_refl _) (by rintro _ _ _ ⟨j, _, _, _, _, rfl⟩; rfl)
    ⟨_, _, _, ⟨i, rfl, hi, rfl, rfl, rfl⟩, .cons (by simpa [V.bd] using hid) rfl (.cons rfl rfl .nil), by rw [put_self hm]; exact .refl hwf⟩ ?_
  rintro n e z ⟨j, rfl, hj, hr, rfl, rfl⟩
  have hm' : Sha.look (updM st.mem id [.str s, .int .i64 (j : Int)]) id = some [.str s, .int .i64 (j : Int)] := look_upd hm
  have hw : j < s.length → IntKind.i64.wrap ((j : Int) + 1) = (j : Int) + 1 := fun h => wrap64 (by omega) (by omega)
  (repeat' first | ((first | refine go rfl rfl ?_ | refine Cl.by_ (by (first | refine is_v (n := 0) hk hm' (by omega))) ?_ | (refine Fk.by_ ?_ ?_ <;> intro hc <;> try simp only [hc]) | refine storeK_eq rfl ?_ | with_reducible refine And.intro ?_ ?_ | fail) <;> try simp only [hm', push_cast, reduceIte, Nat.reduceEqDiff, reduceCtorEq, Nat.reduceAdd, Nat.reduceLeDiff, Nat.reduceBEq]))
  · obtain ⟨g1, g2⟩ := runTo_go hc
    rw [hw g2]
    exact ⟨_, _, _, by omega, ⟨j + 1, rfl, by omega, by rw [g1, hr], rfl, rfl⟩, .cons (by simpa [V.bd] using hid) rfl (.cons rfl rfl .nil), .refl (hwf.put rfl)⟩
  · refine (finAt (vs := []) (r := .tup []) (hwf.put rfl) (Nat.le_refl _) ?_ rfl rfl rfl).1
    rw [← hr, runTo_stop hc]; rfl
end Go.Proofs.YtnondemehfkalaaGreatDoor

set_option maxRecDepth 10000
namespace Go.Proofs.YtnondemehfkalaaGreatDoor
open Go.Sha

/-- A token. -/
structure Tok where
  k : Int
  t : List UInt8
  a : Int
  deriving DecidableEq

def tkV (x : Tok) : V := .agg [.int .i64 x.k, .str x.t, .int .i64 x.a]
theorem cells_tkV {x : Tok} : (tkV x).cells = [.int .i64 x.k, .str x.t, .int .i64 x.a] := @_root_.id (_ = _) rfl
theorem bdL_tk {n : Nat} {l : List Tok} : V.bdL n (l.map tkV) = true := bdL_map fun _ _ => rfl
theorem all_tk {l : List Tok} : (l.map tkV).all (fun x => x.cells.length == 3) = true := by simp [tkV, V.cells]

def tokV (k : Int) (t : List UInt8) (a : Nat) : V := .agg [.int .i64 k, .str t, .int .i64 (a : Int)]
theorem app_tk {l : List Tok} {k : Int} {t : List UInt8} {a : Int} : l.map tkV ++ [.agg [.int .i64 k, .str t, .int .i64 a]] = (l ++ [Tok.mk k t a]).map tkV := by simp [tkV]

theorem made_v {st : St} {p q id : Nat} {s : List UInt8} {a i : Nat} (k : Int) (hp : Sha.look st.mem p = some [.ptr id 0]) (hq : Sha.look st.mem q = some [.int .i64 (a : Int)]) (hm : Sha.look st.mem id = some [.str s, .int .i64 (i : Int)]) (ha : a ≤ i) (hi : i ≤ s.length) :
    VRet Tryz.prog 158 [.int .i64 k, .ptr p 0, .ptr q 0] st (.tup [tokV k ((s.take i).drop a) a, .bool true]) st := by
  refine VCalls_of F158_ok mixed (Nat.le_of_ble_eq_true rfl) (fun hwf => ?_)
  have hp' := (hwf.mem _ _ hp).1
  have hq' := (hwf.mem _ _ hq).1
  have hm' := (hwf.mem _ _ hm).1
  have e1 : (st.nx = p) = False := eq_false (by omega)
  have e2 : (st.nx = q) = False := eq_false (by omega)
  have e3 : (st.nx = id) = False := eq_false (by omega)
  (repeat' first | ((first | refine go rfl rfl ?_ | (refine Fk.by_ ?_ ?_ <;> intro hc <;> try simp only [hc]) | refine storeK_eq rfl ?_ | with_reducible refine And.intro ?_ ?_ | fail) <;> try simp only [hp, hq, hm, e1, e2, e3, ha, hi, push_cast, reduceIte, Nat.reduceEqDiff, reduceCtorEq, Nat.reduceAdd, Nat.reduceLeDiff, Nat.reduceBEq]))
  refine finB (hwf) (by simp only [F158, push_cast, reduceIte, Nat.reduceEqDiff, reduceCtorEq, Nat.reduceAdd, Nat.reduceLeDiff, Nat.reduceBEq]; exact rfl) (by first | exact .inl rfl | (right; simp only [F158, push_cast, reduceIte, Nat.reduceEqDiff, reduceCtorEq, Nat.reduceAdd, Nat.reduceLeDiff, Nat.reduceBEq]; try rfl)) (by first | rfl | assumption) (by simp) (by simp) (by (repeat first | exact (hwf).subm | exact (hwf).suba | refine Sub.drop (by simp) ?_)) (by (repeat first | exact (hwf).subm | exact (hwf).suba | refine Sub.drop (by simp) ?_)) (by (repeat first | exact (hwf).subx | refine ExSub.dropt (by simp) ?_ | refine ExSub.drop (by simp) ?_))

def lowB (b : UInt8) : UInt8 := if 65 ≤ b.toNat ∧ b.toNat ≤ 90 then b + 32 else b
def lowN (s : List UInt8) (j : Nat) : List UInt8 := (s.take j).map lowB ++ s.drop j
theorem lowN_length {s : List UInt8} {j : Nat} : (lowN s j).length = s.length := by simp [lowN]; omega
theorem lowN_get {s : List UInt8} {j : Nat} (h : j < s.length) : (lowN s j)[j]? = s[j]? := by
  unfold lowN
  have e : ((s.take j).map lowB).length = j := by simp; omega
  rw [List.getElem?_append_right (by omega), e]
  simp
theorem lowN_set {s : List UInt8} {j : Nat} {b : UInt8} (h : s[j]? = some b) : lowN s (j + 1) = (lowN s j).set j (lowB b) := by
  obtain ⟨hlt, e⟩ := List.getElem?_eq_some_iff.1 h
  unfold lowN
  have e1 : ((s.take j).map lowB).length = j := by simp; omega
  rw [List.take_add_one, h, List.set_append_right _ _ (by omega), e1, List.drop_eq_getElem_cons hlt]
  simp only [Option.toList_some, List.map_append, List.map_cons, List.map_nil, Nat.sub_self, List.set_cons_zero, List.append_assoc, List.singleton_append]
theorem set_self {α : Type} {l : List α} {i : Nat} {a : α} (h : l[i]? = some a) : l.set i a = l := by
  obtain ⟨hl, rfl⟩ := List.getElem?_eq_some_iff.1 h
  exact List.set_getElem_self hl
theorem lowN_zero {s : List UInt8} : lowN s 0 = s := by simp [lowN]
theorem lowN_all {s : List UInt8} : lowN s s.length = s.map lowB := by simp [lowN]
theorem lowB_up {b : UInt8} (h1 : 65 ≤ b.toNat) (h2 : b.toNat ≤ 90) : bV (lowB b) = .int .u8 (IntKind.u8.wrap (IntKind.u8.wrap ((b.toNat : Int) + 97) - 65)) := by
  have e : lowB b = b + 32 := if_pos ⟨h1, h2⟩
  rw [e, bV]
  congr 1
  simp only [IntKind.wrap, IntKind.bits, IntKind.signed, UInt8.toNat_add]
  simp
  omega
theorem lowB_no {b : UInt8} (h : ¬ (65 ≤ b.toNat ∧ b.toNat ≤ 90)) : lowB b = b := if_neg h

theorem lower_v (s : List UInt8) (st : St) (hs : s.length ≤ 140737488355328) : VRet Tryz.prog 162 [.str s] st (.str (s.map lowB)) st := by
  refine VCalls_of F162_ok mixed (Nat.le_of_ble_eq_true rfl) (fun hwf => ?_)
  have hml : (s.length ≤ maxLen) = True := eq_true (by unfold maxLen; omega)
  (repeat' first | ((first | refine go rfl rfl ?_ | (refine Fk.by_ ?_ ?_ <;> intro hc <;> try simp only [hc]) | refine storeK_eq rfl ?_ | with_reducible refine And.intro ?_ ?_ | fail) <;> try simp only [hml, push_cast, reduceIte, Nat.reduceEqDiff, reduceCtorEq, Nat.reduceAdd, Nat.reduceLeDiff, Nat.reduceBEq]))
  refine WT_loop rfl (fun n e z => ∃ j : Nat, n = s.length - j ∧ j ≤ s.length ∧ e = [(10, .int .i64 (j : Int)), (9, .int .i64 (s.length : Int)), (8, .osl st.nx s.length), (3, .osl st.nx s.length)] ∧
      z = ⟨st.nx + 1, st.mem, (st.nx, ⟨5, 1, (lowN s j).map bV, true, true⟩) :: st.arr, st.x⟩) (st.nx + 1) (Nat.le_refl _) (by rintro _ _ _ ⟨j, _, _, _, rfl⟩; rfl)
    ⟨_, _, _, ⟨0, rfl, Nat.zero_le _, rfl, rfl⟩, ?_, ?_⟩ ?_
  · simp only [Int.ofNat_zero]
    refine .cons rfl rfl (.cons rfl rfl (.cons ?_ rfl (.cons ?_ rfl .nil))) <;> simp [V.bd]
  · rw [lowN_zero]; exact .refl (hwf.newA bdL_bV)
  rintro n e z ⟨j, rfl, hj, rfl, rfl⟩
  have hw : j < s.length → IntKind.i64.wrap ((j : Int) + 1) = (j : Int) + 1 := fun h => wrap64 (by omega) (by omega)
  rcases Nat.lt_or_ge j s.length with hlt | hge
  · obtain ⟨b, hb⟩ : ∃ b, s[j]? = some b := ⟨_, List.getElem?_eq_getElem hlt⟩
    have h1 : decide ((j : Int) < (s.length : Int)) = true := by simp; omega
    have hg : (lowN s j)[j]? = some b := by rw [lowN_get hlt, hb]
    (repeat' first | ((first | refine go rfl rfl ?_ | (refine Fk.by_ ?_ ?_ <;> intro hc <;> try simp only [hc]) | refine storeK_eq rfl ?_ | with_reducible refine And.intro ?_ ?_ | fail) <;> try simp only [h1, hg, hlt, hw hlt, lowN_length, push_cast, reduceIte, Nat.reduceEqDiff, reduceCtorEq, Nat.reduceAdd, Nat.reduceLeDiff, Nat.reduceBEq]))
    case refine_1.refine_1 hc1 =>
      have e : (List.map bV (lowN s j)).set j (.int .u8 (IntKind.u8.wrap (IntKind.u8.wrap ((b.toNat : Int) + 97) - 65))) = (lowN s (j + 1)).map bV := by
        rw [lowN_set hb, List.map_set, lowB_up (by have := of_decide_eq_true hc1; omega) (by have := of_decide_eq_true hc; omega)]
      rw [e]
      exact ⟨_, _, _, by omega, ⟨j + 1, rfl, by omega, rfl, rfl⟩, (by repeat first | exact .nil | refine .cons (by first | rfl | (simp [V.bd, V.bdL]; try first | omega | assumption)) (by first | rfl | simp only [push_cast, reduceIte, Nat.reduceEqDiff, reduceCtorEq, Nat.reduceAdd, Nat.reduceLeDiff, Nat.reduceBEq]) ?_), .refl (hwf.newA bdL_bV)⟩
    all_goals
      have e : (List.map bV (lowN s j)) = (lowN s (j + 1)).map bV := by
        rw [lowN_set hb, lowB_no (by have := of_decide_eq_false ‹_›; omega)]
        congr 1
        exact (set_self hg).symm
      rw [e]
      exact ⟨_, _, _, by omega, ⟨j + 1, rfl, by omega, rfl, rfl⟩, (by repeat first | exact .nil | refine .cons (by first | rfl | (simp [V.bd, V.bdL]; try first | omega | assumption)) (by first | rfl | simp only [push_cast, reduceIte, Nat.reduceEqDiff, reduceCtorEq, Nat.reduceAdd, Nat.reduceLeDiff, Nat.reduceBEq]) ?_), .refl (hwf.newA bdL_bV)⟩
  · have h1 : decide ((j : Int) < (s.length : Int)) = false := by simp; omega
    have hj' : j = s.length := by omega
    subst hj'
    rw [lowN_all]
    (repeat' first | ((first | refine go rfl rfl ?_ | (refine Fk.by_ ?_ ?_ <;> intro hc <;> try simp only [hc]) | refine storeK_eq rfl ?_ | with_reducible refine And.intro ?_ ?_ | fail) <;> try simp only [h1, push_cast, reduceIte, Nat.reduceEqDiff, reduceCtorEq, Nat.reduceAdd, Nat.reduceLeDiff, Nat.reduceBEq]))
    refine finB (hwf) (by simp only [F162, push_cast, reduceIte, Nat.reduceEqDiff, reduceCtorEq, Nat.reduceAdd, Nat.reduceLeDiff, Nat.reduceBEq]; exact rfl) (by first | exact .inl rfl | (right; simp only [F162, push_cast, reduceIte, Nat.reduceEqDiff, reduceCtorEq, Nat.reduceAdd, Nat.reduceLeDiff, Nat.reduceBEq]; try rfl)) (by first | rfl | assumption) (by simp) (by simp) (by (repeat first | exact (hwf).subm | exact (hwf).suba | refine Sub.drop (by simp) ?_)) (by (repeat first | exact (hwf).subm | exact (hwf).suba | refine Sub.drop (by simp) ?_)) (by (repeat first | exact (hwf).subx | refine ExSub.dropt (by simp) ?_ | refine ExSub.drop (by simp) ?_))
end Go.Proofs.YtnondemehfkalaaGreatDoor

set_option maxRecDepth 10000
namespace Go.Proofs.YtnondemehfkalaaGreatDoor
open Go.Sha

def letB (b : UInt8) : Bool := isLet b.toNat
def digB (b : UInt8) : Bool := isDig b.toNat
def wrdB (b : UInt8) : Bool := isWrd b.toNat
def plnB (b : UInt8) : Bool := isPln b.toNat
def sgnB (b : UInt8) : Bool := isSgn b.toNat
def isB (n : Int) (b : UInt8) : Bool := (b.toNat : Int) == n
theorem c42 (b : UInt8) (st : St) : VRet Tryz.prog 160 [.int .u8 b.toNat] st (.bool (letB b)) st := isLetter_v _ _
theorem c43 (b : UInt8) (st : St) : VRet Tryz.prog 161 [.int .u8 b.toNat] st (.bool (wrdB b)) st := isWord_v _ _
theorem c46 (b : UInt8) (st : St) : VRet Tryz.prog 165 [.int .u8 b.toNat] st (.bool (digB b)) st := isDigit_v _ _
theorem c27 (b : UInt8) (st : St) : VRet Tryz.prog 163 [.int .u8 b.toNat] st (.bool (plnB b)) st := isPlain_v _ _
theorem c48 (b : UInt8) (st : St) : VRet Tryz.prog 167 [.int .u8 b.toNat] st (.bool (sgnB b)) st := isSign_v _ _
theorem c39 (b : UInt8) (st : St) : VRet Tryz.prog 157 [.int .u8 b.toNat] st (.bool (isB 32 b)) st := blank_v _ _
theorem c45 (b : UInt8) (st : St) : VRet Tryz.prog 164 [.int .u8 b.toNat] st (.bool (isB 34 b)) st := quote_v _ _
theorem c47 (b : UInt8) (st : St) : VRet Tryz.prog 166 [.int .u8 b.toNat] st (.bool (isB 46 b)) st := dot_v _ _

theorem le_runTo {ok : UInt8 → Bool} {s : List UInt8} {i : Nat} : i ≤ runTo ok s i := Nat.le_add_right _ _
theorem atIs_lt {ok : UInt8 → Bool} {s : List UInt8} {i : Nat} (h : atIs ok s i = true) : i < s.length := by
  unfold atIs at h
  cases e : s[i]? with
  | none => rw [e] at h; cases h
  | some b => exact (List.getElem?_eq_some_iff.1 e).1

/-- The token that begins at a: its kind, its text, its end. -/
def lexAt (s : List UInt8) (a : Nat) : Option (Int × List UInt8 × Nat) :=
  if a = s.length then some (3, [], a)
  else if atIs letB s a then some (0, ((s.take (runTo wrdB s a)).drop a).map lowB, runTo wrdB s a)
  else if atIs (isB 34) s a then
    if atIs (isB 34) s (runTo plnB s (a + 1)) then some (0, (s.take (runTo plnB s (a + 1) + 1)).drop a, runTo plnB s (a + 1) + 1) else none
  else if atIs digB s a then
    if atIs (isB 46) s (runTo digB s a) && atIs digB s (runTo digB s a + 1) then some (1, (s.take (runTo digB s (runTo digB s a + 1))).drop a, runTo digB s (runTo digB s a + 1))
    else some (1, (s.take (runTo digB s a)).drop a, runTo digB s a)
  else if atIs sgnB s a then some (2, (s.take (a + 1)).drop a, a + 1)
  else none

def tokR (s : List UInt8) (i : Nat) : V × Nat := match lexAt s (runTo (isB 32) s i) with
  | some (k, t, e) => (.tup [tokV k t (runTo (isB 32) s i), .bool true], e)
  | none => (.tup [tokV 0 [] 0, .bool false], runTo (isB 32) s i)

theorem cells_tokV {k : Int} {t : List UInt8} {a : Nat} : (tokV k t a).cells = [.int .i64 k, .str t, .int .i64 (a : Int)] := @_root_.id (_ = _) rfl

theorem token_v {st : St} {id : Nat} {s : List UInt8} {i : Nat} (hm : Sha.look st.mem id = some [.str s, .int .i64 (i : Int)]) (hi : i ≤ s.length) (hs : s.length < 140737488355328) :
    VRet Tryz.prog 107 [.ptr id 0] st (tokR s i).1 (st.put id [.str s, .int .i64 (((tokR s i).2 : Nat) : Int)]) := by
  refine VCalls_of F107_ok mixed (Nat.le_of_ble_eq_true rfl) (fun hwf => ?_)
  have hid := (hwf.mem _ _ hm).1
  have e3 : ∀ n, (st.nx + n = id) = False := fun n => eq_false (by omega)
  have e4 : (st.nx = id) = False := eq_false (by omega)
  obtain ⟨R, hR⟩ : ∃ R, tokR s i = R := ⟨_, rfl⟩
  rw [hR]
  obtain ⟨a, ha⟩ : ∃ a, runTo (isB 32) s i = a := ⟨_, rfl⟩
  have hal : a ≤ s.length := by rw [← ha]; exact runTo_le hi
  have hN : lexAt s a = none → R = (.tup [tokV 0 [] 0, .bool false], a) := fun h => by rw [← hR, tokR, ha, h]
  have hS : ∀ k t e, lexAt s a = some (k, t, e) → R = (.tup [tokV k t a, .bool true], e) := fun k t e h => by rw [← hR, tokR, ha, h]
  unfold lexAt at hN hS
  obtain ⟨a1, ha1⟩ : ∃ a1, a + 1 = a1 := ⟨_, rfl⟩
  obtain ⟨b, hb⟩ : ∃ b, runTo wrdB s a = b := ⟨_, rfl⟩
  have hbl : b ≤ s.length := by rw [← hb]; exact runTo_le hal
  have hab : a ≤ b := by rw [← hb]; exact le_runTo
  obtain ⟨q, hq⟩ : ∃ q, runTo plnB s a1 = q := ⟨_, rfl⟩
  obtain ⟨q1, hq1⟩ : ∃ q1, q + 1 = q1 := ⟨_, rfl⟩
  have haq : a1 ≤ q := by rw [← hq]; exact le_runTo
  obtain ⟨d, hd⟩ : ∃ d, runTo digB s a = d := ⟨_, rfl⟩
  obtain ⟨d1, hd1⟩ : ∃ d1, d + 1 = d1 := ⟨_, rfl⟩
  have hdl : d ≤ s.length := by rw [← hd]; exact runTo_le hal
  have had : a ≤ d := by rw [← hd]; exact le_runTo
  obtain ⟨c, hdc⟩ : ∃ c, runTo digB s d1 = c := ⟨_, rfl⟩
  have hdc1 : d1 ≤ c := by rw [← hdc]; exact le_runTo
  rw [hb, ha1, hq, hq1, hd, hd1, hdc] at hN hS
  have hlk : ∀ n : Int, Sha.look (updM st.mem id [.str s, .int .i64 n]) id = some [.str s, .int .i64 n] := fun n => look_upd hm
  rcases Nat.lt_or_ge a s.length with hlt | hge
  · obtain ⟨x, hx⟩ : ∃ x, s[a]? = some x := ⟨_, List.getElem?_eq_getElem hlt⟩
    rw [if_neg (by omega)] at hN hS
    have h0 : ((a : Int) == (s.length : Int)) = false := by simp; omega
    have hql : q ≤ s.length := by rw [← hq]; exact runTo_le (by omega)
    have hdc2 : d < s.length → c ≤ s.length := fun h => by rw [← hdc]; exact runTo_le (by omega)
    have hw1 : IntKind.i64.wrap ((a : Int) + 1) = (a1 : Int) := by rw [wrap64 (by omega) (by omega)]; omega
    have hw2 : IntKind.i64.wrap ((q : Int) + 1) = (q1 : Int) := by rw [wrap64 (by omega) (by omega)]; omega
    have hw3 : IntKind.i64.wrap ((d : Int) + 1) = (d1 : Int) := by rw [wrap64 (by omega) (by omega)]; omega
    have hll : ∀ x y, ((s.take x).drop y).length ≤ 140737488355328 := fun x y => by simp only [List.length_drop, List.length_take]; omega
    have hx2 : ((x.toNat : Int) == 34) = atIs (isB 34) s a := by simp [atIs, hx, isB]
    (repeat' first | ((first | refine go rfl rfl ?_ | refine Cl.by_ (by (first | apply skip_v c39 | apply is_v (n := 0) c42 | apply is_v (n := 0) c45 | apply is_v (n := 0) c46 | apply is_v (n := 0) c47 | apply is_v (n := 0) c48 | apply is_v (n := 1) c46 | apply skip_v c43 | apply skip_v c27 | apply skip_v c46 | apply made_v _ | refine lower_v _ _ (hll _ _)) <;> first | omega | (have h9 := atIs_lt hc; omega) | (simp only [cells_tokV, hm, ha, hb, hq, hd, hd1, hdc, e3, e4, hlk, h0, hx, hw1, hw2, hw3, hx2, push_cast, reduceIte, Nat.reduceEqDiff, reduceCtorEq, Nat.reduceAdd, Nat.reduceLeDiff, Nat.reduceBEq]; done) | (simp only [cells_tokV, hm, ha, hb, hq, hd, hd1, hdc, e3, e4, hlk, h0, hx, hw1, hw2, hw3, hx2, push_cast, reduceIte, Nat.reduceEqDiff, reduceCtorEq, Nat.reduceAdd, Nat.reduceLeDiff, Nat.reduceBEq]; exact rfl) | fail) ?_ | (refine Fk.by_ ?_ ?_ <;> intro hc <;> try simp only [hc]) | refine storeK_eq rfl ?_ | with_reducible refine And.intro ?_ ?_ | fail) <;> try simp only [cells_tokV, hm, ha, hb, hq, hd, hd1, hdc, e3, e4, hlk, h0, hx, hw1, hw2, hw3, hx2, push_cast, reduceIte, Nat.reduceEqDiff, reduceCtorEq, Nat.reduceAdd, Nat.reduceLeDiff, Nat.reduceBEq]))
    all_goals
      simp [*, -List.map_take, -List.map_drop] at hS hN
      try rw [hS]
      try rw [hN]
      refine finB ((hwf.put rfl)) (by simp only [F107, cells_tokV, e3, e4, hlk, push_cast, reduceIte, Nat.reduceEqDiff, reduceCtorEq, Nat.reduceAdd, Nat.reduceLeDiff, Nat.reduceBEq]; exact rfl) (by first | exact .inl rfl | (right; simp only [F107, cells_tokV, e3, e4, hlk, push_cast, reduceIte, Nat.reduceEqDiff, reduceCtorEq, Nat.reduceAdd, Nat.reduceLeDiff, Nat.reduceBEq]; try rfl)) (by first | rfl | assumption) (by simp) (by simp) (by (repeat first | exact ((hwf.put rfl)).subm | exact ((hwf.put rfl)).suba | refine Sub.drop (by simp) ?_)) (by (repeat first | exact ((hwf.put rfl)).subm | exact ((hwf.put rfl)).suba | refine Sub.drop (by simp) ?_)) (by (repeat first | exact ((hwf.put rfl)).subx | refine ExSub.dropt (by simp) ?_ | refine ExSub.drop (by simp) ?_))
  · have hae : a = s.length := by omega
    have h0 : ((a : Int) == (s.length : Int)) = true := by simp [hae]
    have hR2 : R = (.tup [tokV 3 [] a, .bool true], a) := hS _ _ _ (if_pos hae)
    rw [hR2]
    have hem : (s.take a).drop a = [] := List.drop_eq_nil_of_le (by simp; omega)
    (repeat' first | ((first | refine go rfl rfl ?_ | refine Cl.by_ (by (first | apply skip_v c39 | apply made_v _) <;> first | omega | (simp only [cells_tokV, hm, ha, e3, e4, hlk, h0, hem, push_cast, reduceIte, Nat.reduceEqDiff, reduceCtorEq, Nat.reduceAdd, Nat.reduceLeDiff, Nat.reduceBEq]; done) | (simp only [cells_tokV, hm, ha, e3, e4, hlk, h0, hem, push_cast, reduceIte, Nat.reduceEqDiff, reduceCtorEq, Nat.reduceAdd, Nat.reduceLeDiff, Nat.reduceBEq]; exact rfl) | fail) ?_ | (refine Fk.by_ ?_ ?_ <;> intro hc <;> try simp only [hc]) | refine storeK_eq rfl ?_ | with_reducible refine And.intro ?_ ?_ | fail) <;> try simp only [cells_tokV, hm, ha, e3, e4, hlk, h0, hem, push_cast, reduceIte, Nat.reduceEqDiff, reduceCtorEq, Nat.reduceAdd, Nat.reduceLeDiff, Nat.reduceBEq]))
    refine finB ((hwf.put rfl)) (by simp only [F107, cells_tokV, e3, e4, hlk, push_cast, reduceIte, Nat.reduceEqDiff, reduceCtorEq, Nat.reduceAdd, Nat.reduceLeDiff, Nat.reduceBEq]; exact rfl) (by first | exact .inl rfl | (right; simp only [F107, cells_tokV, e3, e4, hlk, push_cast, reduceIte, Nat.reduceEqDiff, reduceCtorEq, Nat.reduceAdd, Nat.reduceLeDiff, Nat.reduceBEq]; try rfl)) (by first | rfl | assumption) (by simp) (by simp) (by (repeat first | exact ((hwf.put rfl)).subm | exact ((hwf.put rfl)).suba | refine Sub.drop (by simp) ?_)) (by (repeat first | exact ((hwf.put rfl)).subm | exact ((hwf.put rfl)).suba | refine Sub.drop (by simp) ?_)) (by (repeat first | exact ((hwf.put rfl)).subx | refine ExSub.dropt (by simp) ?_ | refine ExSub.drop (by simp) ?_))
end Go.Proofs.YtnondemehfkalaaGreatDoor

set_option maxRecDepth 10000
namespace Go.Proofs.YtnondemehfkalaaGreatDoor
open Go.Sha

theorem runTo_bd {ok : UInt8 → Bool} {s : List UInt8} {i : Nat} (h : i ≤ s.length) : i ≤ runTo ok s i ∧ runTo ok s i ≤ s.length := ⟨le_runTo, runTo_le h⟩
theorem runTo_lt {ok : UInt8 → Bool} {s : List UInt8} {i : Nat} (h : atIs ok s i = true) : i < runTo ok s i := by
  have := (runTo_go h).1
  have := le_runTo (ok := ok) (s := s) (i := i + 1)
  omega
theorem letB_wrdB {s : List UInt8} {i : Nat} (h : atIs letB s i = true) : atIs wrdB s i = true := by
  unfold atIs at h ⊢
  cases hb : s[i]? with
  | none => rw [hb] at h; exact h
  | some b =>
    rw [hb] at h
    simp only [letB, wrdB, isWrd] at h ⊢
    rw [h]; rfl

theorem lexAt_bd {s : List UInt8} {a : Nat} (ha : a ≤ s.length) {k : Int} {t : List UInt8} {e : Nat} (h : lexAt s a = some (k, t, e)) : a ≤ e ∧ e ≤ s.length ∧ (k ≠ 3 → a < e) := by
  unfold lexAt at h
  split at h
  · cases h; exact ⟨Nat.le_refl _, ha, fun h => absurd rfl h⟩
  · split at h
    · rename_i h1 h2
      cases h
      have := runTo_bd (ok := wrdB) ha
      exact ⟨this.1, this.2, fun _ => runTo_lt (letB_wrdB h2)⟩
    · split at h
      · rename_i h1 h2 h3
        have hl := atIs_lt h3
        have := runTo_bd (ok := plnB) (s := s) (i := a + 1) (by omega)
        split at h
        · rename_i h4
          have := atIs_lt h4
          cases h
          exact ⟨by omega, by omega, fun _ => by omega⟩
        · cases h
      · split at h
        · rename_i h1 h2 h3 h4
          have := runTo_bd (ok := digB) ha
          have := runTo_lt h4
          split at h
          · rename_i h5
            simp only [Bool.and_eq_true] at h5
            have h6 := atIs_lt h5.2
            have := runTo_bd (ok := digB) (s := s) (i := runTo digB s a + 1) (by omega)
            cases h
            exact ⟨by omega, by omega, fun _ => by omega⟩
          · cases h
            exact ⟨by omega, by omega, fun _ => by omega⟩
        · split at h
          · rename_i h5
            have := atIs_lt h5
            cases h
            exact ⟨by omega, by omega, fun _ => by omega⟩
          · cases h

/-- The tokens from a place on, behind others: all of them, or the place and the number of the error. -/
def scanG : Nat → List UInt8 → Nat → List Tok → List Tok × Nat × Int
  | 0, _, _, _ => ([], 0, 4)
  | f + 1, s, i, acc => match lexAt s (runTo (isB 32) s i) with
    | none => ([], runTo (isB 32) s i, 4)
    | some (k, t, e) => if acc.length = 256 then ([], runTo (isB 32) s i, 5)
      else if k = 3 then (acc ++ [⟨k, t, (runTo (isB 32) s i : Nat)⟩], 0, 0)
      else scanG f s e (acc ++ [⟨k, t, (runTo (isB 32) s i : Nat)⟩])

def scanR (s : List UInt8) : List Tok × Nat × Int := if 4096 < s.length then ([], 0, 13) else scanG (s.length + 1) s 0 []
def scanV (r : List Tok × Nat × Int) : V := .tup [.sl (r.1.map tkV), .int .i64 (r.2.1 : Int), .int .i64 r.2.2]

theorem scan_v (s : List UInt8) (st : St) : VRet Tryz.prog 60 [.str s] st (scanV (scanR s)) st := by
  refine VCalls_of F60_ok mixed (Nat.le_of_ble_eq_true rfl) (fun hwf => ?_)
  by_cases hl : 4096 < s.length
  · have hR : scanR s = ([], 0, 13) := if_pos hl
    have h0 : decide ((4096 : Int) < (s.length : Int)) = true := by simp; omega
    rw [hR]
    (repeat' first | ((first | refine go rfl rfl ?_ | (refine Fk.by_ ?_ ?_ <;> intro hc <;> try simp only [hc]) | refine storeK_eq rfl ?_ | with_reducible refine And.intro ?_ ?_ | fail) <;> try simp only [h0, push_cast, reduceIte, Nat.reduceEqDiff, reduceCtorEq, Nat.reduceAdd, Nat.reduceLeDiff, Nat.reduceBEq]))
    refine finB (hwf) (by simp only [F60, scanV, push_cast, reduceIte, Nat.reduceEqDiff, reduceCtorEq, Nat.reduceAdd, Nat.reduceLeDiff, Nat.reduceBEq]; exact rfl) (by first | exact .inl rfl | (right; simp only [F60, scanV, push_cast, reduceIte, Nat.reduceEqDiff, reduceCtorEq, Nat.reduceAdd, Nat.reduceLeDiff, Nat.reduceBEq]; try rfl)) (by first | rfl | assumption) (by simp) (by simp) (by (repeat first | exact (hwf).subm | exact (hwf).suba | refine Sub.drop (by simp) ?_)) (by (repeat first | exact (hwf).subm | exact (hwf).suba | refine Sub.drop (by simp) ?_)) (by (repeat first | exact (hwf).subx | refine ExSub.dropt (by simp) ?_ | refine ExSub.drop (by simp) ?_))
  · have hR : scanR s = scanG (s.length + 1) s 0 [] := if_neg hl
    have hs : s.length < 140737488355328 := by omega
    have h0 : decide ((4096 : Int) < (s.length : Int)) = false := by simp; omega
    obtain ⟨R, hRR⟩ : ∃ R, scanR s = R := ⟨_, rfl⟩
    rw [hRR]
    rw [hRR] at hR
    (repeat' first | ((first | refine go rfl rfl ?_ | (refine Fk.by_ ?_ ?_ <;> intro hc <;> try simp only [hc]) | refine storeK_eq rfl ?_ | with_reducible refine And.intro ?_ ?_ | fail) <;> try simp only [h0, push_cast, reduceIte, Nat.reduceEqDiff, reduceCtorEq, Nat.reduceAdd, Nat.reduceLeDiff, Nat.reduceBEq]))
    refine WT_own 111 3 (t := 6) rfl ?_
    refine WT_loop rfl (fun n e z => ∃ f i acc, n = s.length - i ∧ i ≤ s.length ∧ s.length - i < f ∧ acc.length ≤ 256 ∧ R = scanG f s i acc ∧ e = [(5, .ptr st.nx 0), (6, .osl (st.nx + 1) acc.length)] ∧
      z = ⟨st.nx + 2, (st.nx, [.str s, .int .i64 (i : Int)]) :: st.mem, (st.nx + 1, ⟨111, 3, acc.map tkV, false, false⟩) :: st.arr, st.x⟩) (st.nx + 2) (Nat.le_refl _) (by rintro _ _ _ ⟨_, _, _, _, _, _, _, _, _, rfl⟩; rfl)
      ⟨_, _, _, ⟨s.length + 1, 0, [], rfl, Nat.zero_le _, by omega, by simp, hR, rfl, rfl⟩, (by repeat first | exact .nil | refine .cons (by first | rfl | (simp [V.bd, V.bdL]; try first | omega | assumption)) (by first | rfl | simp only [push_cast, reduceIte, Nat.reduceEqDiff, reduceCtorEq, Nat.reduceAdd, Nat.reduceLeDiff, Nat.reduceBEq]) ?_), .refl ((hwf.new rfl).newA rfl)⟩ ?_
    rintro n e z ⟨f, i, acc, rfl, hi, hf, hac, hR, rfl, rfl⟩
    cases f with
    | zero => omega
    | succ f =>
    rw [scanG] at hR
    obtain ⟨a, ha⟩ : ∃ a, runTo (isB 32) s i = a := ⟨_, rfl⟩
    have hal : a ≤ s.length := by rw [← ha]; exact runTo_le hi
    rw [ha] at hR
    have hm : Sha.look ((st.nx, [V.str s, .int .i64 (i : Int)]) :: st.mem) st.nx = some [.str s, .int .i64 (i : Int)] := by simp [Sha.look]
    cases h : lexAt s a with
    | none =>
      have ht : tokR s i = (.tup [tokV 0 [] 0, .bool false], a) := by rw [tokR, ha, h]
      rw [h] at hR
      subst hR
      (repeat' first | ((first | refine go rfl rfl ?_ | refine Cl.by_ (by (first | refine token_v (i := i) hm hi hs)) ?_ | (refine Fk.by_ ?_ ?_ <;> intro hc <;> try simp only [hc]) | refine storeK_eq rfl ?_ | with_reducible refine And.intro ?_ ?_ | fail) <;> try simp only [ht, cells_tokV, push_cast, reduceIte, Nat.reduceEqDiff, reduceCtorEq, Nat.reduceAdd, Nat.reduceLeDiff, Nat.reduceBEq]))
      refine finB (hwf) (by simp only [F60, scanV, push_cast, reduceIte, Nat.reduceEqDiff, reduceCtorEq, Nat.reduceAdd, Nat.reduceLeDiff, Nat.reduceBEq]; exact rfl) (by first | exact .inl rfl | (right; simp only [F60, scanV, push_cast, reduceIte, Nat.reduceEqDiff, reduceCtorEq, Nat.reduceAdd, Nat.reduceLeDiff, Nat.reduceBEq]; try rfl)) (by first | rfl | assumption) (by simp) (by simp) (by (repeat first | exact (hwf).subm | exact (hwf).suba | refine Sub.drop (by simp) ?_)) (by (repeat first | exact (hwf).subm | exact (hwf).suba | refine Sub.drop (by simp) ?_)) (by (repeat first | exact (hwf).subx | refine ExSub.dropt (by simp) ?_ | refine ExSub.drop (by simp) ?_))
    | some r =>
      obtain ⟨k, t, e⟩ := r
      have ht : tokR s i = (.tup [tokV k t a, .bool true], e) := by rw [tokR, ha, h]
      simp only [h] at hR
      by_cases hn : acc.length = 256
      · rw [if_pos hn] at hR
        subst hR
        have h1 : ((acc.length : Int) == 256) = true := by simp; omega
        (repeat' first | ((first | refine go rfl rfl ?_ | refine Cl.by_ (by (first | refine token_v (i := i) hm hi hs)) ?_ | (refine Fk.by_ ?_ ?_ <;> intro hc <;> try simp only [hc]) | refine storeK_eq rfl ?_ | with_reducible refine And.intro ?_ ?_ | fail) <;> try simp only [ht, cells_tokV, h1, push_cast, reduceIte, Nat.reduceEqDiff, reduceCtorEq, Nat.reduceAdd, Nat.reduceLeDiff, Nat.reduceBEq]))
        refine finB (hwf) (by simp only [F60, scanV, push_cast, reduceIte, Nat.reduceEqDiff, reduceCtorEq, Nat.reduceAdd, Nat.reduceLeDiff, Nat.reduceBEq]; exact rfl) (by first | exact .inl rfl | (right; simp only [F60, scanV, push_cast, reduceIte, Nat.reduceEqDiff, reduceCtorEq, Nat.reduceAdd, Nat.reduceLeDiff, Nat.reduceBEq]; try rfl)) (by first | rfl | assumption) (by simp) (by simp) (by (repeat first | exact (hwf).subm | exact (hwf).suba | refine Sub.drop (by simp) ?_)) (by (repeat first | exact (hwf).subm | exact (hwf).suba | refine Sub.drop (by simp) ?_)) (by (repeat first | exact (hwf).subx | refine ExSub.dropt (by simp) ?_ | refine ExSub.drop (by simp) ?_))
      · rw [if_neg hn] at hR
        have h1 : ((acc.length : Int) == 256) = false := by simp; omega
        by_cases hk : k = 3
        · rw [if_pos hk] at hR
          subst hR
          have h2 : (k == 3) = true := by simp [hk]
          have hrm : roomV (acc.length + 1) 32 = true := by simp [roomV, maxLen]; omega
          have hbr : V.bd st.nx (scanV (acc ++ [⟨k, t, (a : Int)⟩], 0, 0)) = true := by
            simp only [scanV, V.bd, V.bdL, bdL_tk]; rfl
          (repeat' first | ((first | refine go rfl rfl ?_ | refine Cl.by_ (by (first | refine token_v (i := i) hm hi hs)) ?_ | (refine Fk.by_ ?_ ?_ <;> intro hc <;> try simp only [hc]) | refine storeK_eq rfl ?_ | with_reducible refine And.intro ?_ ?_ | fail) <;> try simp only [ht, cells_tokV, app_tk, h1, h2, hrm, push_cast, reduceIte, Nat.reduceEqDiff, reduceCtorEq, Nat.reduceAdd, Nat.reduceLeDiff, Nat.reduceBEq]))
          refine finB (hwf) (by simp only [F60, scanV, push_cast, reduceIte, Nat.reduceEqDiff, reduceCtorEq, Nat.reduceAdd, Nat.reduceLeDiff, Nat.reduceBEq]; exact rfl) (by first | exact .inl rfl | (right; simp only [F60, scanV, push_cast, reduceIte, Nat.reduceEqDiff, reduceCtorEq, Nat.reduceAdd, Nat.reduceLeDiff, Nat.reduceBEq]; try rfl)) (by first | rfl | assumption) (by simp) (by simp) (by (repeat first | exact (hwf).subm | exact (hwf).suba | refine Sub.drop (by simp) ?_)) (by (repeat first | exact (hwf).subm | exact (hwf).suba | refine Sub.drop (by simp) ?_)) (by (repeat first | exact (hwf).subx | refine ExSub.dropt (by simp) ?_ | refine ExSub.drop (by simp) ?_))
        · rw [if_neg hk] at hR
          have h2 : (k == 3) = false := by simp [hk]
          have hrm : roomV (acc.length + 1) 32 = true := by simp [roomV, maxLen]; omega
          (repeat' first | ((first | refine go rfl rfl ?_ | refine Cl.by_ (by (first | refine token_v (i := i) hm hi hs)) ?_ | (refine Fk.by_ ?_ ?_ <;> intro hc <;> try simp only [hc]) | refine storeK_eq rfl ?_ | with_reducible refine And.intro ?_ ?_ | fail) <;> try simp only [ht, cells_tokV, app_tk, h1, h2, hrm, push_cast, reduceIte, Nat.reduceEqDiff, reduceCtorEq, Nat.reduceAdd, Nat.reduceLeDiff, Nat.reduceBEq]))
          obtain ⟨g1, g2, g3⟩ := lexAt_bd hal h
          have := g3 hk
          have := le_runTo (ok := isB 32) (s := s) (i := i)
          refine ⟨_, _, _, by omega, ⟨f, e, acc ++ [⟨k, t, (a : Int)⟩], rfl, by omega, by omega, by simp; omega, hR, rfl, rfl⟩, (by repeat first | exact .nil | refine .cons (by first | rfl | (simp [V.bd, V.bdL]; try first | omega | assumption)) (by first | rfl | simp only [push_cast, reduceIte, Nat.reduceEqDiff, reduceCtorEq, Nat.reduceAdd, Nat.reduceLeDiff, Nat.reduceBEq]) ?_), Weak.wf rfl (by simp) (by (repeat first | exact ((hwf.new rfl).newA (bdL_tk)).subm | exact ((hwf.new rfl).newA (bdL_tk)).suba | refine Sub.drop (by simp) ?_)) (by (repeat first | exact ((hwf.new rfl).newA (bdL_tk)).subm | exact ((hwf.new rfl).newA (bdL_tk)).suba | refine Sub.drop (by simp) ?_)) (by (repeat first | exact ((hwf.new rfl).newA (bdL_tk)).subx | refine ExSub.dropt (by simp) ?_ | refine ExSub.drop (by simp) ?_)) ((hwf.new rfl).newA (bdL_tk))⟩
end Go.Proofs.YtnondemehfkalaaGreatDoor

set_option maxRecDepth 10000
namespace Go.Proofs.YtnondemehfkalaaGreatDoor
open Go.Sha

theorem atIs_some {ok : UInt8 → Bool} {s : List UInt8} {i : Nat} {b : UInt8} (h : s[i]? = some b) : atIs ok s i = ok b := by simp [atIs, h]
theorem atIs_none {ok : UInt8 → Bool} {s : List UInt8} {i : Nat} (h : s.length ≤ i) : atIs ok s i = false := by simp [atIs, List.getElem?_eq_none h]

theorem word_v {s : List UInt8} {i : Nat} (st : St) (hi : i ≤ s.length) (hs : s.length < 140737488355328) : VRet Tryz.prog 177 [.str s, .int .i64 (i : Int)] st (.int .i64 (runTo wrdB s i : Nat)) st := by
  refine VCalls_of F177_ok mixed (Nat.le_of_ble_eq_true rfl) (fun hwf => ?_)
  (repeat' first | ((first | refine go rfl rfl ?_ | (refine Fk.by_ ?_ ?_ <;> intro hc <;> try simp only [hc]) | refine storeK_eq rfl ?_ | with_reducible refine And.intro ?_ ?_ | fail) <;> try simp only [push_cast, reduceIte, Nat.reduceEqDiff, reduceCtorEq, Nat.reduceAdd, Nat.reduceLeDiff, Nat.reduceBEq]))
  refine WT_loop rfl (fun n e z => ∃ j : Nat, n = s.length - j ∧ j ≤ s.length ∧ runTo wrdB s j = runTo wrdB s i ∧ e = [(1, .int .i64 (j : Int)), (0, .str s)] ∧ z = st) st.nx (Nat.le_refl _) (by rintro _ _ _ ⟨j, _, _, _, _, rfl⟩; rfl)
    ⟨_, _, _, ⟨i, rfl, hi, rfl, rfl, rfl⟩, (by repeat first | exact .nil | refine .cons (by first | rfl | (simp [V.bd, V.bdL]; try first | omega | assumption)) (by first | rfl | simp only [push_cast, reduceIte, Nat.reduceEqDiff, reduceCtorEq, Nat.reduceAdd, Nat.reduceLeDiff, Nat.reduceBEq]) ?_), .refl hwf⟩ ?_
  rintro n e z ⟨j, rfl, hj, hr, rfl, rfl⟩
  rcases Nat.lt_or_ge j s.length with hlt | hge
  · obtain ⟨b, hb⟩ : ∃ b, s[j]? = some b := ⟨_, List.getElem?_eq_getElem hlt⟩
    have h1 : decide ((j : Int) < (s.length : Int)) = true := by simp; omega
    have hw : IntKind.i64.wrap ((j : Int) + 1) = (j : Int) + 1 := wrap64 (by omega) (by omega)
    have h5 : ∀ x, isWrd b.toNat = x → atIs wrdB s j = x := fun x h => by rw [atIs_some hb]; exact h
    (repeat' first | ((first | refine go rfl rfl ?_ | refine Cl.by_ (by (first | refine letter_v _ _ | refine digit_v _ _)) ?_ | (refine Fk.by_ ?_ ?_ <;> intro hc <;> try simp only [hc]) | refine storeK_eq rfl ?_ | with_reducible refine And.intro ?_ ?_ | fail) <;> try simp only [h1, hb, hw, push_cast, reduceIte, Nat.reduceEqDiff, reduceCtorEq, Nat.reduceAdd, Nat.reduceLeDiff, Nat.reduceBEq]))
    all_goals first
      | exact ⟨_, _, _, by omega, ⟨j + 1, rfl, by omega, by rw [(runTo_go (h5 true (by simp [isWrd, *]))).1, hr], rfl, rfl⟩, (by repeat first | exact .nil | refine .cons (by first | rfl | (simp [V.bd, V.bdL]; try first | omega | assumption)) (by first | rfl | simp only [push_cast, reduceIte, Nat.reduceEqDiff, reduceCtorEq, Nat.reduceAdd, Nat.reduceLeDiff, Nat.reduceBEq]) ?_), .refl hwf⟩
      | (rw [← hr, runTo_stop (h5 false (by simp [isWrd, *]))]; refine finB (hwf) (by simp only [F177, push_cast, reduceIte, Nat.reduceEqDiff, reduceCtorEq, Nat.reduceAdd, Nat.reduceLeDiff, Nat.reduceBEq]; exact rfl) (by first | exact .inl rfl | (right; simp only [F177, push_cast, reduceIte, Nat.reduceEqDiff, reduceCtorEq, Nat.reduceAdd, Nat.reduceLeDiff, Nat.reduceBEq]; try rfl)) (by first | rfl | assumption) (by simp) (by simp) (by (repeat first | exact (hwf).subm | exact (hwf).suba | refine Sub.drop (by simp) ?_)) (by (repeat first | exact (hwf).subm | exact (hwf).suba | refine Sub.drop (by simp) ?_)) (by (repeat first | exact (hwf).subx | refine ExSub.dropt (by simp) ?_ | refine ExSub.drop (by simp) ?_)))
  · have h1 : decide ((j : Int) < (s.length : Int)) = false := by simp; omega
    (repeat' first | ((first | refine go rfl rfl ?_ | (refine Fk.by_ ?_ ?_ <;> intro hc <;> try simp only [hc]) | refine storeK_eq rfl ?_ | with_reducible refine And.intro ?_ ?_ | fail) <;> try simp only [h1, push_cast, reduceIte, Nat.reduceEqDiff, reduceCtorEq, Nat.reduceAdd, Nat.reduceLeDiff, Nat.reduceBEq]))
    rw [← hr, runTo_stop (atIs_none hge)]
    refine finB (hwf) (by simp only [F177, push_cast, reduceIte, Nat.reduceEqDiff, reduceCtorEq, Nat.reduceAdd, Nat.reduceLeDiff, Nat.reduceBEq]; exact rfl) (by first | exact .inl rfl | (right; simp only [F177, push_cast, reduceIte, Nat.reduceEqDiff, reduceCtorEq, Nat.reduceAdd, Nat.reduceLeDiff, Nat.reduceBEq]; try rfl)) (by first | rfl | assumption) (by simp) (by simp) (by (repeat first | exact (hwf).subm | exact (hwf).suba | refine Sub.drop (by simp) ?_)) (by (repeat first | exact (hwf).subm | exact (hwf).suba | refine Sub.drop (by simp) ?_)) (by (repeat first | exact (hwf).subx | refine ExSub.dropt (by simp) ?_ | refine ExSub.drop (by simp) ?_))

def numEnd (s : List UInt8) (i : Nat) : Nat := if atIs (isB 46) s (runTo digB s i) && atIs digB s (runTo digB s i + 1) then runTo digB s (runTo digB s i + 1) else runTo digB s i

theorem number_v {s : List UInt8} {i : Nat} (st : St) (hi : i ≤ s.length) (hs : s.length < 140737488355328) : VRet Tryz.prog 181 [.str s, .int .i64 (i : Int)] st (.int .i64 (numEnd s i : Nat)) st := by
  refine VCalls_of F181_ok mixed (Nat.le_of_ble_eq_true rfl) (fun hwf => ?_)
  unfold numEnd
  obtain ⟨d, hd⟩ : ∃ d, runTo digB s i = d := ⟨_, rfl⟩
  have hdl : d ≤ s.length := by rw [← hd]; exact runTo_le hi
  obtain ⟨c, hdc⟩ : ∃ c, runTo digB s (d + 1) = c := ⟨_, rfl⟩
  rw [hd, hdc]
  have key : ∀ j : Nat, j = d → WT Tryz.prog F181.N F181.T 14 [(1, .int .i64 (j : Int)), (0, .str s)] st (seqT Tryz.prog F181.N F181.T 30 (finQ F181.res st.nx fun x z => x = .ret (.int .i64 ((if (atIs (isB 46) s d && atIs digB s (d + 1)) = true then c else d : Nat) : Int)) ∧ z = st)) := by
    intro j ej
    rw [ej]
    clear ej
    have hw : IntKind.i64.wrap ((d : Int) + 1) = (d : Int) + 1 := wrap64 (by omega) (by omega)
    rcases Nat.lt_or_ge (d + 1) s.length with hlt | hge
    · obtain ⟨b, hb⟩ : ∃ b, s[d]? = some b := ⟨_, List.getElem?_eq_getElem (by omega)⟩
      obtain ⟨b2, hb2⟩ : ∃ b, s[d + 1]? = some b := ⟨_, List.getElem?_eq_getElem (by omega)⟩
      have h1 : decide ((d : Int) + 1 < (s.length : Int)) = true := by simp; omega
      rw [atIs_some hb, atIs_some hb2]
      (repeat' first | ((first | refine go rfl rfl ?_ | refine Cl.by_ (by (first | refine digit_v _ _)) ?_ | (refine Fk.by_ ?_ ?_ <;> intro hc <;> try simp only [hc]) | refine storeK_eq rfl ?_ | with_reducible refine And.intro ?_ ?_ | fail) <;> try simp only [h1, hb, hb2, hw, push_cast, reduceIte, Nat.reduceEqDiff, reduceCtorEq, Nat.reduceAdd, Nat.reduceLeDiff, Nat.reduceBEq]))
      · have hc2 : ((isB 46 b && digB b2) = true) = True := by simp [isB, digB, *]
        simp only [hc2, if_true]
        refine WT_loop rfl (fun n e z => ∃ j : Nat, n = s.length - j ∧ j ≤ s.length ∧ runTo digB s j = c ∧ e = [(1, .int .i64 (j : Int)), (0, .str s)] ∧ z = st) st.nx (Nat.le_refl _) (by rintro _ _ _ ⟨j, _, _, _, _, rfl⟩; rfl)
          ⟨_, _, _, ⟨d + 1, rfl, by omega, hdc, rfl, rfl⟩, (by repeat first | exact .nil | refine .cons (by first | rfl | (simp [V.bd, V.bdL]; try first | omega | assumption)) (by first | rfl | simp only [push_cast, reduceIte, Nat.reduceEqDiff, reduceCtorEq, Nat.reduceAdd, Nat.reduceLeDiff, Nat.reduceBEq]) ?_), .refl hwf⟩ ?_
        rintro n e z ⟨j, rfl, hj, hr, rfl, rfl⟩
        rcases Nat.lt_or_ge j s.length with hlt | hge
        · obtain ⟨b, hb⟩ : ∃ b, s[j]? = some b := ⟨_, List.getElem?_eq_getElem hlt⟩
          have h1 : decide ((j : Int) < (s.length : Int)) = true := by simp; omega
          have hw : IntKind.i64.wrap ((j : Int) + 1) = (j : Int) + 1 := wrap64 (by omega) (by omega)
          have h5 : ∀ x, isDig b.toNat = x → atIs digB s j = x := fun x h => by rw [atIs_some hb]; exact h
          (repeat' first | ((first | refine go rfl rfl ?_ | refine Cl.by_ (by (first | refine digit_v _ _)) ?_ | (refine Fk.by_ ?_ ?_ <;> intro hc <;> try simp only [hc]) | refine storeK_eq rfl ?_ | with_reducible refine And.intro ?_ ?_ | fail) <;> try simp only [h1, hb, hw, push_cast, reduceIte, Nat.reduceEqDiff, reduceCtorEq, Nat.reduceAdd, Nat.reduceLeDiff, Nat.reduceBEq]))
          · exact ⟨_, _, _, by omega, ⟨j + 1, rfl, by omega, by rw [(runTo_go (h5 true hc)).1, hr], rfl, rfl⟩, (by repeat first | exact .nil | refine .cons (by first | rfl | (simp [V.bd, V.bdL]; try first | omega | assumption)) (by first | rfl | simp only [push_cast, reduceIte, Nat.reduceEqDiff, reduceCtorEq, Nat.reduceAdd, Nat.reduceLeDiff, Nat.reduceBEq]) ?_), .refl hwf⟩
          · rw [← hr, runTo_stop (h5 false hc)]
            refine finB (hwf) (by simp only [F181, push_cast, reduceIte, Nat.reduceEqDiff, reduceCtorEq, Nat.reduceAdd, Nat.reduceLeDiff, Nat.reduceBEq]; exact rfl) (by first | exact .inl rfl | (right; simp only [F181, push_cast, reduceIte, Nat.reduceEqDiff, reduceCtorEq, Nat.reduceAdd, Nat.reduceLeDiff, Nat.reduceBEq]; try rfl)) (by first | rfl | assumption) (by simp) (by simp) (by (repeat first | exact (hwf).subm | exact (hwf).suba | refine Sub.drop (by simp) ?_)) (by (repeat first | exact (hwf).subm | exact (hwf).suba | refine Sub.drop (by simp) ?_)) (by (repeat first | exact (hwf).subx | refine ExSub.dropt (by simp) ?_ | refine ExSub.drop (by simp) ?_))
        · have h1 : decide ((j : Int) < (s.length : Int)) = false := by simp; omega
          (repeat' first | ((first | refine go rfl rfl ?_ | (refine Fk.by_ ?_ ?_ <;> intro hc <;> try simp only [hc]) | refine storeK_eq rfl ?_ | with_reducible refine And.intro ?_ ?_ | fail) <;> try simp only [h1, push_cast, reduceIte, Nat.reduceEqDiff, reduceCtorEq, Nat.reduceAdd, Nat.reduceLeDiff, Nat.reduceBEq]))
          rw [← hr, runTo_stop (atIs_none hge)]
          refine finB (hwf) (by simp only [F181, push_cast, reduceIte, Nat.reduceEqDiff, reduceCtorEq, Nat.reduceAdd, Nat.reduceLeDiff, Nat.reduceBEq]; exact rfl) (by first | exact .inl rfl | (right; simp only [F181, push_cast, reduceIte, Nat.reduceEqDiff, reduceCtorEq, Nat.reduceAdd, Nat.reduceLeDiff, Nat.reduceBEq]; try rfl)) (by first | rfl | assumption) (by simp) (by simp) (by (repeat first | exact (hwf).subm | exact (hwf).suba | refine Sub.drop (by simp) ?_)) (by (repeat first | exact (hwf).subm | exact (hwf).suba | refine Sub.drop (by simp) ?_)) (by (repeat first | exact (hwf).subx | refine ExSub.dropt (by simp) ?_ | refine ExSub.drop (by simp) ?_))
      all_goals
        have hc2 : ((isB 46 b && digB b2) = true) = False := by simp [isB, digB, *]
        simp only [hc2, if_false]
        refine finB (hwf) (by simp only [F181, push_cast, reduceIte, Nat.reduceEqDiff, reduceCtorEq, Nat.reduceAdd, Nat.reduceLeDiff, Nat.reduceBEq]; exact rfl) (by first | exact .inl rfl | (right; simp only [F181, push_cast, reduceIte, Nat.reduceEqDiff, reduceCtorEq, Nat.reduceAdd, Nat.reduceLeDiff, Nat.reduceBEq]; try rfl)) (by first | rfl | assumption) (by simp) (by simp) (by (repeat first | exact (hwf).subm | exact (hwf).suba | refine Sub.drop (by simp) ?_)) (by (repeat first | exact (hwf).subm | exact (hwf).suba | refine Sub.drop (by simp) ?_)) (by (repeat first | exact (hwf).subx | refine ExSub.dropt (by simp) ?_ | refine ExSub.drop (by simp) ?_))
    · have h1 : decide ((d : Int) + 1 < (s.length : Int)) = false := by simp; omega
      rw [atIs_none (i := d + 1) (by omega)]
      simp only [Bool.and_false, Bool.false_eq_true, if_false]
      (repeat' first | ((first | refine go rfl rfl ?_ | (refine Fk.by_ ?_ ?_ <;> intro hc <;> try simp only [hc]) | refine storeK_eq rfl ?_ | with_reducible refine And.intro ?_ ?_ | fail) <;> try simp only [h1, hw, push_cast, reduceIte, Nat.reduceEqDiff, reduceCtorEq, Nat.reduceAdd, Nat.reduceLeDiff, Nat.reduceBEq]))
      refine finB (hwf) (by simp only [F181, push_cast, reduceIte, Nat.reduceEqDiff, reduceCtorEq, Nat.reduceAdd, Nat.reduceLeDiff, Nat.reduceBEq]; exact rfl) (by first | exact .inl rfl | (right; simp only [F181, push_cast, reduceIte, Nat.reduceEqDiff, reduceCtorEq, Nat.reduceAdd, Nat.reduceLeDiff, Nat.reduceBEq]; try rfl)) (by first | rfl | assumption) (by simp) (by simp) (by (repeat first | exact (hwf).subm | exact (hwf).suba | refine Sub.drop (by simp) ?_)) (by (repeat first | exact (hwf).subm | exact (hwf).suba | refine Sub.drop (by simp) ?_)) (by (repeat first | exact (hwf).subx | refine ExSub.dropt (by simp) ?_ | refine ExSub.drop (by simp) ?_))
  (repeat' first | ((first | refine go rfl rfl ?_ | (refine Fk.by_ ?_ ?_ <;> intro hc <;> try simp only [hc]) | refine storeK_eq rfl ?_ | with_reducible refine And.intro ?_ ?_ | fail) <;> try simp only [push_cast, reduceIte, Nat.reduceEqDiff, reduceCtorEq, Nat.reduceAdd, Nat.reduceLeDiff, Nat.reduceBEq]))
  refine WT_loop rfl (fun n e z => ∃ j : Nat, n = s.length - j ∧ j ≤ s.length ∧ runTo digB s j = d ∧ e = [(1, .int .i64 (j : Int)), (0, .str s)] ∧ z = st) st.nx (Nat.le_refl _) (by rintro _ _ _ ⟨j, _, _, _, _, rfl⟩; rfl)
    ⟨_, _, _, ⟨i, rfl, hi, hd, rfl, rfl⟩, (by repeat first | exact .nil | refine .cons (by first | rfl | (simp [V.bd, V.bdL]; try first | omega | assumption)) (by first | rfl | simp only [push_cast, reduceIte, Nat.reduceEqDiff, reduceCtorEq, Nat.reduceAdd, Nat.reduceLeDiff, Nat.reduceBEq]) ?_), .refl hwf⟩ ?_
  rintro n e z ⟨j, rfl, hj, hr, rfl, rfl⟩
  rcases Nat.lt_or_ge j s.length with hlt | hge
  · obtain ⟨b, hb⟩ : ∃ b, s[j]? = some b := ⟨_, List.getElem?_eq_getElem hlt⟩
    have h1 : decide ((j : Int) < (s.length : Int)) = true := by simp; omega
    have hw : IntKind.i64.wrap ((j : Int) + 1) = (j : Int) + 1 := wrap64 (by omega) (by omega)
    have h5 : ∀ x, isDig b.toNat = x → atIs digB s j = x := fun x h => by rw [atIs_some hb]; exact h
    (repeat' first | exact WT_env (by repeat first | exact .nil | refine .cons (by first | rfl | simp only [push_cast, reduceIte, Nat.reduceEqDiff, reduceCtorEq, Nat.reduceAdd, Nat.reduceLeDiff, Nat.reduceBEq]) ?_) (key j (by rw [← hr, runTo_stop (h5 false hc)])) | ((first | refine go rfl rfl ?_ | refine Cl.by_ (by (first | refine digit_v _ _)) ?_ | (refine Fk.by_ ?_ ?_ <;> intro hc <;> try simp only [hc]) | refine storeK_eq rfl ?_ | with_reducible refine And.intro ?_ ?_ | fail) <;> try simp only [h1, hb, hw, push_cast, reduceIte, Nat.reduceEqDiff, reduceCtorEq, Nat.reduceAdd, Nat.reduceLeDiff, Nat.reduceBEq]))
    exact ⟨_, _, _, by omega, ⟨j + 1, rfl, by omega, by rw [(runTo_go (h5 true hc)).1, hr], rfl, rfl⟩, (by repeat first | exact .nil | refine .cons (by first | rfl | (simp [V.bd, V.bdL]; try first | omega | assumption)) (by first | rfl | simp only [push_cast, reduceIte, Nat.reduceEqDiff, reduceCtorEq, Nat.reduceAdd, Nat.reduceLeDiff, Nat.reduceBEq]) ?_), .refl hwf⟩
  · have h1 : decide ((j : Int) < (s.length : Int)) = false := by simp; omega
    (repeat' first | exact WT_env (by repeat first | exact .nil | refine .cons (by first | rfl | simp only [push_cast, reduceIte, Nat.reduceEqDiff, reduceCtorEq, Nat.reduceAdd, Nat.reduceLeDiff, Nat.reduceBEq]) ?_) (key j (by rw [← hr, runTo_stop (atIs_none hge)])) | ((first | refine go rfl rfl ?_ | (refine Fk.by_ ?_ ?_ <;> intro hc <;> try simp only [hc]) | refine storeK_eq rfl ?_ | with_reducible refine And.intro ?_ ?_ | fail) <;> try simp only [h1, push_cast, reduceIte, Nat.reduceEqDiff, reduceCtorEq, Nat.reduceAdd, Nat.reduceLeDiff, Nat.reduceBEq]))
end Go.Proofs.YtnondemehfkalaaGreatDoor

set_option maxRecDepth 10000
namespace Go.Proofs.YtnondemehfkalaaGreatDoor
open Go.Sha

def quoEnd (s : List UInt8) (i : Nat) : Int := if atIs (isB 34) s (runTo plnB s (i + 1)) then (runTo plnB s (i + 1) : Nat) + 1 else -1

theorem quoted_v {s : List UInt8} {i : Nat} (st : St) (hi : i < s.length) (hs : s.length < 140737488355328) : VRet Tryz.prog 179 [.str s, .int .i64 (i : Int)] st (.int .i64 (quoEnd s i)) st := by
  refine VCalls_of F179_ok mixed (Nat.le_of_ble_eq_true rfl) (fun hwf => ?_)
  unfold quoEnd
  have hw0 : IntKind.i64.wrap ((i : Int) + 1) = (i : Int) + 1 := wrap64 (by omega) (by omega)
  obtain ⟨d, hd⟩ : ∃ d, runTo plnB s (i + 1) = d := ⟨_, rfl⟩
  have hdl : d ≤ s.length := by rw [← hd]; exact runTo_le hi
  rw [hd]
  have key : ∀ j : Nat, j = d → WT Tryz.prog F179.N F179.T 15 [(5, .int .i64 (j : Int)), (0, .str s)] st (finQ F179.res st.nx fun x z => x = .ret (.int .i64 (if atIs (isB 34) s d = true then (d : Int) + 1 else -1)) ∧ z = st) := by
    intro j ej
    rw [ej]
    clear ej
    have hw : IntKind.i64.wrap ((d : Int) + 1) = (d : Int) + 1 := wrap64 (by omega) (by omega)
    rcases Nat.lt_or_ge d s.length with hlt | hge
    · obtain ⟨b, hb⟩ : ∃ b, s[d]? = some b := ⟨_, List.getElem?_eq_getElem (by omega)⟩
      have h1 : ((d : Int) == (s.length : Int)) = false := by simp; omega
      rw [atIs_some hb]
      have h2 : ((b.toNat : Int) != 34) = !(isB 34 b) := by simp [isB, bne]
      (repeat' first | ((first | refine go rfl rfl ?_ | (refine Fk.by_ ?_ ?_ <;> intro hc <;> try simp only [hc]) | refine storeK_eq rfl ?_ | with_reducible refine And.intro ?_ ?_ | fail) <;> try simp only [h1, hb, hw, h2, push_cast, reduceIte, Nat.reduceEqDiff, reduceCtorEq, Nat.reduceAdd, Nat.reduceLeDiff, Nat.reduceBEq]))
      all_goals refine finB (hwf) (by simp only [F179, push_cast, reduceIte, Nat.reduceEqDiff, reduceCtorEq, Nat.reduceAdd, Nat.reduceLeDiff, Nat.reduceBEq]; exact rfl) (by first | exact .inl rfl | (right; simp only [F179, push_cast, reduceIte, Nat.reduceEqDiff, reduceCtorEq, Nat.reduceAdd, Nat.reduceLeDiff, Nat.reduceBEq]; try rfl)) (by first | rfl | assumption) (by simp) (by simp) (by (repeat first | exact (hwf).subm | exact (hwf).suba | refine Sub.drop (by simp) ?_)) (by (repeat first | exact (hwf).subm | exact (hwf).suba | refine Sub.drop (by simp) ?_)) (by (repeat first | exact (hwf).subx | refine ExSub.dropt (by simp) ?_ | refine ExSub.drop (by simp) ?_))
    · have h1 : ((d : Int) == (s.length : Int)) = true := by simp; omega
      rw [atIs_none hge, if_neg Bool.false_ne_true]
      (repeat' first | ((first | refine go rfl rfl ?_ | (refine Fk.by_ ?_ ?_ <;> intro hc <;> try simp only [hc]) | refine storeK_eq rfl ?_ | with_reducible refine And.intro ?_ ?_ | fail) <;> try simp only [h1, push_cast, reduceIte, Nat.reduceEqDiff, reduceCtorEq, Nat.reduceAdd, Nat.reduceLeDiff, Nat.reduceBEq]))
      refine finB (hwf) (by simp only [F179, push_cast, reduceIte, Nat.reduceEqDiff, reduceCtorEq, Nat.reduceAdd, Nat.reduceLeDiff, Nat.reduceBEq]; exact rfl) (by first | exact .inl rfl | (right; simp only [F179, push_cast, reduceIte, Nat.reduceEqDiff, reduceCtorEq, Nat.reduceAdd, Nat.reduceLeDiff, Nat.reduceBEq]; try rfl)) (by first | rfl | assumption) (by simp) (by simp) (by (repeat first | exact (hwf).subm | exact (hwf).suba | refine Sub.drop (by simp) ?_)) (by (repeat first | exact (hwf).subm | exact (hwf).suba | refine Sub.drop (by simp) ?_)) (by (repeat first | exact (hwf).subx | refine ExSub.dropt (by simp) ?_ | refine ExSub.drop (by simp) ?_))
  (repeat' first | ((first | refine go rfl rfl ?_ | (refine Fk.by_ ?_ ?_ <;> intro hc <;> try simp only [hc]) | refine storeK_eq rfl ?_ | with_reducible refine And.intro ?_ ?_ | fail) <;> try simp only [hw0, push_cast, reduceIte, Nat.reduceEqDiff, reduceCtorEq, Nat.reduceAdd, Nat.reduceLeDiff, Nat.reduceBEq]))
  refine WT_loop rfl (fun n e z => ∃ j : Nat, n = s.length - j ∧ j ≤ s.length ∧ runTo plnB s j = d ∧ e = [(5, .int .i64 (j : Int)), (0, .str s)] ∧ z = st) st.nx (Nat.le_refl _) (by rintro _ _ _ ⟨j, _, _, _, _, rfl⟩; rfl)
    ⟨_, _, _, ⟨i + 1, rfl, hi, hd, rfl, rfl⟩, (by repeat first | exact .nil | refine .cons (by first | rfl | (simp [V.bd, V.bdL]; try first | omega | assumption)) (by first | rfl | simp only [push_cast, reduceIte, Nat.reduceEqDiff, reduceCtorEq, Nat.reduceAdd, Nat.reduceLeDiff, Nat.reduceBEq]) ?_), .refl hwf⟩ ?_
  rintro n e z ⟨j, rfl, hj, hr, rfl, rfl⟩
  rcases Nat.lt_or_ge j s.length with hlt | hge
  · obtain ⟨b, hb⟩ : ∃ b, s[j]? = some b := ⟨_, List.getElem?_eq_getElem hlt⟩
    have h1 : decide ((j : Int) < (s.length : Int)) = true := by simp; omega
    have hw : IntKind.i64.wrap ((j : Int) + 1) = (j : Int) + 1 := wrap64 (by omega) (by omega)
    have h5 : ∀ x, isPln b.toNat = x → atIs plnB s j = x := fun x h => by rw [atIs_some hb]; exact h
    (repeat' first | exact WT_env (by repeat first | exact .nil | refine .cons (by first | rfl | simp only [push_cast, reduceIte, Nat.reduceEqDiff, reduceCtorEq, Nat.reduceAdd, Nat.reduceLeDiff, Nat.reduceBEq]) ?_) (key j (by rw [← hr, runTo_stop (h5 false hc)])) | ((first | refine go rfl rfl ?_ | refine Cl.by_ (by (first | refine plain_v _ _)) ?_ | (refine Fk.by_ ?_ ?_ <;> intro hc <;> try simp only [hc]) | refine storeK_eq rfl ?_ | with_reducible refine And.intro ?_ ?_ | fail) <;> try simp only [h1, hb, hw, push_cast, reduceIte, Nat.reduceEqDiff, reduceCtorEq, Nat.reduceAdd, Nat.reduceLeDiff, Nat.reduceBEq]))
    exact ⟨_, _, _, by omega, ⟨j + 1, rfl, by omega, by rw [(runTo_go (h5 true hc)).1, hr], rfl, rfl⟩, (by repeat first | exact .nil | refine .cons (by first | rfl | (simp [V.bd, V.bdL]; try first | omega | assumption)) (by first | rfl | simp only [push_cast, reduceIte, Nat.reduceEqDiff, reduceCtorEq, Nat.reduceAdd, Nat.reduceLeDiff, Nat.reduceBEq]) ?_), .refl hwf⟩
  · have h1 : decide ((j : Int) < (s.length : Int)) = false := by simp; omega
    (repeat' first | exact WT_env (by repeat first | exact .nil | refine .cons (by first | rfl | simp only [push_cast, reduceIte, Nat.reduceEqDiff, reduceCtorEq, Nat.reduceAdd, Nat.reduceLeDiff, Nat.reduceBEq]) ?_) (key j (by rw [← hr, runTo_stop (atIs_none hge)])) | ((first | refine go rfl rfl ?_ | (refine Fk.by_ ?_ ?_ <;> intro hc <;> try simp only [hc]) | refine storeK_eq rfl ?_ | with_reducible refine And.intro ?_ ?_ | fail) <;> try simp only [h1, push_cast, reduceIte, Nat.reduceEqDiff, reduceCtorEq, Nat.reduceAdd, Nat.reduceLeDiff, Nat.reduceBEq]))

theorem enc_ascii {b : UInt8} (h : b.toNat < 128) : (Utf8.encode (b.toNat : Int)).data.toList = [b] := by
  have hv : Utf8.valid (b.toNat : Int) = true := by simp [Utf8.valid]; omega
  have e : ((b.toNat : Int)).toNat = b.toNat := by simp
  simp only [Utf8.encode, hv, if_true, e, h]
  simp

theorem lowB_up2 {b : UInt8} (h1 : 65 ≤ b.toNat) (h2 : b.toNat ≤ 90) : IntKind.u8.wrap (IntKind.u8.wrap ((b.toNat : Int) - 65) + 97) = ((lowB b).toNat : Int) := by
  have e : lowB b = b + 32 := if_pos ⟨h1, h2⟩
  rw [e]
  simp only [IntKind.wrap, IntKind.bits, IntKind.signed, UInt8.toNat_add]
  simp
  omega
theorem lowB_lt {b : UInt8} (h : b.toNat < 128) : (lowB b).toNat < 128 := by
  unfold lowB
  split
  · rw [UInt8.toNat_add]; simp; omega
  · exact h
theorem wrap32_byte (b : UInt8) : IntKind.i32.wrap (b.toNat : Int) = (b.toNat : Int) := by
  have := b.toNat_lt
  simp only [IntKind.wrap, IntKind.bits, IntKind.signed]
  simp
  omega

theorem Lower_v {s : List UInt8} (st : St) (ha : ∀ b ∈ s, b.toNat < 128) (hs : s.length < 140737488355328) : VRet Tryz.prog 178 [.str s] st (.str (s.map lowB)) st := by
  refine VCalls_of F178_ok mixed (Nat.le_of_ble_eq_true rfl) (fun hwf => ?_)
  (repeat' first | ((first | refine go rfl rfl ?_ | (refine Fk.by_ ?_ ?_ <;> intro hc <;> try simp only [hc]) | refine storeK_eq rfl ?_ | with_reducible refine And.intro ?_ ?_ | fail) <;> try simp only [push_cast, reduceIte, Nat.reduceEqDiff, reduceCtorEq, Nat.reduceAdd, Nat.reduceLeDiff, Nat.reduceBEq]))
  refine WT_loop rfl (fun n e z => ∃ j : Nat, n = s.length - j ∧ j ≤ s.length ∧ e = [(4, .int .i64 (j : Int)), (3, .str ((s.take j).map lowB)), (0, .str s)] ∧ z = st) st.nx (Nat.le_refl _) (by rintro _ _ _ ⟨j, _, _, _, rfl⟩; rfl)
    ⟨_, _, _, ⟨0, rfl, Nat.zero_le _, rfl, rfl⟩, (by repeat first | exact .nil | refine .cons (by first | rfl | (simp [V.bd, V.bdL]; try first | omega | assumption)) (by first | rfl | simp only [push_cast, reduceIte, Nat.reduceEqDiff, reduceCtorEq, Nat.reduceAdd, Nat.reduceLeDiff, Nat.reduceBEq]) ?_), .refl hwf⟩ ?_
  rintro n e z ⟨j, rfl, hj, rfl, rfl⟩
  rcases Nat.lt_or_ge j s.length with hlt | hge
  · obtain ⟨b, hb⟩ : ∃ b, s[j]? = some b := ⟨_, List.getElem?_eq_getElem hlt⟩
    have hb8 := ha b (List.mem_of_getElem? hb)
    have h1 : decide ((j : Int) < (s.length : Int)) = true := by simp; omega
    have hw : IntKind.i64.wrap ((j : Int) + 1) = (j : Int) + 1 := wrap64 (by omega) (by omega)
    have hcat : (s.take j).length ≤ 9223372036854775806 := by simp; omega
    have hnext : (s.take j).map lowB ++ [lowB b] = (s.take (j + 1)).map lowB := by rw [List.take_add_one, hb]; simp
    by_cases hup : 65 ≤ b.toNat ∧ b.toNat ≤ 90
    · have h3 : decide ((65 : Int) ≤ (b.toNat : Int)) = true := by simp; omega
      have h4 : decide ((b.toNat : Int) ≤ 90) = true := by simp; omega
      (repeat' first | ((first | refine go rfl rfl ?_ | (refine Fk.by_ ?_ ?_ <;> intro hc <;> try simp only [hc]) | refine storeK_eq rfl ?_ | with_reducible refine And.intro ?_ ?_ | fail) <;> try simp only [h1, hb, hw, h3, h4, lowB_up2 hup.1 hup.2, wrap32_byte, enc_ascii (lowB_lt hb8), hcat, hnext, push_cast, reduceIte, Nat.reduceEqDiff, reduceCtorEq, Nat.reduceAdd, Nat.reduceLeDiff, Nat.reduceBEq]))
      exact ⟨_, _, _, by omega, ⟨j + 1, rfl, by omega, rfl, rfl⟩, (by repeat first | exact .nil | refine .cons (by first | rfl | (simp [V.bd, V.bdL]; try first | omega | assumption)) (by first | rfl | simp only [push_cast, reduceIte, Nat.reduceEqDiff, reduceCtorEq, Nat.reduceAdd, Nat.reduceLeDiff, Nat.reduceBEq]) ?_), .refl hwf⟩
    · have hlow := lowB_no hup
      rw [hlow] at hnext
      (repeat' first | ((first | refine go rfl rfl ?_ | (refine Fk.by_ ?_ ?_ <;> intro hc <;> try simp only [hc]) | refine storeK_eq rfl ?_ | with_reducible refine And.intro ?_ ?_ | fail) <;> try simp only [h1, hb, hw, wrap32_byte, enc_ascii hb8, hcat, hnext, push_cast, reduceIte, Nat.reduceEqDiff, reduceCtorEq, Nat.reduceAdd, Nat.reduceLeDiff, Nat.reduceBEq]))
      all_goals first
        | exact absurd ⟨by have := of_decide_eq_true ‹decide ((65 : Int) ≤ _) = true›; omega, by have := of_decide_eq_true hc; omega⟩ hup
        | exact ⟨_, _, _, by omega, ⟨j + 1, rfl, by omega, rfl, rfl⟩, (by repeat first | exact .nil | refine .cons (by first | rfl | (simp [V.bd, V.bdL]; try first | omega | assumption)) (by first | rfl | simp only [push_cast, reduceIte, Nat.reduceEqDiff, reduceCtorEq, Nat.reduceAdd, Nat.reduceLeDiff, Nat.reduceBEq]) ?_), .refl hwf⟩
  · have h1 : decide ((j : Int) < (s.length : Int)) = false := by simp; omega
    have ej : j = s.length := by omega
    subst ej
    rw [List.take_length]
    (repeat' first | ((first | refine go rfl rfl ?_ | (refine Fk.by_ ?_ ?_ <;> intro hc <;> try simp only [hc]) | refine storeK_eq rfl ?_ | with_reducible refine And.intro ?_ ?_ | fail) <;> try simp only [h1, push_cast, reduceIte, Nat.reduceEqDiff, reduceCtorEq, Nat.reduceAdd, Nat.reduceLeDiff, Nat.reduceBEq]))
    refine finB (hwf) (by simp only [F178, push_cast, reduceIte, Nat.reduceEqDiff, reduceCtorEq, Nat.reduceAdd, Nat.reduceLeDiff, Nat.reduceBEq]; exact rfl) (by first | exact .inl rfl | (right; simp only [F178, push_cast, reduceIte, Nat.reduceEqDiff, reduceCtorEq, Nat.reduceAdd, Nat.reduceLeDiff, Nat.reduceBEq]; try rfl)) (by first | rfl | assumption) (by simp) (by simp) (by (repeat first | exact (hwf).subm | exact (hwf).suba | refine Sub.drop (by simp) ?_)) (by (repeat first | exact (hwf).subm | exact (hwf).suba | refine Sub.drop (by simp) ?_)) (by (repeat first | exact (hwf).subx | refine ExSub.dropt (by simp) ?_ | refine ExSub.drop (by simp) ?_))
end Go.Proofs.YtnondemehfkalaaGreatDoor

set_option maxRecDepth 10000
namespace Go.Proofs.YtnondemehfkalaaGreatDoor
open Go.Sha

theorem run_ascii {s : List UInt8} {a e : Nat} (h : ∀ i, a ≤ i → i < e → atIs wrdB s i = true) : ∀ b ∈ (s.take e).drop a, b.toNat < 128 := by
  intro b hb
  obtain ⟨i, hi⟩ := List.mem_iff_getElem?.1 hb
  rw [List.getElem?_drop, List.getElem?_take] at hi
  split at hi
  · rename_i hlt
    have := h (a + i) (by omega) hlt
    rw [atIs_some hi] at this
    have hl := b.toNat_lt
    simp only [wrdB, isWrd, isLet, isDig, Bool.or_eq_true, Bool.and_eq_true, decide_eq_true_eq, beq_iff_eq] at this
    omega
  · cases hi

theorem runTo_all {ok : UInt8 → Bool} {s : List UInt8} : ∀ (n i : Nat), s.length - i = n → ∀ k, i ≤ k → k < runTo ok s i → atIs ok s k = true := by
  intro n
  induction n with
  | zero =>
    intro i hn k h1 h2
    rw [runTo_stop (atIs_none (by omega))] at h2; omega
  | succ n ih =>
    intro i hn k h1 h2
    cases h : atIs ok s i with
    | false => rw [runTo_stop h] at h2; omega
    | true =>
      rcases Nat.eq_or_lt_of_le h1 with e | e
      · subst e; exact h
      · obtain ⟨g1, g2⟩ := runTo_go h
        exact ih (i + 1) (by omega) k e (by rw [g1]; exact h2)

def refTok (s : List UInt8) (a : Nat) : V := match lexAt s a with
  | some (k, t, e) => .tup [tokV k t a, .int .i64 (e : Int)]
  | none => .tup [tokV 0 [] 0, .int .i64 (-1)]

theorem Token_v {s : List UInt8} {a : Nat} (st : St) (ha : a ≤ s.length) (hs : s.length < 140737488355328) : VRet Tryz.prog 125 [.str s, .int .i64 (a : Int)] st (refTok s a) st := by
  refine VCalls_of F125_ok mixed (Nat.le_of_ble_eq_true rfl) (fun hwf => ?_)
  have hN : lexAt s a = none → refTok s a = .tup [tokV 0 [] 0, .int .i64 (-1)] := fun h => by rw [refTok, h]
  have hS : ∀ k t e, lexAt s a = some (k, t, e) → refTok s a = .tup [tokV k t a, .int .i64 (e : Int)] := fun k t e h => by rw [refTok, h]
  generalize refTok s a = R at hN hS
  unfold lexAt at hN hS
  rcases Nat.lt_or_ge a s.length with hlt | hge
  · rw [if_neg (by omega)] at hN hS
    obtain ⟨x, hx⟩ : ∃ x, s[a]? = some x := ⟨_, List.getElem?_eq_getElem hlt⟩
    have h0 : ((a : Int) == (s.length : Int)) = false := by simp; omega
    have hw1 : IntKind.i64.wrap ((a : Int) + 1) = (a : Int) + 1 := wrap64 (by omega) (by omega)
    have e1 : atIs letB s a = isLet x.toNat := atIs_some hx
    have e2 : atIs (isB 34) s a = ((x.toNat : Int) == 34) := atIs_some hx
    have e3 : atIs digB s a = isDig x.toNat := atIs_some hx
    have e4 : atIs sgnB s a = isSgn x.toNat := atIs_some hx
    rw [e1, e2, e3, e4] at hN hS
    cases hl : isLet x.toNat with
    | true =>
      have hR := hS _ _ _ (by rw [hl, if_pos rfl])
      have hbb := runTo_bd (ok := wrdB) ha
      have hasc := run_ascii (runTo_all _ _ rfl : ∀ k, a ≤ k → k < runTo wrdB s a → _)
      obtain ⟨b, hb⟩ : ∃ b, runTo wrdB s a = b := ⟨_, rfl⟩
      rw [hb] at hbb hasc hR
      have hlen : ((s.take b).drop a).length < 140737488355328 := by simp only [List.length_drop, List.length_take]; omega
      rw [hR]
      (repeat' first | ((first | refine go rfl rfl ?_ | refine Cl.by_ (by (first | refine letter_v _ _ | refine digit_v _ _ | refine sign_v _ _ | refine word_v _ ha hs | refine Lower_v _ hasc hlen)) ?_ | (refine Fk.by_ ?_ ?_ <;> intro hc <;> try simp only [hc]) | refine storeK_eq rfl ?_ | with_reducible refine And.intro ?_ ?_ | fail) <;> try simp only [cells_tokV, h0, hx, hl, hb, hbb.1, hbb.2, push_cast, reduceIte, Nat.reduceEqDiff, reduceCtorEq, Nat.reduceAdd, Nat.reduceLeDiff, Nat.reduceBEq]))
      refine finB (hwf) (by simp only [F125, cells_tokV, push_cast, reduceIte, Nat.reduceEqDiff, reduceCtorEq, Nat.reduceAdd, Nat.reduceLeDiff, Nat.reduceBEq]; exact rfl) (by first | exact .inl rfl | (right; simp only [F125, cells_tokV, push_cast, reduceIte, Nat.reduceEqDiff, reduceCtorEq, Nat.reduceAdd, Nat.reduceLeDiff, Nat.reduceBEq]; try rfl)) (by first | rfl | assumption) (by simp) (by simp) (by (repeat first | exact (hwf).subm | exact (hwf).suba | refine Sub.drop (by simp) ?_)) (by (repeat first | exact (hwf).subm | exact (hwf).suba | refine Sub.drop (by simp) ?_)) (by (repeat first | exact (hwf).subx | refine ExSub.dropt (by simp) ?_ | refine ExSub.drop (by simp) ?_))
    | false =>
      rw [hl, if_neg Bool.false_ne_true] at hN hS
      cases hq : ((x.toNat : Int) == 34) with
      | true =>
        rw [hq, if_pos rfl] at hN hS
        have hqe : quoEnd s a = if atIs (isB 34) s (runTo plnB s (a + 1)) then ((runTo plnB s (a + 1) : Nat) : Int) + 1 else -1 := rfl
        cases hqq : atIs (isB 34) s (runTo plnB s (a + 1)) with
        | true =>
          have hql := atIs_lt hqq
          have := le_runTo (ok := plnB) (s := s) (i := a + 1)
          have hR := hS _ _ _ (by rw [hqq, if_pos rfl])
          rw [hqq, if_pos rfl] at hqe
          have hqe2 : quoEnd s a = ((runTo plnB s (a + 1) + 1 : Nat) : Int) := hqe
          obtain ⟨q, hq1⟩ : ∃ q, runTo plnB s (a + 1) + 1 = q := ⟨_, rfl⟩
          rw [hq1] at hqe2 hR
          have h5 : decide ((q : Int) < 0) = false := decide_eq_false (by omega)
          have h6 : a ≤ q := by omega
          have h7 : q ≤ s.length := by omega
          rw [hR]
          (repeat' first | ((first | refine go rfl rfl ?_ | refine Cl.by_ (by (first | refine letter_v _ _ | refine digit_v _ _ | refine sign_v _ _ | refine quoted_v _ hlt hs)) ?_ | (refine Fk.by_ ?_ ?_ <;> intro hc <;> try simp only [hc]) | refine storeK_eq rfl ?_ | with_reducible refine And.intro ?_ ?_ | fail) <;> try simp only [cells_tokV, h0, hx, hl, hq, hqe2, h5, h6, h7, push_cast, reduceIte, Nat.reduceEqDiff, reduceCtorEq, Nat.reduceAdd, Nat.reduceLeDiff, Nat.reduceBEq]))
          refine finB (hwf) (by simp only [F125, cells_tokV, push_cast, reduceIte, Nat.reduceEqDiff, reduceCtorEq, Nat.reduceAdd, Nat.reduceLeDiff, Nat.reduceBEq]; exact rfl) (by first | exact .inl rfl | (right; simp only [F125, cells_tokV, push_cast, reduceIte, Nat.reduceEqDiff, reduceCtorEq, Nat.reduceAdd, Nat.reduceLeDiff, Nat.reduceBEq]; try rfl)) (by first | rfl | assumption) (by simp) (by simp) (by (repeat first | exact (hwf).subm | exact (hwf).suba | refine Sub.drop (by simp) ?_)) (by (repeat first | exact (hwf).subm | exact (hwf).suba | refine Sub.drop (by simp) ?_)) (by (repeat first | exact (hwf).subx | refine ExSub.dropt (by simp) ?_ | refine ExSub.drop (by simp) ?_))
        | false =>
          have hR := hN (by rw [hqq, if_neg Bool.false_ne_true])
          rw [hqq, if_neg Bool.false_ne_true] at hqe
          rw [hR]
          have h5 : decide ((-1 : Int) < 0) = true := rfl
          (repeat' first | ((first | refine go rfl rfl ?_ | refine Cl.by_ (by (first | refine letter_v _ _ | refine digit_v _ _ | refine sign_v _ _ | refine quoted_v _ hlt hs)) ?_ | (refine Fk.by_ ?_ ?_ <;> intro hc <;> try simp only [hc]) | refine storeK_eq rfl ?_ | with_reducible refine And.intro ?_ ?_ | fail) <;> try simp only [cells_tokV, h0, hx, hl, hq, hqe, h5, push_cast, reduceIte, Nat.reduceEqDiff, reduceCtorEq, Nat.reduceAdd, Nat.reduceLeDiff, Nat.reduceBEq]))
          refine finB (hwf) (by simp only [F125, cells_tokV, push_cast, reduceIte, Nat.reduceEqDiff, reduceCtorEq, Nat.reduceAdd, Nat.reduceLeDiff, Nat.reduceBEq]; exact rfl) (by first | exact .inl rfl | (right; simp only [F125, cells_tokV, push_cast, reduceIte, Nat.reduceEqDiff, reduceCtorEq, Nat.reduceAdd, Nat.reduceLeDiff, Nat.reduceBEq]; try rfl)) (by first | rfl | assumption) (by simp) (by simp) (by (repeat first | exact (hwf).subm | exact (hwf).suba | refine Sub.drop (by simp) ?_)) (by (repeat first | exact (hwf).subm | exact (hwf).suba | refine Sub.drop (by simp) ?_)) (by (repeat first | exact (hwf).subx | refine ExSub.dropt (by simp) ?_ | refine ExSub.drop (by simp) ?_))
      | false =>
        rw [hq, if_neg Bool.false_ne_true] at hN hS
        cases hd : isDig x.toNat with
        | true =>
          have hne : lexAt s a = some (1, (s.take (numEnd s a)).drop a, numEnd s a) := by
            unfold lexAt numEnd
            rw [if_neg (by omega), e1, e2, e3, hl, hq, hd]
            simp only [Bool.false_eq_true, if_false, if_true]
            split <;> rfl
          obtain ⟨g1, g2, _⟩ := lexAt_bd ha hne
          have hR := hS _ _ _ (by
            have h := hne
            unfold lexAt at h
            rw [if_neg (by omega), e1, e2, e3, e4, hl, hq] at h
            simp only [Bool.false_eq_true, if_false] at h
            exact h)
          obtain ⟨d, hdd⟩ : ∃ d, numEnd s a = d := ⟨_, rfl⟩
          rw [hdd] at hR g1 g2
          have h5 : decide ((d : Int) < 0) = false := decide_eq_false (by omega)
          rw [hR]
          (repeat' first | ((first | refine go rfl rfl ?_ | refine Cl.by_ (by (first | refine letter_v _ _ | refine digit_v _ _ | refine sign_v _ _ | refine number_v _ ha hs)) ?_ | (refine Fk.by_ ?_ ?_ <;> intro hc <;> try simp only [hc]) | refine storeK_eq rfl ?_ | with_reducible refine And.intro ?_ ?_ | fail) <;> try simp only [cells_tokV, h0, hx, hl, hq, hd, hdd, h5, g1, g2, push_cast, reduceIte, Nat.reduceEqDiff, reduceCtorEq, Nat.reduceAdd, Nat.reduceLeDiff, Nat.reduceBEq]))
          refine finB (hwf) (by simp only [F125, cells_tokV, push_cast, reduceIte, Nat.reduceEqDiff, reduceCtorEq, Nat.reduceAdd, Nat.reduceLeDiff, Nat.reduceBEq]; exact rfl) (by first | exact .inl rfl | (right; simp only [F125, cells_tokV, push_cast, reduceIte, Nat.reduceEqDiff, reduceCtorEq, Nat.reduceAdd, Nat.reduceLeDiff, Nat.reduceBEq]; try rfl)) (by first | rfl | assumption) (by simp) (by simp) (by (repeat first | exact (hwf).subm | exact (hwf).suba | refine Sub.drop (by simp) ?_)) (by (repeat first | exact (hwf).subm | exact (hwf).suba | refine Sub.drop (by simp) ?_)) (by (repeat first | exact (hwf).subx | refine ExSub.dropt (by simp) ?_ | refine ExSub.drop (by simp) ?_))
        | false =>
          rw [hd, if_neg Bool.false_ne_true] at hN hS
          cases hg : isSgn x.toNat with
          | true =>
            have hR := hS _ _ _ (by rw [hg, if_pos rfl])
            obtain ⟨d, hdd⟩ : ∃ d, a + 1 = d := ⟨_, rfl⟩
            rw [hdd] at hR
            have hw2 : IntKind.i64.wrap ((a : Int) + 1) = (d : Int) := by rw [hw1]; omega
            have h5 : decide ((d : Int) < 0) = false := decide_eq_false (by omega)
            have h6 : a ≤ d := by omega
            have h7 : d ≤ s.length := by omega
            rw [hR]
            (repeat' first | ((first | refine go rfl rfl ?_ | refine Cl.by_ (by (first | refine letter_v _ _ | refine digit_v _ _ | refine sign_v _ _)) ?_ | (refine Fk.by_ ?_ ?_ <;> intro hc <;> try simp only [hc]) | refine storeK_eq rfl ?_ | with_reducible refine And.intro ?_ ?_ | fail) <;> try simp only [cells_tokV, h0, hx, hl, hq, hd, hg, hw2, h5, h6, h7, push_cast, reduceIte, Nat.reduceEqDiff, reduceCtorEq, Nat.reduceAdd, Nat.reduceLeDiff, Nat.reduceBEq]))
            refine finB (hwf) (by simp only [F125, cells_tokV, push_cast, reduceIte, Nat.reduceEqDiff, reduceCtorEq, Nat.reduceAdd, Nat.reduceLeDiff, Nat.reduceBEq]; exact rfl) (by first | exact .inl rfl | (right; simp only [F125, cells_tokV, push_cast, reduceIte, Nat.reduceEqDiff, reduceCtorEq, Nat.reduceAdd, Nat.reduceLeDiff, Nat.reduceBEq]; try rfl)) (by first | rfl | assumption) (by simp) (by simp) (by (repeat first | exact (hwf).subm | exact (hwf).suba | refine Sub.drop (by simp) ?_)) (by (repeat first | exact (hwf).subm | exact (hwf).suba | refine Sub.drop (by simp) ?_)) (by (repeat first | exact (hwf).subx | refine ExSub.dropt (by simp) ?_ | refine ExSub.drop (by simp) ?_))
          | false =>
            have hR := hN (by rw [hg, if_neg Bool.false_ne_true])
            have h5 : decide ((-1 : Int) < 0) = true := rfl
            rw [hR]
            (repeat' first | ((first | refine go rfl rfl ?_ | refine Cl.by_ (by (first | refine letter_v _ _ | refine digit_v _ _ | refine sign_v _ _)) ?_ | (refine Fk.by_ ?_ ?_ <;> intro hc <;> try simp only [hc]) | refine storeK_eq rfl ?_ | with_reducible refine And.intro ?_ ?_ | fail) <;> try simp only [cells_tokV, h0, hx, hl, hq, hd, hg, h5, push_cast, reduceIte, Nat.reduceEqDiff, reduceCtorEq, Nat.reduceAdd, Nat.reduceLeDiff, Nat.reduceBEq]))
            refine finB (hwf) (by simp only [F125, cells_tokV, push_cast, reduceIte, Nat.reduceEqDiff, reduceCtorEq, Nat.reduceAdd, Nat.reduceLeDiff, Nat.reduceBEq]; exact rfl) (by first | exact .inl rfl | (right; simp only [F125, cells_tokV, push_cast, reduceIte, Nat.reduceEqDiff, reduceCtorEq, Nat.reduceAdd, Nat.reduceLeDiff, Nat.reduceBEq]; try rfl)) (by first | rfl | assumption) (by simp) (by simp) (by (repeat first | exact (hwf).subm | exact (hwf).suba | refine Sub.drop (by simp) ?_)) (by (repeat first | exact (hwf).subm | exact (hwf).suba | refine Sub.drop (by simp) ?_)) (by (repeat first | exact (hwf).subx | refine ExSub.dropt (by simp) ?_ | refine ExSub.drop (by simp) ?_))
  · have hae : a = s.length := by omega
    have h0 : ((a : Int) == (s.length : Int)) = true := by simp [hae]
    have hR2 := hS _ _ _ (if_pos hae)
    rw [hR2]
    (repeat' first | ((first | refine go rfl rfl ?_ | (refine Fk.by_ ?_ ?_ <;> intro hc <;> try simp only [hc]) | refine storeK_eq rfl ?_ | with_reducible refine And.intro ?_ ?_ | fail) <;> try simp only [cells_tokV, h0, push_cast, reduceIte, Nat.reduceEqDiff, reduceCtorEq, Nat.reduceAdd, Nat.reduceLeDiff, Nat.reduceBEq]))
    refine finB (hwf) (by simp only [F125, cells_tokV, push_cast, reduceIte, Nat.reduceEqDiff, reduceCtorEq, Nat.reduceAdd, Nat.reduceLeDiff, Nat.reduceBEq]; exact rfl) (by first | exact .inl rfl | (right; simp only [F125, cells_tokV, push_cast, reduceIte, Nat.reduceEqDiff, reduceCtorEq, Nat.reduceAdd, Nat.reduceLeDiff, Nat.reduceBEq]; try rfl)) (by first | rfl | assumption) (by simp) (by simp) (by (repeat first | exact (hwf).subm | exact (hwf).suba | refine Sub.drop (by simp) ?_)) (by (repeat first | exact (hwf).subm | exact (hwf).suba | refine Sub.drop (by simp) ?_)) (by (repeat first | exact (hwf).subx | refine ExSub.dropt (by simp) ?_ | refine ExSub.drop (by simp) ?_))

theorem refScan_v (s : List UInt8) (st : St) : VRet Tryz.prog 67 [.str s] st (scanV (scanR s)) st := by
  refine VCalls_of F67_ok mixed (Nat.le_of_ble_eq_true rfl) (fun hwf => ?_)
  by_cases hl : 4096 < s.length
  · have hR : scanR s = ([], 0, 13) := if_pos hl
    have h0 : decide ((4096 : Int) < (s.length : Int)) = true := by simp; omega
    rw [hR]
    (repeat' first | ((first | refine go rfl rfl ?_ | (refine Fk.by_ ?_ ?_ <;> intro hc <;> try simp only [hc]) | refine storeK_eq rfl ?_ | with_reducible refine And.intro ?_ ?_ | fail) <;> try simp only [h0, push_cast, reduceIte, Nat.reduceEqDiff, reduceCtorEq, Nat.reduceAdd, Nat.reduceLeDiff, Nat.reduceBEq]))
    refine finB (hwf) (by simp only [F67, scanV, push_cast, reduceIte, Nat.reduceEqDiff, reduceCtorEq, Nat.reduceAdd, Nat.reduceLeDiff, Nat.reduceBEq]; exact rfl) (by first | exact .inl rfl | (right; simp only [F67, scanV, push_cast, reduceIte, Nat.reduceEqDiff, reduceCtorEq, Nat.reduceAdd, Nat.reduceLeDiff, Nat.reduceBEq]; try rfl)) (by first | rfl | assumption) (by simp) (by simp) (by (repeat first | exact (hwf).subm | exact (hwf).suba | refine Sub.drop (by simp) ?_)) (by (repeat first | exact (hwf).subm | exact (hwf).suba | refine Sub.drop (by simp) ?_)) (by (repeat first | exact (hwf).subx | refine ExSub.dropt (by simp) ?_ | refine ExSub.drop (by simp) ?_))
  · have hR : scanR s = scanG (s.length + 1) s 0 [] := if_neg hl
    have hs : s.length < 140737488355328 := by omega
    have h0 : decide ((4096 : Int) < (s.length : Int)) = false := by simp; omega
    obtain ⟨R, hRR⟩ : ∃ R, scanR s = R := ⟨_, rfl⟩
    rw [hRR]
    rw [hRR] at hR
    (repeat' first | ((first | refine go rfl rfl ?_ | (refine Fk.by_ ?_ ?_ <;> intro hc <;> try simp only [hc]) | refine storeK_eq rfl ?_ | with_reducible refine And.intro ?_ ?_ | fail) <;> try simp only [h0, push_cast, reduceIte, Nat.reduceEqDiff, reduceCtorEq, Nat.reduceAdd, Nat.reduceLeDiff, Nat.reduceBEq]))
    refine WT_own 111 3 (t := 5) rfl ?_
    refine WT_loop rfl (fun n e z => ∃ f i acc, n = s.length - i ∧ i ≤ s.length ∧ s.length - i < f ∧ acc.length ≤ 256 ∧ R = scanG f s i acc ∧ e = [(6, .int .i64 (i : Int)), (5, .osl st.nx acc.length), (0, .str s)] ∧
      z = ⟨st.nx + 1, st.mem, (st.nx, ⟨111, 3, acc.map tkV, false, false⟩) :: st.arr, st.x⟩) (st.nx + 1) (Nat.le_refl _) (by rintro _ _ _ ⟨_, _, _, _, _, _, _, _, _, rfl⟩; rfl)
      ⟨_, _, _, ⟨s.length + 1, 0, [], rfl, Nat.zero_le _, by omega, by simp, hR, rfl, rfl⟩, (by repeat first | exact .nil | refine .cons (by first | rfl | (simp [V.bd, V.bdL]; try first | omega | assumption)) (by first | rfl | simp only [push_cast, reduceIte, Nat.reduceEqDiff, reduceCtorEq, Nat.reduceAdd, Nat.reduceLeDiff, Nat.reduceBEq]) ?_), .refl (hwf.newA rfl)⟩ ?_
    rintro n e z ⟨f, i, acc, rfl, hi, hf, hac, hR, rfl, rfl⟩
    cases f with
    | zero => omega
    | succ f =>
    rw [scanG] at hR
    obtain ⟨a, ha⟩ : ∃ a, runTo (isB 32) s i = a := ⟨_, rfl⟩
    have hal : a ≤ s.length := by rw [← ha]; exact runTo_le hi
    have hia : i ≤ a := by rw [← ha]; exact le_runTo
    rw [ha] at hR
    have hle : decide ((i : Int) ≤ (s.length : Int)) = true := decide_eq_true (by omega)
    have key : ∀ j : Nat, j = a → WT Tryz.prog F67.N F67.T 35 [(6, .int .i64 (j : Int)), (5, .osl st.nx acc.length), (0, .str s)] ⟨st.nx + 1, st.mem, (st.nx, ⟨111, 3, acc.map tkV, false, false⟩) :: st.arr, st.x⟩
      (blockPost 1 (seqPost (Again (st.nx + 1) (fun n e z => ∃ f i acc, n = s.length - i ∧ i ≤ s.length ∧ s.length - i < f ∧ acc.length ≤ 256 ∧ R = scanG f s i acc ∧ e = [(6, .int .i64 (i : Int)), (5, .osl st.nx acc.length), (0, .str s)] ∧
      z = ⟨st.nx + 1, st.mem, (st.nx, ⟨111, 3, acc.map tkV, false, false⟩) :: st.arr, st.x⟩) (s.length - i)) (blockPost 0 (seqT Tryz.prog F67.N F67.T 64 (finQ F67.res st.nx fun x z => x = .ret (scanV R) ∧ z = st))))) := by
      intro j ej
      rw [ej]
      clear ej
      cases h : lexAt s a with
      | none =>
        have ht : refTok s a = .tup [tokV 0 [] 0, .int .i64 (-1)] := by rw [refTok, h]
        have h5 : decide ((-1 : Int) < 0) = true := rfl
        rw [h] at hR
        subst hR
        (repeat' first | ((first | refine go rfl rfl ?_ | refine Cl.by_ (by (first | refine Token_v _ hal hs)) ?_ | (refine Fk.by_ ?_ ?_ <;> intro hc <;> try simp only [hc]) | refine storeK_eq rfl ?_ | with_reducible refine And.intro ?_ ?_ | fail) <;> try simp only [ht, cells_tokV, h5, push_cast, reduceIte, Nat.reduceEqDiff, reduceCtorEq, Nat.reduceAdd, Nat.reduceLeDiff, Nat.reduceBEq]))
        refine finB (hwf) (by simp only [F67, scanV, push_cast, reduceIte, Nat.reduceEqDiff, reduceCtorEq, Nat.reduceAdd, Nat.reduceLeDiff, Nat.reduceBEq]; exact rfl) (by first | exact .inl rfl | (right; simp only [F67, scanV, push_cast, reduceIte, Nat.reduceEqDiff, reduceCtorEq, Nat.reduceAdd, Nat.reduceLeDiff, Nat.reduceBEq]; try rfl)) (by first | rfl | assumption) (by simp) (by simp) (by (repeat first | exact (hwf).subm | exact (hwf).suba | refine Sub.drop (by simp) ?_)) (by (repeat first | exact (hwf).subm | exact (hwf).suba | refine Sub.drop (by simp) ?_)) (by (repeat first | exact (hwf).subx | refine ExSub.dropt (by simp) ?_ | refine ExSub.drop (by simp) ?_))
      | some r =>
        obtain ⟨k, t, e⟩ := r
        have ht : refTok s a = .tup [tokV k t a, .int .i64 (e : Int)] := by rw [refTok, h]
        have h5 : decide ((e : Int) < 0) = false := decide_eq_false (by omega)
        simp only [h] at hR
        by_cases hn : acc.length = 256
        · rw [if_pos hn] at hR
          subst hR
          have h1 : ((acc.length : Int) == 256) = true := by simp; omega
          (repeat' first | ((first | refine go rfl rfl ?_ | refine Cl.by_ (by (first | refine Token_v _ hal hs)) ?_ | (refine Fk.by_ ?_ ?_ <;> intro hc <;> try simp only [hc]) | refine storeK_eq rfl ?_ | with_reducible refine And.intro ?_ ?_ | fail) <;> try simp only [ht, cells_tokV, h1, h5, push_cast, reduceIte, Nat.reduceEqDiff, reduceCtorEq, Nat.reduceAdd, Nat.reduceLeDiff, Nat.reduceBEq]))
          refine finB (hwf) (by simp only [F67, scanV, push_cast, reduceIte, Nat.reduceEqDiff, reduceCtorEq, Nat.reduceAdd, Nat.reduceLeDiff, Nat.reduceBEq]; exact rfl) (by first | exact .inl rfl | (right; simp only [F67, scanV, push_cast, reduceIte, Nat.reduceEqDiff, reduceCtorEq, Nat.reduceAdd, Nat.reduceLeDiff, Nat.reduceBEq]; try rfl)) (by first | rfl | assumption) (by simp) (by simp) (by (repeat first | exact (hwf).subm | exact (hwf).suba | refine Sub.drop (by simp) ?_)) (by (repeat first | exact (hwf).subm | exact (hwf).suba | refine Sub.drop (by simp) ?_)) (by (repeat first | exact (hwf).subx | refine ExSub.dropt (by simp) ?_ | refine ExSub.drop (by simp) ?_))
        · rw [if_neg hn] at hR
          have h1 : ((acc.length : Int) == 256) = false := by simp; omega
          by_cases hk : k = 3
          · rw [if_pos hk] at hR
            subst hR
            have h2 : (k == 3) = true := by simp [hk]
            have hrm : roomV (acc.length + 1) 32 = true := by simp [roomV, maxLen]; omega
            have hbr : V.bd st.nx (scanV (acc ++ [⟨k, t, (a : Int)⟩], 0, 0)) = true := by
              simp only [scanV, V.bd, V.bdL, bdL_tk]; rfl
            (repeat' first | ((first | refine go rfl rfl ?_ | refine Cl.by_ (by (first | refine Token_v _ hal hs)) ?_ | (refine Fk.by_ ?_ ?_ <;> intro hc <;> try simp only [hc]) | refine storeK_eq rfl ?_ | with_reducible refine And.intro ?_ ?_ | fail) <;> try simp only [ht, cells_tokV, app_tk, h1, h2, h5, hrm, push_cast, reduceIte, Nat.reduceEqDiff, reduceCtorEq, Nat.reduceAdd, Nat.reduceLeDiff, Nat.reduceBEq]))
            refine finB (hwf) (by simp only [F67, scanV, push_cast, reduceIte, Nat.reduceEqDiff, reduceCtorEq, Nat.reduceAdd, Nat.reduceLeDiff, Nat.reduceBEq]; exact rfl) (by first | exact .inl rfl | (right; simp only [F67, scanV, push_cast, reduceIte, Nat.reduceEqDiff, reduceCtorEq, Nat.reduceAdd, Nat.reduceLeDiff, Nat.reduceBEq]; try rfl)) (by first | rfl | assumption) (by simp) (by simp) (by (repeat first | exact (hwf).subm | exact (hwf).suba | refine Sub.drop (by simp) ?_)) (by (repeat first | exact (hwf).subm | exact (hwf).suba | refine Sub.drop (by simp) ?_)) (by (repeat first | exact (hwf).subx | refine ExSub.dropt (by simp) ?_ | refine ExSub.drop (by simp) ?_))
          · rw [if_neg hk] at hR
            have h2 : (k == 3) = false := by simp [hk]
            have hrm : roomV (acc.length + 1) 32 = true := by simp [roomV, maxLen]; omega
            (repeat' first | ((first | refine go rfl rfl ?_ | refine Cl.by_ (by (first | refine Token_v _ hal hs)) ?_ | (refine Fk.by_ ?_ ?_ <;> intro hc <;> try simp only [hc]) | refine storeK_eq rfl ?_ | with_reducible refine And.intro ?_ ?_ | fail) <;> try simp only [ht, cells_tokV, app_tk, h1, h2, h5, hrm, push_cast, reduceIte, Nat.reduceEqDiff, reduceCtorEq, Nat.reduceAdd, Nat.reduceLeDiff, Nat.reduceBEq]))
            obtain ⟨g1, g2, g3⟩ := lexAt_bd hal h
            have := g3 hk
            exact ⟨_, _, _, by omega, ⟨f, e, acc ++ [⟨k, t, (a : Int)⟩], rfl, by omega, by omega, by simp; omega, hR, rfl, rfl⟩, (by repeat first | exact .nil | refine .cons (by first | rfl | (simp [V.bd, V.bdL]; try first | omega | assumption)) (by first | rfl | simp only [push_cast, reduceIte, Nat.reduceEqDiff, reduceCtorEq, Nat.reduceAdd, Nat.reduceLeDiff, Nat.reduceBEq]) ?_), Weak.wf rfl (by simp) (by (repeat first | exact (hwf.newA (bdL_tk)).subm | exact (hwf.newA (bdL_tk)).suba | refine Sub.drop (by simp) ?_)) (by (repeat first | exact (hwf.newA (bdL_tk)).subm | exact (hwf.newA (bdL_tk)).suba | refine Sub.drop (by simp) ?_)) (by (repeat first | exact (hwf.newA (bdL_tk)).subx | refine ExSub.dropt (by simp) ?_ | refine ExSub.drop (by simp) ?_)) (hwf.newA (bdL_tk))⟩
    (repeat' first | ((first | refine go rfl rfl ?_ | (refine Fk.by_ ?_ ?_ <;> intro hc <;> try simp only [hc]) | refine storeK_eq rfl ?_ | with_reducible refine And.intro ?_ ?_ | fail) <;> try simp only [hle, push_cast, reduceIte, Nat.reduceEqDiff, reduceCtorEq, Nat.reduceAdd, Nat.reduceLeDiff, Nat.reduceBEq]))
    refine WT_loop rfl (fun n e z => ∃ j : Nat, n = s.length - j ∧ j ≤ s.length ∧ runTo (isB 32) s j = a ∧ e = [(6, .int .i64 (j : Int)), (5, .osl st.nx acc.length), (0, .str s)] ∧ z = ⟨st.nx + 1, st.mem, (st.nx, ⟨111, 3, acc.map tkV, false, false⟩) :: st.arr, st.x⟩) (st.nx + 1) (Nat.le_refl _) (by rintro _ _ _ ⟨j, _, _, _, _, rfl⟩; rfl)
      ⟨_, _, _, ⟨i, rfl, hi, ha, rfl, rfl⟩, (by repeat first | exact .nil | refine .cons (by first | rfl | (simp [V.bd, V.bdL]; try first | omega | assumption)) (by first | rfl | simp only [push_cast, reduceIte, Nat.reduceEqDiff, reduceCtorEq, Nat.reduceAdd, Nat.reduceLeDiff, Nat.reduceBEq]) ?_), .refl (hwf.newA (bdL_tk))⟩ ?_
    rintro n e z ⟨j, rfl, hj, hr, rfl, rfl⟩
    rcases Nat.lt_or_ge j s.length with hlt | hge
    · obtain ⟨b, hb⟩ : ∃ b, s[j]? = some b := ⟨_, List.getElem?_eq_getElem hlt⟩
      have h1 : decide ((j : Int) < (s.length : Int)) = true := decide_eq_true (by omega)
      have hw : IntKind.i64.wrap ((j : Int) + 1) = (j : Int) + 1 := wrap64 (by omega) (by omega)
      have h5 : ∀ x, ((b.toNat : Int) == 32) = x → atIs (isB 32) s j = x := fun x h => by rw [atIs_some hb]; exact h
      (repeat' first | exact WT_env (by repeat first | exact .nil | refine .cons (by first | rfl | simp only [push_cast, reduceIte, Nat.reduceEqDiff, reduceCtorEq, Nat.reduceAdd, Nat.reduceLeDiff, Nat.reduceBEq]) ?_) (key j (by rw [← hr, runTo_stop (h5 false hc)])) | ((first | refine go rfl rfl ?_ | (refine Fk.by_ ?_ ?_ <;> intro hc <;> try simp only [hc]) | refine storeK_eq rfl ?_ | with_reducible refine And.intro ?_ ?_ | fail) <;> try simp only [h1, hb, hw, push_cast, reduceIte, Nat.reduceEqDiff, reduceCtorEq, Nat.reduceAdd, Nat.reduceLeDiff, Nat.reduceBEq]))
      exact ⟨_, _, _, by omega, ⟨j + 1, rfl, by omega, by rw [(runTo_go (h5 true hc)).1, hr], rfl, rfl⟩, (by repeat first | exact .nil | refine .cons (by first | rfl | (simp [V.bd, V.bdL]; try first | omega | assumption)) (by first | rfl | simp only [push_cast, reduceIte, Nat.reduceEqDiff, reduceCtorEq, Nat.reduceAdd, Nat.reduceLeDiff, Nat.reduceBEq]) ?_), .refl (hwf.newA (bdL_tk))⟩
    · have h1 : decide ((j : Int) < (s.length : Int)) = false := decide_eq_false (by omega)
      (repeat' first | exact WT_env (by repeat first | exact .nil | refine .cons (by first | rfl | simp only [push_cast, reduceIte, Nat.reduceEqDiff, reduceCtorEq, Nat.reduceAdd, Nat.reduceLeDiff, Nat.reduceBEq]) ?_) (key j (by rw [← hr, runTo_stop (atIs_none hge)])) | ((first | refine go rfl rfl ?_ | (refine Fk.by_ ?_ ?_ <;> intro hc <;> try simp only [hc]) | refine storeK_eq rfl ?_ | with_reducible refine And.intro ?_ ?_ | fail) <;> try simp only [h1, push_cast, reduceIte, Nat.reduceEqDiff, reduceCtorEq, Nat.reduceAdd, Nat.reduceLeDiff, Nat.reduceBEq]))
end Go.Proofs.YtnondemehfkalaaGreatDoor

set_option maxRecDepth 10000
namespace Go.Proofs.YtnondemehfkalaaGreatDoor
open Go.Sha

theorem take_succ_eq {α : Type} [DecidableEq α] {x y : List α} {j : Nat} {a b : α} (hx : x[j]? = some a) (hy : y[j]? = some b) (h : x.take j = y.take j) : x.take (j + 1) = y.take (j + 1) ↔ a = b := by
  rw [List.take_add_one, List.take_add_one, hx, hy, h]
  simp

def x1 : List UInt8 := [67, 104, 97, 110, 32, 53, 46, 49, 32, 64, 51, 55, 46, 53]
def x2 : List UInt8 := [49, 46, 120, 32, 34, 97, 32, 98, 34]
def x3 : List UInt8 := [51, 32, 35, 32, 52]
def w1 : List Tok := [⟨0, [99, 104, 97, 110], 0⟩, ⟨1, [53, 46, 49], 5⟩, ⟨2, [64], 9⟩, ⟨1, [51, 55, 46, 53], 10⟩, ⟨3, [], 14⟩]
def w2 : List Tok := [⟨1, [49], 0⟩, ⟨2, [46], 1⟩, ⟨0, [120], 2⟩, ⟨0, [34, 97, 32, 98, 34], 4⟩, ⟨3, [], 9⟩]
theorem ex1 : scanR x1 = (w1, 0, 0) := by kernel_rfl
theorem ex2 : scanR x2 = (w2, 0, 0) := by kernel_rfl
theorem ex3 : scanR x3 = ([], 2, 4) := by kernel_rfl

theorem scanG_len : ∀ (f : Nat) (s : List UInt8) (i : Nat) (acc : List Tok), acc.length ≤ 256 → (scanG f s i acc).1.length ≤ 256
  | 0, _, _, _, _ => Nat.zero_le _
  | f + 1, s, i, acc, h => by
    rw [scanG]
    split
    · exact Nat.zero_le _
    · split
      · exact Nat.zero_le _
      · split
        · simp; omega
        · exact scanG_len f s _ _ (by simp; omega)
theorem scanR_len (s : List UInt8) : (scanR s).1.length ≤ 256 := by
  unfold scanR
  split
  · exact Nat.zero_le _
  · exact scanG_len _ _ _ _ (Nat.zero_le _)

end Go.Proofs.YtnondemehfkalaaGreatDoor

set_option maxRecDepth 10000
namespace Go.Proofs.YtnondemehfkalaaGreatDoor
open Go.Sha

/-- The only token of a text: what it is, and whether it is the whole text. -/
def oneR (s : List UInt8) : V × Bool := match lexAt s (runTo (isB 32) s 0) with
  | some (k, t, e) => (tokV k t (runTo (isB 32) s 0), ((runTo (isB 32) s 0 : Nat) : Int) == 0 && ((e : Int) == (s.length : Int) && k != 3))
  | none => (tokV 0 [] 0, false)

theorem one_v (s : List UInt8) (st : St) (hs : s.length < 140737488355328) : VRet Tryz.prog 221 [.str s] st (.tup [(oneR s).1, .bool (oneR s).2]) st := by
  refine VCalls_of F221_ok mixed (Nat.le_of_ble_eq_true rfl) (fun hwf => ?_)
  unfold oneR
  obtain ⟨a, ha⟩ : ∃ a, runTo (isB 32) s 0 = a := ⟨_, rfl⟩
  rw [ha]
  have hm : ∀ z : List V, Sha.look ((st.nx + 1, [V.str s, .int .i64 ((0 : Nat) : Int)]) :: (st.nx, z) :: st.mem) (st.nx + 1) = some [.str s, .int .i64 ((0 : Nat) : Int)] := fun z => by simp [Sha.look]
  cases h : lexAt s a with
  | none =>
    have ht : tokR s 0 = (.tup [tokV 0 [] 0, .bool false], a) := by rw [tokR, ha, h]
    (repeat' first | ((first | refine go rfl rfl ?_ | refine Cl.by_ (by (first | refine token_v (i := 0) (hm _) (Nat.zero_le _) hs)) ?_ | (refine Fk.by_ ?_ ?_ <;> intro hc <;> try simp only [hc]) | refine storeK_eq rfl ?_ | with_reducible refine And.intro ?_ ?_ | fail) <;> try simp only [cells_tokV, ht, push_cast, reduceIte, Nat.reduceEqDiff, reduceCtorEq, Nat.reduceAdd, Nat.reduceLeDiff, Nat.reduceBEq]))
    refine finB (hwf) (by simp only [F221, cells_tokV, push_cast, reduceIte, Nat.reduceEqDiff, reduceCtorEq, Nat.reduceAdd, Nat.reduceLeDiff, Nat.reduceBEq]; exact rfl) (by first | exact .inl rfl | (right; simp only [F221, cells_tokV, push_cast, reduceIte, Nat.reduceEqDiff, reduceCtorEq, Nat.reduceAdd, Nat.reduceLeDiff, Nat.reduceBEq]; try rfl)) (by first | rfl | assumption) (by simp) (by simp) (by (repeat first | exact (hwf).subm | exact (hwf).suba | refine Sub.drop (by simp) ?_)) (by (repeat first | exact (hwf).subm | exact (hwf).suba | refine Sub.drop (by simp) ?_)) (by (repeat first | exact (hwf).subx | refine ExSub.dropt (by simp) ?_ | refine ExSub.drop (by simp) ?_))
  | some r =>
    obtain ⟨k, t, e⟩ := r
    have ht : tokR s 0 = (.tup [tokV k t a, .bool true], e) := by rw [tokR, ha, h]
    cases h1 : ((a : Int) == 0) with
    | false =>
      (repeat' first | ((first | refine go rfl rfl ?_ | refine Cl.by_ (by (first | refine token_v (i := 0) (hm _) (Nat.zero_le _) hs)) ?_ | (refine Fk.by_ ?_ ?_ <;> intro hc <;> try simp only [hc]) | refine storeK_eq rfl ?_ | with_reducible refine And.intro ?_ ?_ | fail) <;> try simp only [cells_tokV, ht, h1, push_cast, reduceIte, Nat.reduceEqDiff, reduceCtorEq, Nat.reduceAdd, Nat.reduceLeDiff, Nat.reduceBEq]))
      refine finB (hwf) (by simp only [F221, cells_tokV, push_cast, reduceIte, Nat.reduceEqDiff, reduceCtorEq, Nat.reduceAdd, Nat.reduceLeDiff, Nat.reduceBEq]; exact rfl) (by first | exact .inl rfl | (right; simp only [F221, cells_tokV, push_cast, reduceIte, Nat.reduceEqDiff, reduceCtorEq, Nat.reduceAdd, Nat.reduceLeDiff, Nat.reduceBEq]; try rfl)) (by first | rfl | assumption) (by simp) (by simp) (by (repeat first | exact (hwf).subm | exact (hwf).suba | refine Sub.drop (by simp) ?_)) (by (repeat first | exact (hwf).subm | exact (hwf).suba | refine Sub.drop (by simp) ?_)) (by (repeat first | exact (hwf).subx | refine ExSub.dropt (by simp) ?_ | refine ExSub.drop (by simp) ?_))
    | true =>
      cases h2 : ((e : Int) == (s.length : Int)) with
      | false =>
        (repeat' first | ((first | refine go rfl rfl ?_ | refine Cl.by_ (by (first | refine token_v (i := 0) (hm _) (Nat.zero_le _) hs)) ?_ | (refine Fk.by_ ?_ ?_ <;> intro hc <;> try simp only [hc]) | refine storeK_eq rfl ?_ | with_reducible refine And.intro ?_ ?_ | fail) <;> try simp only [cells_tokV, ht, h1, h2, push_cast, reduceIte, Nat.reduceEqDiff, reduceCtorEq, Nat.reduceAdd, Nat.reduceLeDiff, Nat.reduceBEq]))
        refine finB (hwf) (by simp only [F221, cells_tokV, push_cast, reduceIte, Nat.reduceEqDiff, reduceCtorEq, Nat.reduceAdd, Nat.reduceLeDiff, Nat.reduceBEq]; exact rfl) (by first | exact .inl rfl | (right; simp only [F221, cells_tokV, push_cast, reduceIte, Nat.reduceEqDiff, reduceCtorEq, Nat.reduceAdd, Nat.reduceLeDiff, Nat.reduceBEq]; try rfl)) (by first | rfl | assumption) (by simp) (by simp) (by (repeat first | exact (hwf).subm | exact (hwf).suba | refine Sub.drop (by simp) ?_)) (by (repeat first | exact (hwf).subm | exact (hwf).suba | refine Sub.drop (by simp) ?_)) (by (repeat first | exact (hwf).subx | refine ExSub.dropt (by simp) ?_ | refine ExSub.drop (by simp) ?_))
      | true =>
        (repeat' first | ((first | refine go rfl rfl ?_ | refine Cl.by_ (by (first | refine token_v (i := 0) (hm _) (Nat.zero_le _) hs)) ?_ | (refine Fk.by_ ?_ ?_ <;> intro hc <;> try simp only [hc]) | refine storeK_eq rfl ?_ | with_reducible refine And.intro ?_ ?_ | fail) <;> try simp only [cells_tokV, ht, h1, h2, push_cast, reduceIte, Nat.reduceEqDiff, reduceCtorEq, Nat.reduceAdd, Nat.reduceLeDiff, Nat.reduceBEq]))
        refine finB (hwf) (by simp only [F221, cells_tokV, push_cast, reduceIte, Nat.reduceEqDiff, reduceCtorEq, Nat.reduceAdd, Nat.reduceLeDiff, Nat.reduceBEq]; exact rfl) (by first | exact .inl rfl | (right; simp only [F221, cells_tokV, push_cast, reduceIte, Nat.reduceEqDiff, reduceCtorEq, Nat.reduceAdd, Nat.reduceLeDiff, Nat.reduceBEq]; try rfl)) (by first | rfl | assumption) (by simp) (by simp) (by (repeat first | exact (hwf).subm | exact (hwf).suba | refine Sub.drop (by simp) ?_)) (by (repeat first | exact (hwf).subm | exact (hwf).suba | refine Sub.drop (by simp) ?_)) (by (repeat first | exact (hwf).subx | refine ExSub.dropt (by simp) ?_ | refine ExSub.drop (by simp) ?_))

def quoR (s : List UInt8) : V := if runTo plnB s 0 < s.length then .tup [.str [], .int .i64 3] else .tup [.str (34 :: (s ++ [34])), .int .i64 0]

def unqR (s : List UInt8) : V := if atIs (isB 34) s 0 = true ∧ quoEnd s 0 = s.length then .tup [.str ((s.take (s.length - 1)).drop 1), .int .i64 0] else .tup [.str [], .int .i64 3]

theorem one_quote {s : List UInt8} (h : atIs (isB 34) s 0 = true) : oneR s = if quoEnd s 0 = s.length then (tokV 0 s 0, true) else if quoEnd s 0 = -1 then (tokV 0 [] 0, false) else (tokV 0 (s.take (quoEnd s 0).toNat) 0, false) := by
  have hb : runTo (isB 32) s 0 = 0 := by
    refine runTo_stop ?_
    unfold atIs at h ⊢
    cases hs : s[0]? with
    | none => rfl
    | some b => rw [hs] at h; simp only [isB, beq_iff_eq] at h ⊢; simp; omega
  have hl : atIs letB s 0 = false := by
    unfold atIs at h ⊢
    cases hs : s[0]? with
    | none => rfl
    | some b => rw [hs] at h; simp only [isB, letB, isLet, beq_iff_eq] at h ⊢; simp; omega
  have hlt := atIs_lt h
  unfold oneR
  rw [hb]
  unfold lexAt quoEnd
  rw [if_neg (by omega), hl, h]
  simp only [Bool.false_eq_true, if_false, if_true]
  cases hq : atIs (isB 34) s (runTo plnB s (0 + 1)) with
  | false =>
    simp only [Bool.false_eq_true, if_false]
    rw [if_neg (by omega)]; simp
  | true =>
    simp only [if_true]
    have := atIs_lt hq
    split
    · rename_i he
      have e1 : runTo plnB s (0 + 1) + 1 = s.length := by omega
      rw [e1, List.take_length]
      simp
    · rename_i he
      rw [if_neg (by omega)]
      have e2 : ((runTo plnB s (0 + 1) : Int) + 1).toNat = runTo plnB s (0 + 1) + 1 := by omega
      rw [e2]
      have e3 : (((runTo plnB s (0 + 1) + 1 : Nat) : Int) == (s.length : Int)) = false := by simp; omega
      rw [e3]
      simp

theorem oneR_ex (s : List UInt8) : ∃ k t a b, oneR s = (tokV k t a, b) ∧ (b = true → a = 0 ∧ k ≠ 3 ∧ runTo (isB 32) s 0 = 0 ∧ lexAt s 0 = some (k, t, s.length)) := by
  unfold oneR
  cases h : lexAt s (runTo (isB 32) s 0) with
  | none => exact ⟨_, _, _, _, rfl, fun h => by cases h⟩
  | some r =>
    obtain ⟨k, t, e⟩ := r
    refine ⟨_, _, _, _, rfl, fun h2 => ?_⟩
    simp only [Bool.and_eq_true, beq_iff_eq, bne_iff_ne] at h2
    obtain ⟨h3, h4, h5⟩ := h2
    have e1 : runTo (isB 32) s 0 = 0 := by omega
    have e2 : e = s.length := by omega
    rw [e1, e2] at h
    exact ⟨e1, h5, e1, h⟩

theorem lexAt_nil : lexAt [] 0 = some (3, [], 0) := rfl

theorem one_ne {s : List UInt8} {k : Int} {t : List UInt8} (h : lexAt s 0 = some (k, t, s.length)) (hk : k ≠ 3) : s ≠ [] := by
  rintro rfl
  rw [lexAt_nil] at h
  cases h
  exact hk rfl

end Go.Proofs.YtnondemehfkalaaGreatDoor

set_option maxRecDepth 10000
namespace Go.Proofs.YtnondemehfkalaaGreatDoor
open Go.Sha

def IsWord (s : List UInt8) : Prop := atIs letB s 0 = true ∧ runTo wrdB s 0 = s.length ∧ s.map lowB = s
def IsNumber (s : List UInt8) : Prop := atIs digB s 0 = true ∧ numEnd s 0 = s.length
open Classical in
noncomputable def wordN (s : List UInt8) : Int := if IsWord s then (if 24 < s.length then 13 else 0) else 8
open Classical in
noncomputable def numN (s : List UInt8) : Int := if IsNumber s then 0 else 3

theorem noBlank {ok : UInt8 → Bool} {s : List UInt8} (h : atIs ok s 0 = true) (hok : ∀ b, ok b = true → isB 32 b = false) : runTo (isB 32) s 0 = 0 := by
  refine runTo_stop ?_
  unfold atIs at h ⊢
  cases hs : s[0]? with
  | none => rfl
  | some b => rw [hs] at h; exact hok b h
theorem letB_32 (b : UInt8) (h : letB b = true) : isB 32 b = false := by
  simp only [letB, isLet, isB] at h ⊢; simp at h ⊢; omega
theorem digB_32 (b : UInt8) (h : digB b = true) : isB 32 b = false := by
  simp only [digB, isDig, isB] at h ⊢; simp at h ⊢; omega
theorem atIs_not {ok ok' : UInt8 → Bool} {s : List UInt8} (h : atIs ok s 0 = true) (hok : ∀ b, ok b = true → ok' b = false) : atIs ok' s 0 = false := by
  unfold atIs at h ⊢
  cases hs : s[0]? with
  | none => rfl
  | some b => rw [hs] at h; exact hok b h

theorem one_word {s : List UInt8} (h : IsWord s) : oneR s = (tokV 0 s 0, true) := by
  obtain ⟨h1, h2, h3⟩ := h
  have := atIs_lt h1
  unfold oneR
  rw [noBlank h1 letB_32]
  unfold lexAt
  rw [if_neg (by omega), h1, h2]
  simp [h3]

theorem word_of {s : List UInt8} {t : List UInt8} (h : lexAt s 0 = some (0, t, s.length)) (ht : t = s) (hq : atIs (isB 34) s 0 = false) : IsWord s := by
  unfold lexAt at h
  split at h
  · cases h
  · split at h
    · rename_i h1
      simp only [Option.some.injEq, Prod.mk.injEq, true_and, List.drop_zero] at h
      obtain ⟨h2, h3⟩ := h
      rw [h3, List.take_length] at h2
      exact ⟨h1, h3, h2.trans ht⟩
    · rw [hq] at h
      simp only [Bool.false_eq_true, if_false] at h
      split at h
      · split at h <;> simp at h
      · split at h <;> simp at h

theorem one_number {s : List UInt8} (h : IsNumber s) : oneR s = (tokV 1 s 0, true) := by
  obtain ⟨h1, h2⟩ := h
  have := atIs_lt h1
  unfold oneR
  rw [noBlank h1 digB_32]
  have hl : lexAt s 0 = some (1, s, s.length) := by
    unfold lexAt numEnd at *
    rw [if_neg (by omega), atIs_not h1 (ok' := letB) (fun b hb => by simp only [digB, isDig, letB, isLet] at hb ⊢; simp at hb ⊢; omega), atIs_not h1 (ok' := isB 34) (fun b hb => by simp only [digB, isDig, isB] at hb ⊢; simp at hb ⊢; omega), h1]
    simp only [Bool.false_eq_true, if_false, if_true]
    split at h2
    · rename_i hd; rw [if_pos hd, h2]; simp
    · rename_i hd; rw [if_neg hd, h2]; simp
  rw [hl]
  simp

theorem number_of {s : List UInt8} {t : List UInt8} (h : lexAt s 0 = some (1, t, s.length)) : IsNumber s := by
  unfold lexAt at h
  split at h
  · simp at h
  · split at h
    · simp at h
    · split at h
      · split at h <;> simp at h
      · split at h
        · rename_i h1
          refine ⟨h1, ?_⟩
          unfold numEnd
          split at h
          · rename_i h2
            rw [if_pos h2]; simp at h; exact h.2
          · rename_i h2
            rw [if_neg h2]; simp at h; exact h.2
        · split at h <;> simp at h

theorem Word_v (s : List UInt8) (st : St) (hs : s.length < 140737488355328) : VRet Tryz.prog 207 [.str s] st (.int .i64 (wordN s)) st := by
  refine VCalls_of F207_ok mixed (Nat.le_of_ble_eq_true rfl) (fun hwf => ?_)
  by_cases h : IsWord s
  · have ho := one_word h
    obtain ⟨x, hx⟩ : ∃ x, s[0]? = some x := ⟨_, List.getElem?_eq_getElem (atIs_lt h.1)⟩
    have hx2 : ((x.toNat : Int) == 34) = false := by have := atIs_not h.1 (ok' := isB 34) (fun b hb => by simp only [letB, isLet, isB] at hb ⊢; simp at hb ⊢; omega); rw [atIs_some hx] at this; exact this
    have hk : ((0 : Int) != 0) = false := rfl
    have ht : (s != s) = false := by simp
    have hw : wordN s = if 24 < s.length then 13 else 0 := if_pos h
    by_cases hl : 24 < s.length
    · have h0 : decide ((24 : Int) < (s.length : Int)) = true := decide_eq_true (by omega)
      rw [hw, if_pos hl]
      (repeat' first | ((first | refine go rfl rfl ?_ | refine Cl.by_ (by (first | refine one_v _ _ hs)) ?_ | (refine Fk.by_ ?_ ?_ <;> intro hc <;> try simp only [hc]) | refine storeK_eq rfl ?_ | with_reducible refine And.intro ?_ ?_ | fail) <;> try simp only [cells_tokV, ho, hx, hx2, hk, ht, h0, push_cast, reduceIte, Nat.reduceEqDiff, reduceCtorEq, Nat.reduceAdd, Nat.reduceLeDiff, Nat.reduceBEq]))
      refine finB (hwf) (by simp only [F207, push_cast, reduceIte, Nat.reduceEqDiff, reduceCtorEq, Nat.reduceAdd, Nat.reduceLeDiff, Nat.reduceBEq]; exact rfl) (by first | exact .inl rfl | (right; simp only [F207, push_cast, reduceIte, Nat.reduceEqDiff, reduceCtorEq, Nat.reduceAdd, Nat.reduceLeDiff, Nat.reduceBEq]; try rfl)) (by first | rfl | assumption) (by simp) (by simp) (by (repeat first | exact (hwf).subm | exact (hwf).suba | refine Sub.drop (by simp) ?_)) (by (repeat first | exact (hwf).subm | exact (hwf).suba | refine Sub.drop (by simp) ?_)) (by (repeat first | exact (hwf).subx | refine ExSub.dropt (by simp) ?_ | refine ExSub.drop (by simp) ?_))
    · have h0 : decide ((24 : Int) < (s.length : Int)) = false := decide_eq_false (by omega)
      rw [hw, if_neg hl]
      (repeat' first | ((first | refine go rfl rfl ?_ | refine Cl.by_ (by (first | refine one_v _ _ hs)) ?_ | (refine Fk.by_ ?_ ?_ <;> intro hc <;> try simp only [hc]) | refine storeK_eq rfl ?_ | with_reducible refine And.intro ?_ ?_ | fail) <;> try simp only [cells_tokV, ho, hx, hx2, hk, ht, h0, push_cast, reduceIte, Nat.reduceEqDiff, reduceCtorEq, Nat.reduceAdd, Nat.reduceLeDiff, Nat.reduceBEq]))
      refine finB (hwf) (by simp only [F207, push_cast, reduceIte, Nat.reduceEqDiff, reduceCtorEq, Nat.reduceAdd, Nat.reduceLeDiff, Nat.reduceBEq]; exact rfl) (by first | exact .inl rfl | (right; simp only [F207, push_cast, reduceIte, Nat.reduceEqDiff, reduceCtorEq, Nat.reduceAdd, Nat.reduceLeDiff, Nat.reduceBEq]; try rfl)) (by first | rfl | assumption) (by simp) (by simp) (by (repeat first | exact (hwf).subm | exact (hwf).suba | refine Sub.drop (by simp) ?_)) (by (repeat first | exact (hwf).subm | exact (hwf).suba | refine Sub.drop (by simp) ?_)) (by (repeat first | exact (hwf).subx | refine ExSub.dropt (by simp) ?_ | refine ExSub.drop (by simp) ?_))
  · have hw : wordN s = 8 := if_neg h
    rw [hw]
    obtain ⟨k, t, a, b, ho, hb⟩ := oneR_ex s
    cases b with
    | false =>
      (repeat' first | ((first | refine go rfl rfl ?_ | refine Cl.by_ (by (first | refine one_v _ _ hs)) ?_ | (refine Fk.by_ ?_ ?_ <;> intro hc <;> try simp only [hc]) | refine storeK_eq rfl ?_ | with_reducible refine And.intro ?_ ?_ | fail) <;> try simp only [cells_tokV, ho, push_cast, reduceIte, Nat.reduceEqDiff, reduceCtorEq, Nat.reduceAdd, Nat.reduceLeDiff, Nat.reduceBEq]))
      refine finB (hwf) (by simp only [F207, push_cast, reduceIte, Nat.reduceEqDiff, reduceCtorEq, Nat.reduceAdd, Nat.reduceLeDiff, Nat.reduceBEq]; exact rfl) (by first | exact .inl rfl | (right; simp only [F207, push_cast, reduceIte, Nat.reduceEqDiff, reduceCtorEq, Nat.reduceAdd, Nat.reduceLeDiff, Nat.reduceBEq]; try rfl)) (by first | rfl | assumption) (by simp) (by simp) (by (repeat first | exact (hwf).subm | exact (hwf).suba | refine Sub.drop (by simp) ?_)) (by (repeat first | exact (hwf).subm | exact (hwf).suba | refine Sub.drop (by simp) ?_)) (by (repeat first | exact (hwf).subx | refine ExSub.dropt (by simp) ?_ | refine ExSub.drop (by simp) ?_))
    | true =>
      obtain ⟨_, h3, _, h4⟩ := hb rfl
      obtain ⟨x, hx⟩ : ∃ x, s[0]? = some x := ⟨_, List.getElem?_eq_getElem (by have := one_ne h4 h3; exact List.length_pos_iff.2 this)⟩
      cases hk : (k != 0) with
      | true =>
        (repeat' first | ((first | refine go rfl rfl ?_ | refine Cl.by_ (by (first | refine one_v _ _ hs)) ?_ | (refine Fk.by_ ?_ ?_ <;> intro hc <;> try simp only [hc]) | refine storeK_eq rfl ?_ | with_reducible refine And.intro ?_ ?_ | fail) <;> try simp only [cells_tokV, ho, hx, hk, push_cast, reduceIte, Nat.reduceEqDiff, reduceCtorEq, Nat.reduceAdd, Nat.reduceLeDiff, Nat.reduceBEq]))
        refine finB (hwf) (by simp only [F207, push_cast, reduceIte, Nat.reduceEqDiff, reduceCtorEq, Nat.reduceAdd, Nat.reduceLeDiff, Nat.reduceBEq]; exact rfl) (by first | exact .inl rfl | (right; simp only [F207, push_cast, reduceIte, Nat.reduceEqDiff, reduceCtorEq, Nat.reduceAdd, Nat.reduceLeDiff, Nat.reduceBEq]; try rfl)) (by first | rfl | assumption) (by simp) (by simp) (by (repeat first | exact (hwf).subm | exact (hwf).suba | refine Sub.drop (by simp) ?_)) (by (repeat first | exact (hwf).subm | exact (hwf).suba | refine Sub.drop (by simp) ?_)) (by (repeat first | exact (hwf).subx | refine ExSub.dropt (by simp) ?_ | refine ExSub.drop (by simp) ?_))
      | false =>
        cases ht : (t != s) with
        | true =>
          (repeat' first | ((first | refine go rfl rfl ?_ | refine Cl.by_ (by (first | refine one_v _ _ hs)) ?_ | (refine Fk.by_ ?_ ?_ <;> intro hc <;> try simp only [hc]) | refine storeK_eq rfl ?_ | with_reducible refine And.intro ?_ ?_ | fail) <;> try simp only [cells_tokV, ho, hx, hk, ht, push_cast, reduceIte, Nat.reduceEqDiff, reduceCtorEq, Nat.reduceAdd, Nat.reduceLeDiff, Nat.reduceBEq]))
          refine finB (hwf) (by simp only [F207, push_cast, reduceIte, Nat.reduceEqDiff, reduceCtorEq, Nat.reduceAdd, Nat.reduceLeDiff, Nat.reduceBEq]; exact rfl) (by first | exact .inl rfl | (right; simp only [F207, push_cast, reduceIte, Nat.reduceEqDiff, reduceCtorEq, Nat.reduceAdd, Nat.reduceLeDiff, Nat.reduceBEq]; try rfl)) (by first | rfl | assumption) (by simp) (by simp) (by (repeat first | exact (hwf).subm | exact (hwf).suba | refine Sub.drop (by simp) ?_)) (by (repeat first | exact (hwf).subm | exact (hwf).suba | refine Sub.drop (by simp) ?_)) (by (repeat first | exact (hwf).subx | refine ExSub.dropt (by simp) ?_ | refine ExSub.drop (by simp) ?_))
        | false =>
          have hx2 : ((x.toNat : Int) == 34) = true := by
            cases hq : ((x.toNat : Int) == 34) with
            | true => rfl
            | false =>
              have hk0 : k = 0 := by simpa [bne] using hk
              subst hk0
              exact absurd (word_of h4 (by simpa [bne] using ht) (by rw [atIs_some hx]; exact hq)) h
          (repeat' first | ((first | refine go rfl rfl ?_ | refine Cl.by_ (by (first | refine one_v _ _ hs)) ?_ | (refine Fk.by_ ?_ ?_ <;> intro hc <;> try simp only [hc]) | refine storeK_eq rfl ?_ | with_reducible refine And.intro ?_ ?_ | fail) <;> try simp only [cells_tokV, ho, hx, hk, ht, hx2, push_cast, reduceIte, Nat.reduceEqDiff, reduceCtorEq, Nat.reduceAdd, Nat.reduceLeDiff, Nat.reduceBEq]))
          refine finB (hwf) (by simp only [F207, push_cast, reduceIte, Nat.reduceEqDiff, reduceCtorEq, Nat.reduceAdd, Nat.reduceLeDiff, Nat.reduceBEq]; exact rfl) (by first | exact .inl rfl | (right; simp only [F207, push_cast, reduceIte, Nat.reduceEqDiff, reduceCtorEq, Nat.reduceAdd, Nat.reduceLeDiff, Nat.reduceBEq]; try rfl)) (by first | rfl | assumption) (by simp) (by simp) (by (repeat first | exact (hwf).subm | exact (hwf).suba | refine Sub.drop (by simp) ?_)) (by (repeat first | exact (hwf).subm | exact (hwf).suba | refine Sub.drop (by simp) ?_)) (by (repeat first | exact (hwf).subx | refine ExSub.dropt (by simp) ?_ | refine ExSub.drop (by simp) ?_))

theorem refWord_v (s : List UInt8) (st : St) (hs : s.length < 140737488355328) : VRet Tryz.prog 185 [.str s] st (.int .i64 (wordN s)) st := by
  refine VCalls_of F185_ok mixed (Nat.le_of_ble_eq_true rfl) (fun hwf => ?_)
  cases s with
  | nil =>
    have hw : wordN [] = 8 := if_neg (fun h => by cases h.1)
    have h0 : (([] : List UInt8) == []) = true := rfl
    rw [hw]
    (repeat' first | ((first | refine go rfl rfl ?_ | (refine Fk.by_ ?_ ?_ <;> intro hc <;> try simp only [hc]) | refine storeK_eq rfl ?_ | with_reducible refine And.intro ?_ ?_ | fail) <;> try simp only [h0, push_cast, reduceIte, Nat.reduceEqDiff, reduceCtorEq, Nat.reduceAdd, Nat.reduceLeDiff, Nat.reduceBEq]))
    refine finB (hwf) (by simp only [F185, push_cast, reduceIte, Nat.reduceEqDiff, reduceCtorEq, Nat.reduceAdd, Nat.reduceLeDiff, Nat.reduceBEq]; exact rfl) (by first | exact .inl rfl | (right; simp only [F185, push_cast, reduceIte, Nat.reduceEqDiff, reduceCtorEq, Nat.reduceAdd, Nat.reduceLeDiff, Nat.reduceBEq]; try rfl)) (by first | rfl | assumption) (by simp) (by simp) (by (repeat first | exact (hwf).subm | exact (hwf).suba | refine Sub.drop (by simp) ?_)) (by (repeat first | exact (hwf).subm | exact (hwf).suba | refine Sub.drop (by simp) ?_)) (by (repeat first | exact (hwf).subx | refine ExSub.dropt (by simp) ?_ | refine ExSub.drop (by simp) ?_))
  | cons x s' =>
    have h0 : ((x :: s') == []) = false := rfl
    obtain ⟨s, hse⟩ : ∃ s, x :: s' = s := ⟨_, rfl⟩
    have hx : s[0]? = some x := by rw [← hse]; rfl
    rw [hse] at hs h0 ⊢
    have e1 : atIs letB s 0 = isLet x.toNat := atIs_some hx
    cases hl : isLet x.toNat with
    | false =>
      have hw : wordN s = 8 := if_neg (fun h => by rw [h.1, hl] at e1; cases e1)
      rw [hw]
      (repeat' first | ((first | refine go rfl rfl ?_ | refine Cl.by_ (by (first | refine letter_v _ _ | refine word_v (i := 0) _ (Nat.zero_le _) hs)) ?_ | (refine Fk.by_ ?_ ?_ <;> intro hc <;> try simp only [hc]) | refine storeK_eq rfl ?_ | with_reducible refine And.intro ?_ ?_ | fail) <;> try simp only [h0, hx, hl, push_cast, reduceIte, Nat.reduceEqDiff, reduceCtorEq, Nat.reduceAdd, Nat.reduceLeDiff, Nat.reduceBEq]))
      refine finB (hwf) (by simp only [F185, push_cast, reduceIte, Nat.reduceEqDiff, reduceCtorEq, Nat.reduceAdd, Nat.reduceLeDiff, Nat.reduceBEq]; exact rfl) (by first | exact .inl rfl | (right; simp only [F185, push_cast, reduceIte, Nat.reduceEqDiff, reduceCtorEq, Nat.reduceAdd, Nat.reduceLeDiff, Nat.reduceBEq]; try rfl)) (by first | rfl | assumption) (by simp) (by simp) (by (repeat first | exact (hwf).subm | exact (hwf).suba | refine Sub.drop (by simp) ?_)) (by (repeat first | exact (hwf).subm | exact (hwf).suba | refine Sub.drop (by simp) ?_)) (by (repeat first | exact (hwf).subx | refine ExSub.dropt (by simp) ?_ | refine ExSub.drop (by simp) ?_))
    | true =>
      by_cases hr : runTo wrdB s 0 = s.length
      · have hr2 : (((runTo wrdB s 0 : Nat) : Int) != (s.length : Int)) = false := by simp [hr]
        have hasc : ∀ b ∈ s, b.toNat < 128 := by
          have := run_ascii (runTo_all (ok := wrdB) (s := s) _ _ rfl : ∀ k, 0 ≤ k → k < runTo wrdB s 0 → _)
          rw [hr, List.take_length, List.drop_zero] at this
          exact this
        cases hm : (s.map lowB != s) with
        | true =>
          have hw : wordN s = 8 := if_neg (fun h => by rw [h.2.2] at hm; simp at hm)
          rw [hw]
          (repeat' first | ((first | refine go rfl rfl ?_ | refine Cl.by_ (by (first | refine letter_v _ _ | refine word_v (i := 0) _ (Nat.zero_le _) hs | refine Lower_v _ hasc hs)) ?_ | (refine Fk.by_ ?_ ?_ <;> intro hc <;> try simp only [hc]) | refine storeK_eq rfl ?_ | with_reducible refine And.intro ?_ ?_ | fail) <;> try simp only [h0, hx, hl, hr2, hm, push_cast, reduceIte, Nat.reduceEqDiff, reduceCtorEq, Nat.reduceAdd, Nat.reduceLeDiff, Nat.reduceBEq]))
          refine finB (hwf) (by simp only [F185, push_cast, reduceIte, Nat.reduceEqDiff, reduceCtorEq, Nat.reduceAdd, Nat.reduceLeDiff, Nat.reduceBEq]; exact rfl) (by first | exact .inl rfl | (right; simp only [F185, push_cast, reduceIte, Nat.reduceEqDiff, reduceCtorEq, Nat.reduceAdd, Nat.reduceLeDiff, Nat.reduceBEq]; try rfl)) (by first | rfl | assumption) (by simp) (by simp) (by (repeat first | exact (hwf).subm | exact (hwf).suba | refine Sub.drop (by simp) ?_)) (by (repeat first | exact (hwf).subm | exact (hwf).suba | refine Sub.drop (by simp) ?_)) (by (repeat first | exact (hwf).subx | refine ExSub.dropt (by simp) ?_ | refine ExSub.drop (by simp) ?_))
        | false =>
          have hw : wordN s = if 24 < s.length then 13 else 0 := if_pos ⟨by rw [e1, hl], hr, by simpa [bne] using hm⟩
          by_cases hl2 : 24 < s.length
          · have h1 : decide ((24 : Int) < (s.length : Int)) = true := decide_eq_true (by omega)
            rw [hw, if_pos hl2]
            (repeat' first | ((first | refine go rfl rfl ?_ | refine Cl.by_ (by (first | refine letter_v _ _ | refine word_v (i := 0) _ (Nat.zero_le _) hs | refine Lower_v _ hasc hs)) ?_ | (refine Fk.by_ ?_ ?_ <;> intro hc <;> try simp only [hc]) | refine storeK_eq rfl ?_ | with_reducible refine And.intro ?_ ?_ | fail) <;> try simp only [h0, hx, hl, hr2, hm, h1, push_cast, reduceIte, Nat.reduceEqDiff, reduceCtorEq, Nat.reduceAdd, Nat.reduceLeDiff, Nat.reduceBEq]))
            refine finB (hwf) (by simp only [F185, push_cast, reduceIte, Nat.reduceEqDiff, reduceCtorEq, Nat.reduceAdd, Nat.reduceLeDiff, Nat.reduceBEq]; exact rfl) (by first | exact .inl rfl | (right; simp only [F185, push_cast, reduceIte, Nat.reduceEqDiff, reduceCtorEq, Nat.reduceAdd, Nat.reduceLeDiff, Nat.reduceBEq]; try rfl)) (by first | rfl | assumption) (by simp) (by simp) (by (repeat first | exact (hwf).subm | exact (hwf).suba | refine Sub.drop (by simp) ?_)) (by (repeat first | exact (hwf).subm | exact (hwf).suba | refine Sub.drop (by simp) ?_)) (by (repeat first | exact (hwf).subx | refine ExSub.dropt (by simp) ?_ | refine ExSub.drop (by simp) ?_))
          · have h1 : decide ((24 : Int) < (s.length : Int)) = false := decide_eq_false (by omega)
            rw [hw, if_neg hl2]
            (repeat' first | ((first | refine go rfl rfl ?_ | refine Cl.by_ (by (first | refine letter_v _ _ | refine word_v (i := 0) _ (Nat.zero_le _) hs | refine Lower_v _ hasc hs)) ?_ | (refine Fk.by_ ?_ ?_ <;> intro hc <;> try simp only [hc]) | refine storeK_eq rfl ?_ | with_reducible refine And.intro ?_ ?_ | fail) <;> try simp only [h0, hx, hl, hr2, hm, h1, push_cast, reduceIte, Nat.reduceEqDiff, reduceCtorEq, Nat.reduceAdd, Nat.reduceLeDiff, Nat.reduceBEq]))
            refine finB (hwf) (by simp only [F185, push_cast, reduceIte, Nat.reduceEqDiff, reduceCtorEq, Nat.reduceAdd, Nat.reduceLeDiff, Nat.reduceBEq]; exact rfl) (by first | exact .inl rfl | (right; simp only [F185, push_cast, reduceIte, Nat.reduceEqDiff, reduceCtorEq, Nat.reduceAdd, Nat.reduceLeDiff, Nat.reduceBEq]; try rfl)) (by first | rfl | assumption) (by simp) (by simp) (by (repeat first | exact (hwf).subm | exact (hwf).suba | refine Sub.drop (by simp) ?_)) (by (repeat first | exact (hwf).subm | exact (hwf).suba | refine Sub.drop (by simp) ?_)) (by (repeat first | exact (hwf).subx | refine ExSub.dropt (by simp) ?_ | refine ExSub.drop (by simp) ?_))
      · have hr2 : (((runTo wrdB s 0 : Nat) : Int) != (s.length : Int)) = true := by simp; omega
        have hw : wordN s = 8 := if_neg (fun h => hr h.2.1)
        rw [hw]
        (repeat' first | ((first | refine go rfl rfl ?_ | refine Cl.by_ (by (first | refine letter_v _ _ | refine word_v (i := 0) _ (Nat.zero_le _) hs)) ?_ | (refine Fk.by_ ?_ ?_ <;> intro hc <;> try simp only [hc]) | refine storeK_eq rfl ?_ | with_reducible refine And.intro ?_ ?_ | fail) <;> try simp only [h0, hx, hl, hr2, push_cast, reduceIte, Nat.reduceEqDiff, reduceCtorEq, Nat.reduceAdd, Nat.reduceLeDiff, Nat.reduceBEq]))
        refine finB (hwf) (by simp only [F185, push_cast, reduceIte, Nat.reduceEqDiff, reduceCtorEq, Nat.reduceAdd, Nat.reduceLeDiff, Nat.reduceBEq]; exact rfl) (by first | exact .inl rfl | (right; simp only [F185, push_cast, reduceIte, Nat.reduceEqDiff, reduceCtorEq, Nat.reduceAdd, Nat.reduceLeDiff, Nat.reduceBEq]; try rfl)) (by first | rfl | assumption) (by simp) (by simp) (by (repeat first | exact (hwf).subm | exact (hwf).suba | refine Sub.drop (by simp) ?_)) (by (repeat first | exact (hwf).subm | exact (hwf).suba | refine Sub.drop (by simp) ?_)) (by (repeat first | exact (hwf).subx | refine ExSub.dropt (by simp) ?_ | refine ExSub.drop (by simp) ?_))

end Go.Proofs.YtnondemehfkalaaGreatDoor

namespace Go.Proofs.YtnondemehfkalaaGreatDoor
open Go.Sha
/-- (*luminaire/grammar.reader).next -/
def F62 : FT := ⟨9, 1, [.cell 2 (some 3)],
  [.seq 1 2,
   .reg [⟨(some 2), .alloc 111 [(.int .i64 0), (.str []), (.int .i64 0)], none⟩],
   .seq 3 4,
   .reg [⟨(some 3), .mv (.t 0), none⟩,
      ⟨(some 4), .nilc (.t 3), none⟩,
      ⟨(some 5), .fadr 0 (.t 4), none⟩,
      ⟨(some 6), .load none (.t 5), none⟩,
      ⟨(some 7), .iadr 3 (.t 6) (.c (.int .i64 0)), none⟩,
      ⟨(some 8), .load (some 3) (.t 7), none⟩,
      ⟨none, .store 3 (.t 2) (.t 8), none⟩],
   .ret]⟩

/-- (*luminaire/grammar.reader).fail -/
def F63 : FT := ⟨10, 2, [],
  [.reg [⟨(some 4), .mv (.t 0), none⟩,
      ⟨(some 5), .call (.c (.fn (.func 62) [] [])) [(.t 4)], none⟩,
      ⟨(some 6), .fld none 2 (.t 5), none⟩,
      ⟨(some 7), .mv (.t 1), none⟩,
      ⟨(some 8), .build [(.int .i64 0), (.int .i64 0)] [(0, 1, (.t 6)), (1, 1, (.t 7))], none⟩,
      ⟨(some 9), .mkif 106 (.t 8), none⟩,
      ⟨none, .panic (.t 9), none⟩]]⟩

/-- (*luminaire/grammar.reader).set -/
def F64 : FT := ⟨35, 1, [.cell 2 (some 19)],
  [.seq 1 2,
   .reg [⟨(some 2), .alloc 28 [(.int .i64 0), (.str []), (.str []), (.str []), (.int .i64 0), .nils, (.int .i64 0), (.int .i64 0), (.int .i64 0), (.int .i64 0), (.int .i64 0), (.int .i64 0), (.int .i64 0), (.str []), (.int .i64 0), (.int .i64 0), (.int .i64 0), (.str []), .nils], none⟩],
   .seq 3 4,
   .reg [⟨(some 4), .mv (.t 0), none⟩,
      ⟨(some 5), .call (.c (.fn (.func 45) [] [])) [(.t 4)], none⟩,
      ⟨(some 6), .mv (.t 0), none⟩,
      ⟨(some 7), .call (.c (.fn (.func 108) [] [])) [(.t 6), (.c (.int .i64 0))], none⟩,
      ⟨(some 8), .build [(.int .i64 0), (.str []), (.str []), (.str []), (.int .i64 0), .nils, (.int .i64 0), (.int .i64 0), (.int .i64 0), (.int .i64 0), (.int .i64 0), (.int .i64 0), (.int .i64 0), (.str []), (.int .i64 0), (.int .i64 0), (.int .i64 0), (.str []), .nils] [(0, 1, (.c (.int .i64 0))), (1, 1, (.c (.str [97, 116]))), (5, 1, (.t 5)), (6, 1, (.t 7))], none⟩,
      ⟨(some 3), .alloc 28 [(.int .i64 0), (.str []), (.str []), (.str []), (.int .i64 0), .nils, (.int .i64 0), (.int .i64 0), (.int .i64 0), (.int .i64 0), (.int .i64 0), (.int .i64 0), (.int .i64 0), (.str []), (.int .i64 0), (.int .i64 0), (.int .i64 0), (.str []), .nils], none⟩,
      ⟨none, .store 19 (.t 3) (.t 8), none⟩],
   .seq 5 6,
   .reg [⟨(some 9), .mv (.t 0), none⟩,
      ⟨(some 10), .bslice 9 1 [(.c (.str [97, 116]))], none⟩,
      ⟨(some 11), .call (.c (.fn (.func 109) [] [])) [(.t 9), (.t 10)], none⟩],
   .seq 7 25,
   .seq 8 9,
   .reg [⟨(some 12), .mv (.t 0), none⟩,
      ⟨(some 13), .bslice 9 1 [(.c (.str [112, 97, 108, 101, 116, 116, 101])), (.c (.str [104, 111, 109, 101]))], none⟩,
      ⟨(some 14), .call (.c (.fn (.func 110) [] [])) [(.t 12), (.t 13)], none⟩],
   .block 0 10,
   .seq 11 12,
   .reg [⟨(some 24), .bin .eql (.t 14) (.c (.str [112, 97, 108, 101, 116, 116, 101])), none⟩,
      ⟨(some 23), .mv (.t 24), none⟩],
   .cond (.t 23) 13 14,
   .reg [⟨(some 25), .mv (.t 0), none⟩,
      ⟨(some 26), .call (.c (.fn (.func 111) [] [])) [(.t 25)], none⟩,
      ⟨(some 27), .fadr 8 (.t 3), none⟩,
      ⟨none, .store 1 (.t 27) (.t 26), none⟩],
   .seq 15 16,
   .reg [⟨(some 29), .bin .eql (.t 14) (.c (.str [104, 111, 109, 101])), none⟩,
      ⟨(some 28), .mv (.t 29), none⟩],
   .cond (.t 28) 17 18,
   .reg [⟨(some 30), .fadr 8 (.t 3), none⟩,
      ⟨none, .store 1 (.t 30) (.c (.int .i64 (-1))), none⟩],
   .seq 19 24,
   .seq 20 21,
   .reg [⟨(some 15), .fadr 6 (.t 3), none⟩,
      ⟨(some 16), .load none (.t 15), none⟩,
      ⟨(some 17), .bin .geq (.t 16) (.c (.int .i64 15)), none⟩],
   .cond (.t 17) 22 23,
   .reg [⟨(some 18), .mv (.t 0), none⟩,
      ⟨(some 19), .call (.c (.fn (.func 63) [] [])) [(.t 18), (.c (.int .i64 4))], none⟩],
   .skip,
   .reg [⟨(some 20), .mv (.t 0), none⟩,
      ⟨(some 21), .call (.c (.fn (.func 112) [] [])) [(.t 20)], none⟩,
      ⟨(some 22), .fadr 7 (.t 3), none⟩,
      ⟨none, .store 1 (.t 22) (.t 21), none⟩],
   .seq 26 27,
   .reg [⟨(some 31), .mv (.t 0), none⟩,
      ⟨(some 32), .call (.c (.fn (.func 113) [] [])) [(.t 31)], none⟩,
      ⟨(some 33), .fadr 9 (.t 3), none⟩,
      ⟨none, .store 1 (.t 33) (.t 32), none⟩],
   .seq 28 29,
   .reg [⟨(some 34), .load (some 19) (.t 3), none⟩,
      ⟨none, .store 19 (.t 2) (.t 34), none⟩],
   .ret]⟩

/-- (*luminaire/grammar.reader).verbs -/
def F65 : FT := ⟨41, 1, [.tmp 2],
  [.seq 1 2,
   .reg [⟨(some 2), .mv (.c .nilm), none⟩],
   .seq 3 4,
   .reg [⟨(some 5), .act .mkmap [], none⟩,
      ⟨(some 6), .mv (.t 0), none⟩,
      ⟨(some 7), .mkfn (.func 114) [(.t 6)] [], none⟩,
      ⟨none, .act (.mset .s) [(.t 5), (.c (.str [99, 108, 101, 97, 114])), (.t 7)], none⟩,
      ⟨(some 8), .mv (.t 0), none⟩,
      ⟨(some 9), .mkfn (.func 115) [(.t 8)] [], none⟩,
      ⟨none, .act (.mset .s) [(.t 5), (.c (.str [114, 101, 99, 111, 114, 100])), (.t 9)], none⟩,
      ⟨(some 10), .mv (.t 0), none⟩,
      ⟨(some 11), .mkfn (.func 116) [(.t 10)] [], none⟩,
      ⟨none, .act (.mset .s) [(.t 5), (.c (.str [117, 112, 100, 97, 116, 101])), (.t 11)], none⟩,
      ⟨(some 12), .mv (.t 0), none⟩,
      ⟨(some 13), .mkfn (.func 117) [(.t 12)] [], none⟩,
      ⟨none, .act (.mset .s) [(.t 5), (.c (.str [100, 101, 108, 101, 116, 101])), (.t 13)], none⟩,
      ⟨(some 14), .mv (.t 0), none⟩,
      ⟨(some 15), .mkfn (.func 118) [(.t 14)] [], none⟩,
      ⟨none, .act (.mset .s) [(.t 5), (.c (.str [112, 97, 116, 99, 104])), (.t 15)], none⟩,
      ⟨(some 16), .mv (.t 0), none⟩,
      ⟨(some 17), .mkfn (.func 119) [(.t 16)] [], none⟩,
      ⟨none, .act (.mset .s) [(.t 5), (.c (.str [98, 108, 97, 99, 107, 111, 117, 116])), (.t 17)], none⟩,
      ⟨(some 18), .mv (.t 5), none⟩,
      ⟨(some 3), .alloc 116 [.nilm], none⟩,
      ⟨none, .store 1 (.t 3) (.t 18), none⟩],
   .seq 5 6,
   .reg [⟨(some 19), .mkfn (.func 120) [] [(.t 3)], none⟩,
      ⟨(some 4), .mv (.t 19), none⟩],
   .seq 7 8,
   .reg [⟨(some 20), .mv (.t 4), none⟩,
      ⟨(some 21), .mv (.t 0), none⟩,
      ⟨(some 22), .mkfn (.func 121) [(.t 21)] [], none⟩,
      ⟨(some 23), .bslice 9 1 [(.c (.str [103, 111])), (.c (.str [98, 97, 99, 107])), (.c (.str [112, 97, 117, 115, 101])), (.c (.str [114, 101, 115, 117, 109, 101])), (.c (.str [114, 101, 118, 101, 114, 115, 101])), (.c (.str [103, 111, 116, 111])), (.c (.str [114, 97, 116, 101])), (.c (.str [114, 101, 108, 101, 97, 115, 101]))], none⟩,
      ⟨(some 24), .call (.t 20) [(.t 22), (.t 23)], none⟩],
   .seq 9 10,
   .reg [⟨(some 25), .mv (.t 4), none⟩,
      ⟨(some 26), .mv (.t 0), none⟩,
      ⟨(some 27), .mkfn (.func 122) [(.t 26)] [], none⟩,
      ⟨(some 28), .bslice 9 1 [(.c (.str [108, 105, 115, 116])), (.c (.str [115, 117, 98])), (.c (.str [109, 97, 115, 116, 101, 114]))], none⟩,
      ⟨(some 29), .call (.t 25) [(.t 27), (.t 28)], none⟩],
   .seq 11 12,
   .reg [⟨(some 30), .mv (.t 4), none⟩,
      ⟨(some 31), .mv (.t 0), none⟩,
      ⟨(some 32), .mkfn (.func 123) [(.t 31)] [], none⟩,
      ⟨(some 33), .bslice 9 1 [(.c (.str [101, 102, 102, 101, 99, 116])), (.c (.str [115, 116, 111, 112]))], none⟩,
      ⟨(some 34), .call (.t 30) [(.t 32), (.t 33)], none⟩],
   .seq 13 14,
   .reg [⟨(some 35), .mv (.t 4), none⟩,
      ⟨(some 36), .mv (.t 0), none⟩,
      ⟨(some 37), .mkfn (.func 124) [(.t 36)] [], none⟩,
      ⟨(some 38), .bslice 9 1 [(.c (.str [117, 110, 100, 111])), (.c (.str [114, 101, 100, 111]))], none⟩,
      ⟨(some 39), .call (.t 35) [(.t 37), (.t 38)], none⟩],
   .seq 15 16,
   .reg [⟨(some 40), .load none (.t 3), none⟩,
      ⟨(some 2), .mv (.t 40), none⟩],
   .ret]⟩

/-- (*luminaire/grammar.reader).pass -/
def F66 : FT := ⟨19, 1, [.cell 2 (some 3)],
  [.seq 1 2,
   .reg [⟨(some 2), .alloc 111 [(.int .i64 0), (.str []), (.int .i64 0)], none⟩],
   .seq 3 4,
   .reg [⟨(some 4), .mv (.t 0), none⟩,
      ⟨(some 5), .nilc (.t 4), none⟩,
      ⟨(some 6), .fadr 0 (.t 5), none⟩,
      ⟨(some 7), .load none (.t 6), none⟩,
      ⟨(some 8), .iadr 3 (.t 7) (.c (.int .i64 0)), none⟩,
      ⟨(some 9), .load (some 3) (.t 8), none⟩,
      ⟨(some 3), .alloc 111 [(.int .i64 0), (.str []), (.int .i64 0)], none⟩,
      ⟨none, .store 3 (.t 3) (.t 9), none⟩],
   .seq 5 6,
   .reg [⟨(some 10), .mv (.t 0), none⟩,
      ⟨(some 11), .mv (.t 0), none⟩,
      ⟨(some 12), .nilc (.t 11), none⟩,
      ⟨(some 13), .fadr 0 (.t 12), none⟩,
      ⟨(some 14), .load none (.t 13), none⟩,
      ⟨(some 15), .slice 3 (.t 14) (some (.c (.int .i64 1))) none none, none⟩,
      ⟨(some 16), .nilc (.t 10), none⟩,
      ⟨(some 17), .fadr 0 (.t 16), none⟩,
      ⟨none, .store 1 (.t 17) (.t 15), none⟩],
   .seq 7 8,
   .reg [⟨(some 18), .load (some 3) (.t 3), none⟩,
      ⟨none, .store 3 (.t 2) (.t 18), none⟩],
   .ret]⟩

/-- (*luminaire/grammar.reader).term -/
def F90 : FT := ⟨38, 2, [.cell 4 (some 4)],
  [.seq 1 2,
   .reg [⟨(some 4), .alloc 43 [(.int .i64 0), (.int .i64 0), (.int .i64 0), (.int .i64 0)], none⟩],
   .seq 3 10,
   .seq 4 5,
   .reg [⟨(some 8), .mv (.t 0), none⟩,
      ⟨(some 9), .bslice 9 1 [(.c (.str [103, 114, 111, 117, 112]))], none⟩,
      ⟨(some 10), .call (.c (.fn (.func 110) [] [])) [(.t 8), (.t 9)], none⟩,
      ⟨(some 11), .bin .neq (.t 10) (.c (.str [])), none⟩],
   .cond (.t 11) 6 9,
   .seq 7 8,
   .reg [⟨(some 12), .mv (.t 1), none⟩,
      ⟨(some 13), .mv (.t 0), none⟩,
      ⟨(some 14), .call (.c (.fn (.func 141) [] [])) [(.t 13), (.c (.int .i64 1048576))], none⟩,
      ⟨(some 15), .build [(.int .i64 0), (.int .i64 0), (.int .i64 0), (.int .i64 0)] [(0, 1, (.t 12)), (1, 1, (.t 14))], none⟩,
      ⟨none, .store 4 (.t 4) (.t 15), none⟩],
   .ret,
   .skip,
   .seq 11 12,
   .reg [⟨(some 16), .mv (.t 0), none⟩,
      ⟨(some 17), .call (.c (.fn (.func 141) [] [])) [(.t 16), (.c (.int .i64 999))], none⟩,
      ⟨(some 5), .mv (.t 17), none⟩],
   .seq 13 14,
   .reg [⟨(some 18), .mv (.t 5), none⟩,
      ⟨(some 6), .mv (.t 18), none⟩],
   .seq 15 28,
   .seq 16 17,
   .reg [⟨(some 19), .mv (.t 0), none⟩,
      ⟨(some 20), .bslice 9 1 [(.c (.str [116, 104, 114, 117]))], none⟩,
      ⟨(some 21), .call (.c (.fn (.func 110) [] [])) [(.t 19), (.t 20)], none⟩,
      ⟨(some 22), .bin .neq (.t 21) (.c (.str [])), none⟩],
   .cond (.t 22) 18 27,
   .seq 19 20,
   .reg [⟨(some 23), .mv (.t 0), none⟩,
      ⟨(some 24), .call (.c (.fn (.func 62) [] [])) [(.t 23)], none⟩,
      ⟨(some 25), .fld none 2 (.t 24), none⟩,
      ⟨(some 7), .mv (.t 25), none⟩],
   .seq 21 22,
   .reg [⟨(some 26), .mv (.t 0), none⟩,
      ⟨(some 27), .call (.c (.fn (.func 141) [] [])) [(.t 26), (.c (.int .i64 999))], none⟩,
      ⟨(some 6), .mv (.t 27), none⟩],
   .seq 23 24,
   .reg [⟨(some 28), .mv (.t 6), none⟩,
      ⟨(some 29), .mv (.t 5), none⟩,
      ⟨(some 30), .bin .lss (.t 28) (.t 29), none⟩],
   .cond (.t 30) 25 26,
   .reg [⟨(some 31), .mv (.t 7), none⟩,
      ⟨(some 32), .build [(.int .i64 0), (.int .i64 0)] [(0, 1, (.t 31)), (1, 1, (.c (.int .i64 9)))], none⟩,
      ⟨(some 33), .mkif 106 (.t 32), none⟩,
      ⟨none, .panic (.t 33), none⟩],
   .skip,
   .skip,
   .seq 29 30,
   .reg [⟨(some 34), .mv (.t 1), none⟩,
      ⟨(some 35), .mv (.t 5), none⟩,
      ⟨(some 36), .mv (.t 6), none⟩,
      ⟨(some 37), .build [(.int .i64 0), (.int .i64 0), (.int .i64 0), (.int .i64 0)] [(0, 1, (.t 34)), (2, 1, (.t 35)), (3, 1, (.t 36))], none⟩,
      ⟨none, .store 4 (.t 4) (.t 37), none⟩],
   .ret]⟩

/-- (*luminaire/grammar.reader).sign -/
def F91 : FT := ⟨13, 2, [.tmp 4],
  [.seq 1 2,
   .reg [⟨(some 4), .mv (.c (.bool false)), none⟩],
   .seq 3 4,
   .reg [⟨(some 6), .mv (.t 0), none⟩,
      ⟨(some 7), .mv (.t 1), none⟩,
      ⟨(some 8), .call (.c (.fn (.func 142) [] [])) [(.t 6), (.c (.int .i64 2)), (.t 7)], none⟩,
      ⟨(some 5), .mv (.t 8), none⟩],
   .seq 5 10,
   .seq 6 7,
   .reg [⟨(some 9), .mv (.t 5), none⟩],
   .cond (.t 9) 8 9,
   .reg [⟨(some 10), .mv (.t 0), none⟩,
      ⟨(some 11), .call (.c (.fn (.func 66) [] [])) [(.t 10)], none⟩],
   .skip,
   .seq 11 12,
   .reg [⟨(some 12), .mv (.t 5), none⟩,
      ⟨(some 4), .mv (.t 12), none⟩],
   .ret]⟩

/-- (*luminaire/grammar.reader).kind -/
def F108 : FT := ⟨25, 2, [.tmp 4],
  [.seq 1 2,
   .reg [⟨(some 4), .mv (.c (.int .i64 0)), none⟩],
   .seq 3 10,
   .seq 4 5,
   .reg [⟨(some 7), .mv (.t 0), none⟩,
      ⟨(some 8), .call (.c (.fn (.func 62) [] [])) [(.t 7)], none⟩,
      ⟨(some 9), .fld none 0 (.t 8), none⟩,
      ⟨(some 10), .bin .neq (.t 9) (.c (.int .i64 0)), none⟩],
   .cond (.t 10) 6 9,
   .seq 7 8,
   .reg [⟨(some 11), .mv (.t 1), none⟩,
      ⟨(some 4), .mv (.t 11), none⟩],
   .ret,
   .skip,
   .seq 11 12,
   .reg [⟨(some 13), .mv (.t 0), none⟩,
      ⟨(some 14), .call (.c (.fn (.func 62) [] [])) [(.t 13)], none⟩,
      ⟨(some 15), .fld none 1 (.t 14), none⟩,
      ⟨(some 16), .call (.c (.fn (.func 13) [] [])) [(.t 15)], none⟩,
      ⟨(some 12), .mv (.t 16), none⟩,
      ⟨(some 17), .ext 0 (.t 12), none⟩,
      ⟨(some 18), .ext 1 (.t 12), none⟩,
      ⟨(some 5), .mv (.t 17), none⟩,
      ⟨(some 6), .mv (.t 18), none⟩],
   .seq 13 20,
   .seq 14 15,
   .reg [⟨(some 19), .mv (.t 6), none⟩,
      ⟨(some 20), .bin .neq (.t 19) (.c (.int .i64 0)), none⟩],
   .cond (.t 20) 16 19,
   .seq 17 18,
   .reg [⟨(some 21), .mv (.t 1), none⟩,
      ⟨(some 4), .mv (.t 21), none⟩],
   .ret,
   .skip,
   .seq 21 22,
   .reg [⟨(some 22), .mv (.t 0), none⟩,
      ⟨(some 23), .call (.c (.fn (.func 66) [] [])) [(.t 22)], none⟩],
   .seq 23 24,
   .reg [⟨(some 24), .mv (.t 5), none⟩,
      ⟨(some 4), .mv (.t 24), none⟩],
   .ret]⟩

/-- (*luminaire/grammar.reader).need -/
def F109 : FT := ⟨14, 2, [.tmp 4],
  [.seq 1 2,
   .reg [⟨(some 4), .mv (.c (.str [])), none⟩],
   .seq 3 4,
   .reg [⟨(some 6), .mv (.t 0), none⟩,
      ⟨(some 7), .mv (.t 1), none⟩,
      ⟨(some 8), .call (.c (.fn (.func 110) [] [])) [(.t 6), (.t 7)], none⟩,
      ⟨(some 5), .mv (.t 8), none⟩],
   .seq 5 10,
   .seq 6 7,
   .reg [⟨(some 9), .mv (.t 5), none⟩,
      ⟨(some 10), .bin .eql (.t 9) (.c (.str [])), none⟩],
   .cond (.t 10) 8 9,
   .reg [⟨(some 11), .mv (.t 0), none⟩,
      ⟨(some 12), .call (.c (.fn (.func 63) [] [])) [(.t 11), (.c (.int .i64 4))], none⟩],
   .skip,
   .seq 11 12,
   .reg [⟨(some 13), .mv (.t 5), none⟩,
      ⟨(some 4), .mv (.t 13), none⟩],
   .ret]⟩

/-- (*luminaire/grammar.reader).word -/
def F110 : FT := ⟨20, 2, [.tmp 4],
  [.seq 1 2,
   .reg [⟨(some 4), .mv (.c (.str [])), none⟩],
   .seq 3 27,
   .seq 4 5,
   .reg [⟨(some 7), .mv (.t 1), none⟩,
      ⟨(some 8), .len (.t 7), none⟩,
      ⟨(some 9), .mv (.c (.int .i64 0)), none⟩],
   .block 0 6,
   .loop 7,
   .seq 8 9,
   .reg [⟨(some 10), .bin .lss (.t 9) (.t 8), none⟩],
   .seq 10 13,
   .cond (.t 10) 11 12,
   .skip,
   .exit 0,
   .seq 14 26,
   .block 1 15,
   .seq 16 17,
   .reg [⟨(some 11), .iadr 1 (.t 7) (.t 9), none⟩,
      ⟨(some 12), .load none (.t 11), none⟩,
      ⟨(some 6), .mv (.t 12), none⟩],
   .seq 18 19,
   .reg [⟨(some 13), .mv (.t 0), none⟩,
      ⟨(some 14), .mv (.t 6), none⟩,
      ⟨(some 15), .call (.c (.fn (.func 142) [] [])) [(.t 13), (.c (.int .i64 0)), (.t 14)], none⟩],
   .cond (.t 15) 20 25,
   .seq 21 22,
   .reg [⟨(some 16), .mv (.t 0), none⟩,
      ⟨(some 17), .call (.c (.fn (.func 66) [] [])) [(.t 16)], none⟩],
   .seq 23 24,
   .reg [⟨(some 18), .mv (.t 6), none⟩,
      ⟨(some 4), .mv (.t 18), none⟩],
   .ret,
   .skip,
   .reg [⟨(some 19), .bin .add (.t 9) (.c (.int .i64 1)), none⟩,
      ⟨(some 9), .mv (.t 19), none⟩],
   .seq 28 29,
   .reg [⟨(some 4), .mv (.c (.str [])), none⟩],
   .ret]⟩

/-- (*luminaire/grammar.reader).list -/
def F111 : FT := ⟨5, 1, [.tmp 2],
  [.seq 1 2,
   .reg [⟨(some 2), .mv (.c (.int .i64 0)), none⟩],
   .seq 3 4,
   .reg [⟨(some 3), .mv (.t 0), none⟩,
      ⟨(some 4), .call (.c (.fn (.func 141) [] [])) [(.t 3), (.c (.int .i64 1048576))], none⟩,
      ⟨(some 2), .mv (.t 4), none⟩],
   .ret]⟩

/-- (*luminaire/grammar.reader).level -/
def F112 : FT := ⟨23, 1, [.tmp 2],
  [.seq 1 2,
   .reg [⟨(some 2), .mv (.c (.int .i64 0)), none⟩],
   .seq 3 8,
   .seq 4 5,
   .reg [⟨(some 5), .mv (.t 0), none⟩,
      ⟨(some 6), .call (.c (.fn (.func 142) [] [])) [(.t 5), (.c (.int .i64 0)), (.c (.str [102, 117, 108, 108]))], none⟩,
      ⟨(some 7), .un .not (.t 6), none⟩],
   .cond (.t 7) 6 7,
   .reg [⟨(some 8), .mv (.t 0), none⟩,
      ⟨(some 9), .call (.c (.fn (.func 168) [] [])) [(.t 8)], none⟩],
   .skip,
   .seq 9 10,
   .reg [⟨(some 11), .mv (.t 0), none⟩,
      ⟨(some 12), .call (.c (.fn (.func 62) [] [])) [(.t 11)], none⟩,
      ⟨(some 13), .fld none 1 (.t 12), none⟩,
      ⟨(some 14), .call (.c (.fn (.func 169) [] [])) [(.t 13)], none⟩,
      ⟨(some 10), .mv (.t 14), none⟩,
      ⟨(some 15), .ext 0 (.t 10), none⟩,
      ⟨(some 16), .ext 1 (.t 10), none⟩,
      ⟨(some 3), .mv (.t 15), none⟩,
      ⟨(some 4), .mv (.t 16), none⟩],
   .seq 11 12,
   .reg [⟨(some 17), .mv (.t 0), none⟩,
      ⟨(some 18), .mv (.t 4), none⟩,
      ⟨(some 19), .call (.c (.fn (.func 170) [] [])) [(.t 17), (.t 18)], none⟩],
   .seq 13 14,
   .reg [⟨(some 20), .mv (.t 0), none⟩,
      ⟨(some 21), .call (.c (.fn (.func 66) [] [])) [(.t 20)], none⟩],
   .seq 15 16,
   .reg [⟨(some 22), .mv (.t 3), none⟩,
      ⟨(some 2), .mv (.t 22), none⟩],
   .ret]⟩

/-- (*luminaire/grammar.reader).time -/
def F113 : FT := ⟨21, 1, [.tmp 2],
  [.seq 1 2,
   .reg [⟨(some 2), .mv (.c (.int .i64 0)), none⟩],
   .seq 3 10,
   .seq 4 5,
   .reg [⟨(some 5), .mv (.t 0), none⟩,
      ⟨(some 6), .bslice 9 1 [(.c (.str [116, 105, 109, 101]))], none⟩,
      ⟨(some 7), .call (.c (.fn (.func 110) [] [])) [(.t 5), (.t 6)], none⟩,
      ⟨(some 8), .bin .eql (.t 7) (.c (.str [])), none⟩],
   .cond (.t 8) 6 9,
   .seq 7 8,
   .reg [⟨(some 2), .mv (.c (.int .i64 (-1))), none⟩],
   .ret,
   .skip,
   .seq 11 12,
   .reg [⟨(some 10), .mv (.t 0), none⟩,
      ⟨(some 11), .call (.c (.fn (.func 168) [] [])) [(.t 10)], none⟩,
      ⟨(some 12), .call (.c (.fn (.func 15) [] [])) [(.t 11)], none⟩,
      ⟨(some 9), .mv (.t 12), none⟩,
      ⟨(some 13), .ext 0 (.t 9), none⟩,
      ⟨(some 14), .ext 1 (.t 9), none⟩,
      ⟨(some 3), .mv (.t 13), none⟩,
      ⟨(some 4), .mv (.t 14), none⟩],
   .seq 13 14,
   .reg [⟨(some 15), .mv (.t 0), none⟩,
      ⟨(some 16), .mv (.t 4), none⟩,
      ⟨(some 17), .call (.c (.fn (.func 170) [] [])) [(.t 15), (.t 16)], none⟩],
   .seq 15 16,
   .reg [⟨(some 18), .mv (.t 0), none⟩,
      ⟨(some 19), .call (.c (.fn (.func 66) [] [])) [(.t 18)], none⟩],
   .seq 17 18,
   .reg [⟨(some 20), .mv (.t 3), none⟩,
      ⟨(some 2), .mv (.t 20), none⟩],
   .ret]⟩

/-- (*luminaire/grammar.reader).clear -/
def F114 : FT := ⟨18, 2, [.cell 4 (some 19)],
  [.seq 1 2,
   .reg [⟨(some 4), .alloc 28 [(.int .i64 0), (.str []), (.str []), (.str []), (.int .i64 0), .nils, (.int .i64 0), (.int .i64 0), (.int .i64 0), (.int .i64 0), (.int .i64 0), (.int .i64 0), (.int .i64 0), (.str []), (.int .i64 0), (.int .i64 0), (.int .i64 0), (.str []), .nils], none⟩],
   .seq 3 4,
   .reg [⟨(some 6), .build [(.int .i64 0), (.str []), (.str []), (.str []), (.int .i64 0), .nils, (.int .i64 0), (.int .i64 0), (.int .i64 0), (.int .i64 0), (.int .i64 0), (.int .i64 0), (.int .i64 0), (.str []), (.int .i64 0), (.int .i64 0), (.int .i64 0), (.str []), .nils] [(0, 1, (.c (.int .i64 1))), (1, 1, (.c (.str [99, 108, 101, 97, 114]))), (6, 1, (.c (.int .i64 (-1))))], none⟩,
      ⟨(some 5), .alloc 28 [(.int .i64 0), (.str []), (.str []), (.str []), (.int .i64 0), .nils, (.int .i64 0), (.int .i64 0), (.int .i64 0), (.int .i64 0), (.int .i64 0), (.int .i64 0), (.int .i64 0), (.str []), (.int .i64 0), (.int .i64 0), (.int .i64 0), (.str []), .nils], none⟩,
      ⟨none, .store 19 (.t 5) (.t 6), none⟩],
   .seq 5 12,
   .seq 6 7,
   .reg [⟨(some 7), .mv (.t 0), none⟩,
      ⟨(some 8), .call (.c (.fn (.func 62) [] [])) [(.t 7)], none⟩,
      ⟨(some 9), .fld none 0 (.t 8), none⟩,
      ⟨(some 10), .bin .neq (.t 9) (.c (.int .i64 3)), none⟩],
   .cond (.t 10) 8 11,
   .seq 9 10,
   .reg [⟨(some 11), .mv (.t 0), none⟩,
      ⟨(some 12), .call (.c (.fn (.func 45) [] [])) [(.t 11)], none⟩,
      ⟨(some 13), .fadr 5 (.t 5), none⟩,
      ⟨none, .store 1 (.t 13) (.t 12), none⟩],
   .reg [⟨(some 14), .mv (.t 0), none⟩,
      ⟨(some 15), .call (.c (.fn (.func 108) [] [])) [(.t 14), (.c (.int .i64 (-1)))], none⟩,
      ⟨(some 16), .fadr 6 (.t 5), none⟩,
      ⟨none, .store 1 (.t 16) (.t 15), none⟩],
   .skip,
   .seq 13 14,
   .reg [⟨(some 17), .load (some 19) (.t 5), none⟩,
      ⟨none, .store 19 (.t 4) (.t 17), none⟩],
   .ret]⟩

/-- (*luminaire/grammar.reader).record -/
def F115 : FT := ⟨42, 2, [.cell 4 (some 19)],
  [.seq 1 2,
   .reg [⟨(some 4), .alloc 28 [(.int .i64 0), (.str []), (.str []), (.str []), (.int .i64 0), .nils, (.int .i64 0), (.int .i64 0), (.int .i64 0), (.int .i64 0), (.int .i64 0), (.int .i64 0), (.int .i64 0), (.str []), (.int .i64 0), (.int .i64 0), (.int .i64 0), (.str []), .nils], none⟩],
   .seq 3 4,
   .reg [⟨(some 6), .mv (.t 0), none⟩,
      ⟨(some 7), .bslice 9 1 [(.c (.str [99, 117, 101])), (.c (.str [112, 97, 108, 101, 116, 116, 101])), (.c (.str [115, 117, 98])), (.c (.str [103, 114, 111, 117, 112]))], none⟩,
      ⟨(some 8), .call (.c (.fn (.func 109) [] [])) [(.t 6), (.t 7)], none⟩,
      ⟨(some 9), .build [(.int .i64 0), (.str []), (.str []), (.str []), (.int .i64 0), .nils, (.int .i64 0), (.int .i64 0), (.int .i64 0), (.int .i64 0), (.int .i64 0), (.int .i64 0), (.int .i64 0), (.str []), (.int .i64 0), (.int .i64 0), (.int .i64 0), (.str []), .nils] [(0, 1, (.c (.int .i64 2))), (1, 1, (.c (.str [114, 101, 99, 111, 114, 100]))), (2, 1, (.t 8))], none⟩,
      ⟨(some 5), .alloc 28 [(.int .i64 0), (.str []), (.str []), (.str []), (.int .i64 0), .nils, (.int .i64 0), (.int .i64 0), (.int .i64 0), (.int .i64 0), (.int .i64 0), (.int .i64 0), (.int .i64 0), (.str []), (.int .i64 0), (.int .i64 0), (.int .i64 0), (.str []), .nils], none⟩,
      ⟨none, .store 19 (.t 5) (.t 9), none⟩],
   .seq 5 20,
   .seq 6 7,
   .reg [⟨(some 10), .fadr 2 (.t 5), none⟩,
      ⟨(some 11), .load none (.t 10), none⟩,
      ⟨(some 12), .bin .neq (.t 11) (.c (.str [99, 117, 101])), none⟩],
   .cond (.t 12) 8 19,
   .seq 9 10,
   .reg [⟨(some 13), .mv (.t 0), none⟩,
      ⟨(some 14), .call (.c (.fn (.func 111) [] [])) [(.t 13)], none⟩,
      ⟨(some 15), .fadr 4 (.t 5), none⟩,
      ⟨none, .store 1 (.t 15) (.t 14), none⟩],
   .seq 11 16,
   .seq 12 13,
   .reg [⟨(some 16), .fadr 2 (.t 5), none⟩,
      ⟨(some 17), .load none (.t 16), none⟩,
      ⟨(some 18), .bin .eql (.t 17) (.c (.str [103, 114, 111, 117, 112])), none⟩],
   .cond (.t 18) 14 15,
   .reg [⟨(some 19), .mv (.t 0), none⟩,
      ⟨(some 20), .call (.c (.fn (.func 45) [] [])) [(.t 19)], none⟩,
      ⟨(some 21), .fadr 5 (.t 5), none⟩,
      ⟨none, .store 1 (.t 21) (.t 20), none⟩],
   .skip,
   .seq 17 18,
   .reg [⟨(some 22), .load (some 19) (.t 5), none⟩,
      ⟨none, .store 19 (.t 4) (.t 22), none⟩],
   .ret,
   .skip,
   .seq 21 22,
   .reg [⟨(some 23), .mv (.t 0), none⟩,
      ⟨(some 24), .call (.c (.fn (.func 171) [] [])) [(.t 23), (.t 5)], none⟩],
   .seq 23 28,
   .seq 24 25,
   .reg [⟨(some 25), .mv (.t 0), none⟩,
      ⟨(some 26), .bslice 9 1 [(.c (.str [111, 110, 108, 121]))], none⟩,
      ⟨(some 27), .call (.c (.fn (.func 110) [] [])) [(.t 25), (.t 26)], none⟩,
      ⟨(some 28), .bin .neq (.t 27) (.c (.str [])), none⟩],
   .cond (.t 28) 26 27,
   .reg [⟨(some 29), .fadr 10 (.t 5), none⟩,
      ⟨none, .store 1 (.t 29) (.c (.int .i64 1)), none⟩],
   .skip,
   .seq 29 30,
   .reg [⟨(some 30), .fadr 7 (.t 5), none⟩,
      ⟨none, .store 1 (.t 30) (.c (.int .i64 1)), none⟩],
   .seq 31 36,
   .seq 32 33,
   .reg [⟨(some 31), .mv (.t 0), none⟩,
      ⟨(some 32), .bslice 9 1 [(.c (.str [112, 97, 114, 116]))], none⟩,
      ⟨(some 33), .call (.c (.fn (.func 110) [] [])) [(.t 31), (.t 32)], none⟩,
      ⟨(some 34), .bin .neq (.t 33) (.c (.str [])), none⟩],
   .cond (.t 34) 34 35,
   .reg [⟨(some 35), .mv (.t 0), none⟩,
      ⟨(some 36), .call (.c (.fn (.func 141) [] [])) [(.t 35), (.c (.int .i64 4))], none⟩,
      ⟨(some 37), .fadr 7 (.t 5), none⟩,
      ⟨none, .store 1 (.t 37) (.t 36), none⟩],
   .skip,
   .seq 37 38,
   .reg [⟨(some 38), .mv (.t 0), none⟩,
      ⟨(some 39), .call (.c (.fn (.func 113) [] [])) [(.t 38)], none⟩,
      ⟨(some 40), .fadr 9 (.t 5), none⟩,
      ⟨none, .store 1 (.t 40) (.t 39), none⟩],
   .seq 39 40,
   .reg [⟨(some 41), .load (some 19) (.t 5), none⟩,
      ⟨none, .store 19 (.t 4) (.t 41), none⟩],
   .ret]⟩

/-- (*luminaire/grammar.reader).update -/
def F116 : FT := ⟨13, 2, [.cell 4 (some 19)],
  [.seq 1 2,
   .reg [⟨(some 4), .alloc 28 [(.int .i64 0), (.str []), (.str []), (.str []), (.int .i64 0), .nils, (.int .i64 0), (.int .i64 0), (.int .i64 0), (.int .i64 0), (.int .i64 0), (.int .i64 0), (.int .i64 0), (.str []), (.int .i64 0), (.int .i64 0), (.int .i64 0), (.str []), .nils], none⟩],
   .seq 3 4,
   .reg [⟨(some 6), .mv (.t 0), none⟩,
      ⟨(some 7), .bslice 9 1 [(.c (.str [99, 117, 101]))], none⟩,
      ⟨(some 8), .call (.c (.fn (.func 109) [] [])) [(.t 6), (.t 7)], none⟩,
      ⟨(some 9), .build [(.int .i64 0), (.str []), (.str []), (.str []), (.int .i64 0), .nils, (.int .i64 0), (.int .i64 0), (.int .i64 0), (.int .i64 0), (.int .i64 0), (.int .i64 0), (.int .i64 0), (.str []), (.int .i64 0), (.int .i64 0), (.int .i64 0), (.str []), .nils] [(0, 1, (.c (.int .i64 3))), (1, 1, (.c (.str [117, 112, 100, 97, 116, 101]))), (2, 1, (.t 8))], none⟩,
      ⟨(some 5), .alloc 28 [(.int .i64 0), (.str []), (.str []), (.str []), (.int .i64 0), .nils, (.int .i64 0), (.int .i64 0), (.int .i64 0), (.int .i64 0), (.int .i64 0), (.int .i64 0), (.int .i64 0), (.str []), (.int .i64 0), (.int .i64 0), (.int .i64 0), (.str []), .nils], none⟩,
      ⟨none, .store 19 (.t 5) (.t 9), none⟩],
   .seq 5 6,
   .reg [⟨(some 10), .mv (.t 0), none⟩,
      ⟨(some 11), .call (.c (.fn (.func 171) [] [])) [(.t 10), (.t 5)], none⟩],
   .seq 7 8,
   .reg [⟨(some 12), .load (some 19) (.t 5), none⟩,
      ⟨none, .store 19 (.t 4) (.t 12), none⟩],
   .ret]⟩

/-- (*luminaire/grammar.reader).remove -/
def F117 : FT := ⟨30, 2, [.cell 4 (some 19)],
  [.seq 1 2,
   .reg [⟨(some 4), .alloc 28 [(.int .i64 0), (.str []), (.str []), (.str []), (.int .i64 0), .nils, (.int .i64 0), (.int .i64 0), (.int .i64 0), (.int .i64 0), (.int .i64 0), (.int .i64 0), (.int .i64 0), (.str []), (.int .i64 0), (.int .i64 0), (.int .i64 0), (.str []), .nils], none⟩],
   .seq 3 4,
   .reg [⟨(some 6), .mv (.t 0), none⟩,
      ⟨(some 7), .bslice 9 1 [(.c (.str [99, 117, 101])), (.c (.str [112, 97, 108, 101, 116, 116, 101])), (.c (.str [103, 114, 111, 117, 112])), (.c (.str [115, 117, 98])), (.c (.str [101, 102, 102, 101, 99, 116])), (.c (.str [102, 105, 120, 116, 117, 114, 101]))], none⟩,
      ⟨(some 8), .call (.c (.fn (.func 109) [] [])) [(.t 6), (.t 7)], none⟩,
      ⟨(some 9), .build [(.int .i64 0), (.str []), (.str []), (.str []), (.int .i64 0), .nils, (.int .i64 0), (.int .i64 0), (.int .i64 0), (.int .i64 0), (.int .i64 0), (.int .i64 0), (.int .i64 0), (.str []), (.int .i64 0), (.int .i64 0), (.int .i64 0), (.str []), .nils] [(0, 1, (.c (.int .i64 4))), (1, 1, (.c (.str [100, 101, 108, 101, 116, 101]))), (2, 1, (.t 8))], none⟩,
      ⟨(some 5), .alloc 28 [(.int .i64 0), (.str []), (.str []), (.str []), (.int .i64 0), .nils, (.int .i64 0), (.int .i64 0), (.int .i64 0), (.int .i64 0), (.int .i64 0), (.int .i64 0), (.int .i64 0), (.str []), (.int .i64 0), (.int .i64 0), (.int .i64 0), (.str []), .nils], none⟩,
      ⟨none, .store 19 (.t 5) (.t 9), none⟩],
   .seq 5 23,
   .seq 6 7,
   .reg [⟨(some 10), .fadr 2 (.t 5), none⟩,
      ⟨(some 11), .load none (.t 10), none⟩],
   .block 0 8,
   .seq 9 10,
   .reg [⟨(some 16), .bin .eql (.t 11) (.c (.str [99, 117, 101])), none⟩,
      ⟨(some 15), .mv (.t 16), none⟩],
   .cond (.t 15) 11 18,
   .seq 12 13,
   .reg [⟨(some 17), .mv (.t 0), none⟩,
      ⟨(some 18), .call (.c (.fn (.func 171) [] [])) [(.t 17), (.t 5)], none⟩],
   .seq 14 15,
   .reg [⟨(some 19), .mv (.t 0), none⟩,
      ⟨(some 20), .bslice 9 1 [(.c (.str [107, 101, 101, 112]))], none⟩,
      ⟨(some 21), .call (.c (.fn (.func 110) [] [])) [(.t 19), (.t 20)], none⟩,
      ⟨(some 22), .bin .neq (.t 21) (.c (.str [])), none⟩],
   .cond (.t 22) 16 17,
   .reg [⟨(some 23), .fadr 10 (.t 5), none⟩,
      ⟨none, .store 1 (.t 23) (.c (.int .i64 2)), none⟩],
   .skip,
   .seq 19 20,
   .reg [⟨(some 25), .bin .eql (.t 11) (.c (.str [102, 105, 120, 116, 117, 114, 101])), none⟩,
      ⟨(some 24), .mv (.t 25), none⟩],
   .cond (.t 24) 21 22,
   .reg [⟨(some 26), .mv (.t 0), none⟩,
      ⟨(some 27), .call (.c (.fn (.func 172) [] [])) [(.t 26)], none⟩,
      ⟨(some 28), .fadr 11 (.t 5), none⟩,
      ⟨none, .store 7 (.t 28) (.t 27), none⟩],
   .reg [⟨(some 12), .mv (.t 0), none⟩,
      ⟨(some 13), .call (.c (.fn (.func 111) [] [])) [(.t 12)], none⟩,
      ⟨(some 14), .fadr 4 (.t 5), none⟩,
      ⟨none, .store 1 (.t 14) (.t 13), none⟩],
   .seq 24 25,
   .reg [⟨(some 29), .load (some 19) (.t 5), none⟩,
      ⟨none, .store 19 (.t 4) (.t 29), none⟩],
   .ret]⟩

/-- (*luminaire/grammar.reader).patch -/
def F118 : FT := ⟨32, 2, [.cell 4 (some 19)],
  [.seq 1 2,
   .reg [⟨(some 4), .alloc 28 [(.int .i64 0), (.str []), (.str []), (.str []), (.int .i64 0), .nils, (.int .i64 0), (.int .i64 0), (.int .i64 0), (.int .i64 0), (.int .i64 0), (.int .i64 0), (.int .i64 0), (.str []), (.int .i64 0), (.int .i64 0), (.int .i64 0), (.str []), .nils], none⟩],
   .seq 3 4,
   .reg [⟨(some 6), .mv (.t 0), none⟩,
      ⟨(some 7), .call (.c (.fn (.func 172) [] [])) [(.t 6)], none⟩,
      ⟨(some 5), .alloc 25 [(.int .i64 0), (.int .i64 0), (.str []), (.int .i64 0), (.int .i64 0), (.int .i64 0), (.str [])], none⟩,
      ⟨none, .store 7 (.t 5) (.t 7), none⟩],
   .seq 5 6,
   .reg [⟨(some 8), .mv (.t 0), none⟩,
      ⟨(some 9), .call (.c (.fn (.func 173) [] [])) [(.t 8)], none⟩,
      ⟨(some 10), .fadr 2 (.t 5), none⟩,
      ⟨none, .store 1 (.t 10) (.t 9), none⟩],
   .seq 7 8,
   .reg [⟨(some 11), .mv (.t 0), none⟩,
      ⟨(some 12), .bslice 9 1 [(.c (.str [97, 116]))], none⟩,
      ⟨(some 13), .call (.c (.fn (.func 109) [] [])) [(.t 11), (.t 12)], none⟩],
   .seq 9 10,
   .reg [⟨(some 14), .mv (.t 0), none⟩,
      ⟨(some 15), .call (.c (.fn (.func 141) [] [])) [(.t 14), (.c (.int .i64 8))], none⟩,
      ⟨(some 16), .fadr 3 (.t 5), none⟩,
      ⟨none, .store 1 (.t 16) (.t 15), none⟩],
   .seq 11 12,
   .reg [⟨(some 17), .mv (.t 0), none⟩,
      ⟨(some 18), .call (.c (.fn (.func 174) [] [])) [(.t 17)], none⟩],
   .seq 13 14,
   .reg [⟨(some 19), .mv (.t 0), none⟩,
      ⟨(some 20), .call (.c (.fn (.func 141) [] [])) [(.t 19), (.c (.int .i64 512))], none⟩,
      ⟨(some 21), .fadr 4 (.t 5), none⟩,
      ⟨none, .store 1 (.t 21) (.t 20), none⟩,
      ⟨(some 22), .fadr 5 (.t 5), none⟩,
      ⟨none, .store 1 (.t 22) (.c (.int .i64 1)), none⟩],
   .seq 15 20,
   .seq 16 17,
   .reg [⟨(some 23), .mv (.t 0), none⟩,
      ⟨(some 24), .bslice 9 1 [(.c (.str [112, 104, 97, 115, 101]))], none⟩,
      ⟨(some 25), .call (.c (.fn (.func 110) [] [])) [(.t 23), (.t 24)], none⟩,
      ⟨(some 26), .bin .neq (.t 25) (.c (.str [])), none⟩],
   .cond (.t 26) 18 19,
   .reg [⟨(some 27), .mv (.t 0), none⟩,
      ⟨(some 28), .call (.c (.fn (.func 141) [] [])) [(.t 27), (.c (.int .i64 3))], none⟩,
      ⟨(some 29), .fadr 5 (.t 5), none⟩,
      ⟨none, .store 1 (.t 29) (.t 28), none⟩],
   .skip,
   .seq 21 22,
   .reg [⟨(some 30), .load (some 7) (.t 5), none⟩,
      ⟨(some 31), .build [(.int .i64 0), (.str []), (.str []), (.str []), (.int .i64 0), .nils, (.int .i64 0), (.int .i64 0), (.int .i64 0), (.int .i64 0), (.int .i64 0), (.int .i64 0), (.int .i64 0), (.str []), (.int .i64 0), (.int .i64 0), (.int .i64 0), (.str []), .nils] [(0, 1, (.c (.int .i64 5))), (1, 1, (.c (.str [112, 97, 116, 99, 104]))), (11, 7, (.t 30))], none⟩,
      ⟨none, .store 19 (.t 4) (.t 31), none⟩],
   .ret]⟩

/-- (*luminaire/grammar.reader).blackout -/
def F119 : FT := ⟨14, 2, [.cell 4 (some 19)],
  [.seq 1 2,
   .reg [⟨(some 4), .alloc 28 [(.int .i64 0), (.str []), (.str []), (.str []), (.int .i64 0), .nils, (.int .i64 0), (.int .i64 0), (.int .i64 0), (.int .i64 0), (.int .i64 0), (.int .i64 0), (.int .i64 0), (.str []), (.int .i64 0), (.int .i64 0), (.int .i64 0), (.str []), .nils], none⟩],
   .seq 3 4,
   .reg [⟨(some 6), .mv (.t 1), none⟩,
      ⟨(some 7), .build [(.int .i64 0), (.str []), (.str []), (.str []), (.int .i64 0), .nils, (.int .i64 0), (.int .i64 0), (.int .i64 0), (.int .i64 0), (.int .i64 0), (.int .i64 0), (.int .i64 0), (.str []), (.int .i64 0), (.int .i64 0), (.int .i64 0), (.str []), .nils] [(0, 1, (.c (.int .i64 7))), (1, 1, (.t 6))], none⟩,
      ⟨(some 5), .alloc 28 [(.int .i64 0), (.str []), (.str []), (.str []), (.int .i64 0), .nils, (.int .i64 0), (.int .i64 0), (.int .i64 0), (.int .i64 0), (.int .i64 0), (.int .i64 0), (.int .i64 0), (.str []), (.int .i64 0), (.int .i64 0), (.int .i64 0), (.str []), .nils], none⟩,
      ⟨none, .store 19 (.t 5) (.t 7), none⟩],
   .seq 5 10,
   .seq 6 7,
   .reg [⟨(some 8), .mv (.t 0), none⟩,
      ⟨(some 9), .bslice 9 1 [(.c (.str [111, 110])), (.c (.str [111, 102, 102]))], none⟩,
      ⟨(some 10), .call (.c (.fn (.func 109) [] [])) [(.t 8), (.t 9)], none⟩,
      ⟨(some 11), .bin .eql (.t 10) (.c (.str [111, 110])), none⟩],
   .cond (.t 11) 8 9,
   .reg [⟨(some 12), .fadr 7 (.t 5), none⟩,
      ⟨none, .store 1 (.t 12) (.c (.int .i64 1)), none⟩],
   .skip,
   .seq 11 12,
   .reg [⟨(some 13), .load (some 19) (.t 5), none⟩,
      ⟨none, .store 19 (.t 4) (.t 13), none⟩],
   .ret]⟩

/-- (*luminaire/grammar.reader).verbs$1 -/
def F120 : FT := ⟨17, 2, [],
  [.seq 1 2,
   .reg [⟨(some 7), .mv (.t 1), none⟩,
      ⟨(some 8), .len (.t 7), none⟩,
      ⟨(some 9), .mv (.c (.int .i64 0)), none⟩],
   .block 0 3,
   .loop 4,
   .seq 5 6,
   .reg [⟨(some 10), .bin .lss (.t 9) (.t 8), none⟩],
   .seq 7 10,
   .cond (.t 10) 8 9,
   .skip,
   .exit 0,
   .seq 11 15,
   .block 1 12,
   .seq 13 14,
   .reg [⟨(some 11), .iadr 1 (.t 7) (.t 9), none⟩,
      ⟨(some 12), .load none (.t 11), none⟩,
      ⟨(some 6), .mv (.t 12), none⟩],
   .reg [⟨(some 13), .load none (.t 2), none⟩,
      ⟨(some 14), .mv (.t 6), none⟩,
      ⟨(some 15), .mv (.t 0), none⟩,
      ⟨none, .act (.mset .s) [(.t 13), (.t 14), (.t 15)], none⟩],
   .reg [⟨(some 16), .bin .add (.t 9) (.c (.int .i64 1)), none⟩,
      ⟨(some 9), .mv (.t 16), none⟩]]⟩

/-- (*luminaire/grammar.reader).play -/
def F121 : FT := ⟨33, 2, [.cell 4 (some 19)],
  [.seq 1 2,
   .reg [⟨(some 4), .alloc 28 [(.int .i64 0), (.str []), (.str []), (.str []), (.int .i64 0), .nils, (.int .i64 0), (.int .i64 0), (.int .i64 0), (.int .i64 0), (.int .i64 0), (.int .i64 0), (.int .i64 0), (.str []), (.int .i64 0), (.int .i64 0), (.int .i64 0), (.str []), .nils], none⟩],
   .seq 3 4,
   .reg [⟨(some 6), .mv (.t 1), none⟩,
      ⟨(some 7), .mv (.t 0), none⟩,
      ⟨(some 8), .call (.c (.fn (.func 111) [] [])) [(.t 7)], none⟩,
      ⟨(some 9), .build [(.int .i64 0), (.str []), (.str []), (.str []), (.int .i64 0), .nils, (.int .i64 0), (.int .i64 0), (.int .i64 0), (.int .i64 0), (.int .i64 0), (.int .i64 0), (.int .i64 0), (.str []), (.int .i64 0), (.int .i64 0), (.int .i64 0), (.str []), .nils] [(0, 1, (.c (.int .i64 6))), (1, 1, (.t 6)), (4, 1, (.t 8))], none⟩,
      ⟨(some 5), .alloc 28 [(.int .i64 0), (.str []), (.str []), (.str []), (.int .i64 0), .nils, (.int .i64 0), (.int .i64 0), (.int .i64 0), (.int .i64 0), (.int .i64 0), (.int .i64 0), (.int .i64 0), (.str []), (.int .i64 0), (.int .i64 0), (.int .i64 0), (.str []), .nils], none⟩,
      ⟨none, .store 19 (.t 5) (.t 9), none⟩],
   .seq 5 25,
   .seq 6 7,
   .reg [⟨(some 10), .mv (.t 1), none⟩],
   .block 0 8,
   .seq 9 10,
   .reg [⟨(some 12), .bin .eql (.t 10) (.c (.str [103, 111, 116, 111])), none⟩,
      ⟨(some 11), .mv (.t 12), none⟩],
   .cond (.t 11) 11 14,
   .seq 12 13,
   .reg [⟨(some 13), .mv (.t 0), none⟩,
      ⟨(some 14), .bslice 9 1 [(.c (.str [99, 117, 101]))], none⟩,
      ⟨(some 15), .call (.c (.fn (.func 109) [] [])) [(.t 13), (.t 14)], none⟩],
   .reg [⟨(some 16), .mv (.t 0), none⟩,
      ⟨(some 17), .call (.c (.fn (.func 175) [] [])) [(.t 16)], none⟩,
      ⟨(some 18), .fadr 3 (.t 5), none⟩,
      ⟨none, .store 1 (.t 18) (.t 17), none⟩],
   .seq 15 16,
   .reg [⟨(some 20), .bin .eql (.t 10) (.c (.str [114, 97, 116, 101])), none⟩,
      ⟨(some 19), .mv (.t 20), none⟩],
   .cond (.t 19) 17 20,
   .seq 18 19,
   .reg [⟨(some 21), .mv (.t 0), none⟩,
      ⟨(some 22), .bslice 9 1 [(.c (.str [97, 116]))], none⟩,
      ⟨(some 23), .call (.c (.fn (.func 109) [] [])) [(.t 21), (.t 22)], none⟩],
   .reg [⟨(some 24), .mv (.t 0), none⟩,
      ⟨(some 25), .call (.c (.fn (.func 141) [] [])) [(.t 24), (.c (.int .i64 400))], none⟩,
      ⟨(some 26), .fadr 7 (.t 5), none⟩,
      ⟨none, .store 1 (.t 26) (.t 25), none⟩],
   .seq 21 22,
   .reg [⟨(some 28), .bin .eql (.t 10) (.c (.str [114, 101, 108, 101, 97, 115, 101])), none⟩,
      ⟨(some 27), .mv (.t 28), none⟩],
   .cond (.t 27) 23 24,
   .reg [⟨(some 29), .mv (.t 0), none⟩,
      ⟨(some 30), .call (.c (.fn (.func 113) [] [])) [(.t 29)], none⟩,
      ⟨(some 31), .fadr 9 (.t 5), none⟩,
      ⟨none, .store 1 (.t 31) (.t 30), none⟩],
   .skip,
   .seq 26 27,
   .reg [⟨(some 32), .load (some 19) (.t 5), none⟩,
      ⟨none, .store 19 (.t 4) (.t 32), none⟩],
   .ret]⟩

/-- (*luminaire/grammar.reader).fader -/
def F122 : FT := ⟨23, 2, [.cell 4 (some 19)],
  [.seq 1 2,
   .reg [⟨(some 4), .alloc 28 [(.int .i64 0), (.str []), (.str []), (.str []), (.int .i64 0), .nils, (.int .i64 0), (.int .i64 0), (.int .i64 0), (.int .i64 0), (.int .i64 0), (.int .i64 0), (.int .i64 0), (.str []), (.int .i64 0), (.int .i64 0), (.int .i64 0), (.str []), .nils], none⟩],
   .seq 3 4,
   .reg [⟨(some 6), .mv (.t 1), none⟩,
      ⟨(some 7), .build [(.int .i64 0), (.str []), (.str []), (.str []), (.int .i64 0), .nils, (.int .i64 0), (.int .i64 0), (.int .i64 0), (.int .i64 0), (.int .i64 0), (.int .i64 0), (.int .i64 0), (.str []), (.int .i64 0), (.int .i64 0), (.int .i64 0), (.str []), .nils] [(0, 1, (.c (.int .i64 7))), (1, 1, (.t 6))], none⟩,
      ⟨(some 5), .alloc 28 [(.int .i64 0), (.str []), (.str []), (.str []), (.int .i64 0), .nils, (.int .i64 0), (.int .i64 0), (.int .i64 0), (.int .i64 0), (.int .i64 0), (.int .i64 0), (.int .i64 0), (.str []), (.int .i64 0), (.int .i64 0), (.int .i64 0), (.str []), .nils], none⟩,
      ⟨none, .store 19 (.t 5) (.t 7), none⟩],
   .seq 5 10,
   .seq 6 7,
   .reg [⟨(some 8), .mv (.t 1), none⟩,
      ⟨(some 9), .bin .neq (.t 8) (.c (.str [109, 97, 115, 116, 101, 114])), none⟩],
   .cond (.t 9) 8 9,
   .reg [⟨(some 10), .mv (.t 0), none⟩,
      ⟨(some 11), .call (.c (.fn (.func 111) [] [])) [(.t 10)], none⟩,
      ⟨(some 12), .fadr 4 (.t 5), none⟩,
      ⟨none, .store 1 (.t 12) (.t 11), none⟩],
   .skip,
   .seq 11 12,
   .reg [⟨(some 13), .mv (.t 0), none⟩,
      ⟨(some 14), .bslice 9 1 [(.c (.str [97, 116]))], none⟩,
      ⟨(some 15), .call (.c (.fn (.func 109) [] [])) [(.t 13), (.t 14)], none⟩],
   .seq 13 14,
   .reg [⟨(some 16), .mv (.t 0), none⟩,
      ⟨(some 17), .call (.c (.fn (.func 112) [] [])) [(.t 16)], none⟩,
      ⟨(some 18), .fadr 7 (.t 5), none⟩,
      ⟨none, .store 1 (.t 18) (.t 17), none⟩],
   .seq 15 16,
   .reg [⟨(some 19), .mv (.t 0), none⟩,
      ⟨(some 20), .call (.c (.fn (.func 113) [] [])) [(.t 19)], none⟩,
      ⟨(some 21), .fadr 9 (.t 5), none⟩,
      ⟨none, .store 1 (.t 21) (.t 20), none⟩],
   .seq 17 18,
   .reg [⟨(some 22), .load (some 19) (.t 5), none⟩,
      ⟨none, .store 19 (.t 4) (.t 22), none⟩],
   .ret]⟩

/-- (*luminaire/grammar.reader).effect -/
def F123 : FT := ⟨26, 2, [.cell 4 (some 19)],
  [.seq 1 2,
   .reg [⟨(some 4), .alloc 28 [(.int .i64 0), (.str []), (.str []), (.str []), (.int .i64 0), .nils, (.int .i64 0), (.int .i64 0), (.int .i64 0), (.int .i64 0), (.int .i64 0), (.int .i64 0), (.int .i64 0), (.str []), (.int .i64 0), (.int .i64 0), (.int .i64 0), (.str []), .nils], none⟩],
   .seq 3 4,
   .reg [⟨(some 6), .mv (.t 1), none⟩,
      ⟨(some 7), .mv (.t 0), none⟩,
      ⟨(some 8), .call (.c (.fn (.func 111) [] [])) [(.t 7)], none⟩,
      ⟨(some 9), .build [(.int .i64 0), (.str []), (.str []), (.str []), (.int .i64 0), .nils, (.int .i64 0), (.int .i64 0), (.int .i64 0), (.int .i64 0), (.int .i64 0), (.int .i64 0), (.int .i64 0), (.str []), (.int .i64 0), (.int .i64 0), (.int .i64 0), (.str []), .nils] [(0, 1, (.c (.int .i64 8))), (1, 1, (.t 6)), (4, 1, (.t 8))], none⟩,
      ⟨(some 5), .alloc 28 [(.int .i64 0), (.str []), (.str []), (.str []), (.int .i64 0), .nils, (.int .i64 0), (.int .i64 0), (.int .i64 0), (.int .i64 0), (.int .i64 0), (.int .i64 0), (.int .i64 0), (.str []), (.int .i64 0), (.int .i64 0), (.int .i64 0), (.str []), .nils], none⟩,
      ⟨none, .store 19 (.t 5) (.t 9), none⟩],
   .seq 5 12,
   .seq 6 7,
   .reg [⟨(some 10), .mv (.t 1), none⟩,
      ⟨(some 11), .bin .eql (.t 10) (.c (.str [115, 116, 111, 112])), none⟩],
   .cond (.t 11) 8 11,
   .seq 9 10,
   .reg [⟨(some 12), .load (some 19) (.t 5), none⟩,
      ⟨none, .store 19 (.t 4) (.t 12), none⟩],
   .ret,
   .skip,
   .seq 13 22,
   .seq 14 15,
   .reg [⟨(some 13), .mv (.t 0), none⟩,
      ⟨(some 14), .bslice 9 1 [(.c (.str [111, 110])), (.c (.str [97, 116]))], none⟩,
      ⟨(some 15), .call (.c (.fn (.func 109) [] [])) [(.t 13), (.t 14)], none⟩,
      ⟨(some 16), .bin .eql (.t 15) (.c (.str [111, 110])), none⟩],
   .cond (.t 16) 16 21,
   .seq 17 18,
   .reg [⟨(some 17), .mv (.t 0), none⟩,
      ⟨(some 18), .call (.c (.fn (.func 45) [] [])) [(.t 17)], none⟩,
      ⟨(some 19), .fadr 5 (.t 5), none⟩,
      ⟨none, .store 1 (.t 19) (.t 18), none⟩],
   .seq 19 20,
   .reg [⟨(some 20), .load (some 19) (.t 5), none⟩,
      ⟨none, .store 19 (.t 4) (.t 20), none⟩],
   .ret,
   .skip,
   .seq 23 24,
   .reg [⟨(some 21), .mv (.t 0), none⟩,
      ⟨(some 22), .call (.c (.fn (.func 141) [] [])) [(.t 21), (.c (.int .i64 400))], none⟩,
      ⟨(some 23), .fadr 1 (.t 5), none⟩,
      ⟨none, .store 1 (.t 23) (.c (.str [115, 112, 101, 101, 100])), none⟩,
      ⟨(some 24), .fadr 7 (.t 5), none⟩,
      ⟨none, .store 1 (.t 24) (.t 22), none⟩],
   .seq 25 26,
   .reg [⟨(some 25), .load (some 19) (.t 5), none⟩,
      ⟨none, .store 19 (.t 4) (.t 25), none⟩],
   .ret]⟩

/-- (*luminaire/grammar.reader).undo -/
def F124 : FT := ⟨7, 2, [.cell 4 (some 19)],
  [.seq 1 2,
   .reg [⟨(some 4), .alloc 28 [(.int .i64 0), (.str []), (.str []), (.str []), (.int .i64 0), .nils, (.int .i64 0), (.int .i64 0), (.int .i64 0), (.int .i64 0), (.int .i64 0), (.int .i64 0), (.int .i64 0), (.str []), (.int .i64 0), (.int .i64 0), (.int .i64 0), (.str []), .nils], none⟩],
   .seq 3 4,
   .reg [⟨(some 5), .mv (.t 1), none⟩,
      ⟨(some 6), .build [(.int .i64 0), (.str []), (.str []), (.str []), (.int .i64 0), .nils, (.int .i64 0), (.int .i64 0), (.int .i64 0), (.int .i64 0), (.int .i64 0), (.int .i64 0), (.int .i64 0), (.str []), (.int .i64 0), (.int .i64 0), (.int .i64 0), (.str []), .nils] [(0, 1, (.c (.int .i64 9))), (1, 1, (.t 5))], none⟩,
      ⟨none, .store 19 (.t 4) (.t 6), none⟩],
   .ret]⟩

/-- (*luminaire/grammar.reader).int -/
def F141 : FT := ⟨28, 2, [.tmp 4],
  [.seq 1 2,
   .reg [⟨(some 4), .mv (.c (.int .i64 0)), none⟩],
   .seq 3 4,
   .reg [⟨(some 7), .mv (.t 0), none⟩,
      ⟨(some 8), .call (.c (.fn (.func 168) [] [])) [(.t 7)], none⟩,
      ⟨(some 5), .mv (.t 8), none⟩],
   .seq 5 10,
   .seq 6 7,
   .reg [⟨(some 9), .mv (.t 5), none⟩,
      ⟨(some 10), .call (.c (.fn (.func 36) [] [])) [(.t 9)], none⟩,
      ⟨(some 11), .un .not (.t 10), none⟩],
   .cond (.t 11) 8 9,
   .reg [⟨(some 12), .mv (.t 0), none⟩,
      ⟨(some 13), .call (.c (.fn (.func 63) [] [])) [(.t 12), (.c (.int .i64 4))], none⟩],
   .skip,
   .seq 11 12,
   .reg [⟨(some 14), .mv (.t 5), none⟩,
      ⟨(some 15), .call (.c (.fn (.func 38) [] [])) [(.t 14)], none⟩,
      ⟨(some 6), .mv (.t 15), none⟩],
   .seq 13 18,
   .seq 14 15,
   .reg [⟨(some 16), .mv (.t 6), none⟩,
      ⟨(some 17), .bin .lss (.t 16) (.c (.int .i64 1)), none⟩,
      ⟨(some 18), .mv (.t 17), none⟩,
      ⟨(some 19), .mv (.t 6), some (18, false)⟩,
      ⟨(some 20), .mv (.t 1), some (18, false)⟩,
      ⟨(some 21), .bin .gtr (.t 19) (.t 20), some (18, false)⟩,
      ⟨(some 22), .pick (.t 18) (.c (.bool true)) (.t 21), none⟩],
   .cond (.t 22) 16 17,
   .reg [⟨(some 23), .mv (.t 0), none⟩,
      ⟨(some 24), .call (.c (.fn (.func 63) [] [])) [(.t 23), (.c (.int .i64 2))], none⟩],
   .skip,
   .seq 19 20,
   .reg [⟨(some 25), .mv (.t 0), none⟩,
      ⟨(some 26), .call (.c (.fn (.func 66) [] [])) [(.t 25)], none⟩],
   .seq 21 22,
   .reg [⟨(some 27), .mv (.t 6), none⟩,
      ⟨(some 4), .mv (.t 27), none⟩],
   .ret]⟩

/-- (*luminaire/grammar.reader).is -/
def F142 : FT := ⟨19, 3, [.tmp 6],
  [.seq 1 2,
   .reg [⟨(some 6), .mv (.c (.bool false)), none⟩],
   .seq 3 4,
   .reg [⟨(some 7), .mv (.t 0), none⟩,
      ⟨(some 8), .call (.c (.fn (.func 62) [] [])) [(.t 7)], none⟩,
      ⟨(some 9), .fld none 0 (.t 8), none⟩,
      ⟨(some 10), .mv (.t 1), none⟩,
      ⟨(some 11), .bin .eql (.t 9) (.t 10), none⟩,
      ⟨(some 12), .mv (.t 11), none⟩,
      ⟨(some 13), .mv (.t 0), some (12, true)⟩,
      ⟨(some 14), .call (.c (.fn (.func 62) [] [])) [(.t 13)], some (12, true)⟩,
      ⟨(some 15), .fld none 1 (.t 14), some (12, true)⟩,
      ⟨(some 16), .mv (.t 2), some (12, true)⟩,
      ⟨(some 17), .bin .eql (.t 15) (.t 16), some (12, true)⟩,
      ⟨(some 18), .pick (.t 12) (.t 17) (.c (.bool false)), none⟩,
      ⟨(some 6), .mv (.t 18), none⟩],
   .ret]⟩

/-- (*luminaire/grammar.reader).number -/
def F168 : FT := ⟨12, 1, [.tmp 2],
  [.seq 1 2,
   .reg [⟨(some 2), .mv (.c (.str [])), none⟩],
   .seq 3 8,
   .seq 4 5,
   .reg [⟨(some 3), .mv (.t 0), none⟩,
      ⟨(some 4), .call (.c (.fn (.func 62) [] [])) [(.t 3)], none⟩,
      ⟨(some 5), .fld none 0 (.t 4), none⟩,
      ⟨(some 6), .bin .neq (.t 5) (.c (.int .i64 1)), none⟩],
   .cond (.t 6) 6 7,
   .reg [⟨(some 7), .mv (.t 0), none⟩,
      ⟨(some 8), .call (.c (.fn (.func 63) [] [])) [(.t 7), (.c (.int .i64 4))], none⟩],
   .skip,
   .seq 9 10,
   .reg [⟨(some 9), .mv (.t 0), none⟩,
      ⟨(some 10), .call (.c (.fn (.func 62) [] [])) [(.t 9)], none⟩,
      ⟨(some 11), .fld none 1 (.t 10), none⟩,
      ⟨(some 2), .mv (.t 11), none⟩],
   .ret]⟩

/-- (*luminaire/grammar.reader).must -/
def F170 : FT := ⟨14, 2, [],
  [.seq 1 2,
   .reg [⟨(some 4), .mv (.t 1), none⟩],
   .block 0 3,
   .seq 4 5,
   .reg [⟨(some 9), .bin .eql (.t 4) (.c (.int .i64 0)), none⟩,
      ⟨(some 8), .mv (.t 9), none⟩],
   .cond (.t 8) 6 7,
   .skip,
   .seq 8 9,
   .reg [⟨(some 11), .bin .eql (.t 4) (.c (.int .i64 3)), none⟩,
      ⟨(some 10), .mv (.t 11), none⟩],
   .cond (.t 10) 10 11,
   .reg [⟨(some 12), .mv (.t 0), none⟩,
      ⟨(some 13), .call (.c (.fn (.func 63) [] [])) [(.t 12), (.c (.int .i64 4))], none⟩],
   .reg [⟨(some 5), .mv (.t 0), none⟩,
      ⟨(some 6), .mv (.t 1), none⟩,
      ⟨(some 7), .call (.c (.fn (.func 63) [] [])) [(.t 5), (.t 6)], none⟩]]⟩

/-- (*luminaire/grammar.reader).place -/
def F171 : FT := ⟨16, 2, [],
  [.seq 1 2,
   .reg [⟨(some 4), .mv (.t 1), none⟩,
      ⟨(some 5), .mv (.t 0), none⟩,
      ⟨(some 6), .call (.c (.fn (.func 111) [] [])) [(.t 5)], none⟩,
      ⟨(some 7), .nilc (.t 4), none⟩,
      ⟨(some 8), .fadr 4 (.t 7), none⟩,
      ⟨none, .store 1 (.t 8) (.t 6), none⟩],
   .seq 3 4,
   .reg [⟨(some 9), .mv (.t 0), none⟩,
      ⟨(some 10), .call (.c (.fn (.func 174) [] [])) [(.t 9)], none⟩],
   .reg [⟨(some 11), .mv (.t 1), none⟩,
      ⟨(some 12), .mv (.t 0), none⟩,
      ⟨(some 13), .call (.c (.fn (.func 175) [] [])) [(.t 12)], none⟩,
      ⟨(some 14), .nilc (.t 11), none⟩,
      ⟨(some 15), .fadr 3 (.t 14), none⟩,
      ⟨none, .store 1 (.t 15) (.t 13), none⟩]]⟩

/-- (*luminaire/grammar.reader).unit -/
def F172 : FT := ⟨54, 1, [.cell 2 (some 7)],
  [.seq 1 2,
   .reg [⟨(some 2), .alloc 25 [(.int .i64 0), (.int .i64 0), (.str []), (.int .i64 0), (.int .i64 0), (.int .i64 0), (.str [])], none⟩],
   .seq 3 4,
   .reg [⟨(some 8), .mv (.t 0), none⟩,
      ⟨(some 9), .call (.c (.fn (.func 168) [] [])) [(.t 8)], none⟩,
      ⟨(some 10), .call (.c (.fn (.func 35) [] [])) [(.t 9), (.c (.str [46]))], none⟩,
      ⟨(some 7), .mv (.t 10), none⟩,
      ⟨(some 11), .ext 0 (.t 7), none⟩,
      ⟨(some 12), .ext 1 (.t 7), none⟩,
      ⟨(some 13), .ext 2 (.t 7), none⟩,
      ⟨(some 3), .mv (.t 11), none⟩,
      ⟨(some 4), .mv (.t 12), none⟩,
      ⟨(some 5), .mv (.t 13), none⟩],
   .seq 5 10,
   .seq 6 7,
   .reg [⟨(some 14), .mv (.t 5), none⟩,
      ⟨(some 15), .un .not (.t 14), none⟩],
   .cond (.t 15) 8 9,
   .reg [⟨(some 4), .mv (.c (.str [49])), none⟩],
   .skip,
   .seq 11 16,
   .seq 12 13,
   .reg [⟨(some 16), .mv (.t 3), none⟩,
      ⟨(some 17), .call (.c (.fn (.func 36) [] [])) [(.t 16)], none⟩,
      ⟨(some 18), .un .not (.t 17), none⟩,
      ⟨(some 19), .mv (.t 18), none⟩,
      ⟨(some 20), .mv (.t 4), some (19, false)⟩,
      ⟨(some 21), .call (.c (.fn (.func 36) [] [])) [(.t 20)], some (19, false)⟩,
      ⟨(some 22), .un .not (.t 21), some (19, false)⟩,
      ⟨(some 23), .pick (.t 19) (.c (.bool true)) (.t 22), none⟩],
   .cond (.t 23) 14 15,
   .reg [⟨(some 24), .mv (.t 0), none⟩,
      ⟨(some 25), .call (.c (.fn (.func 63) [] [])) [(.t 24), (.c (.int .i64 4))], none⟩],
   .skip,
   .seq 17 18,
   .reg [⟨(some 26), .mv (.t 3), none⟩,
      ⟨(some 27), .call (.c (.fn (.func 38) [] [])) [(.t 26)], none⟩,
      ⟨(some 28), .mv (.t 4), none⟩,
      ⟨(some 29), .call (.c (.fn (.func 38) [] [])) [(.t 28)], none⟩,
      ⟨(some 30), .build [(.int .i64 0), (.int .i64 0), (.str []), (.int .i64 0), (.int .i64 0), (.int .i64 0), (.str [])] [(0, 1, (.t 27)), (1, 1, (.t 29))], none⟩,
      ⟨(some 6), .alloc 25 [(.int .i64 0), (.int .i64 0), (.str []), (.int .i64 0), (.int .i64 0), (.int .i64 0), (.str [])], none⟩,
      ⟨none, .store 7 (.t 6) (.t 30), none⟩],
   .seq 19 24,
   .seq 20 21,
   .reg [⟨(some 31), .fadr 0 (.t 6), none⟩,
      ⟨(some 32), .load none (.t 31), none⟩,
      ⟨(some 33), .bin .lss (.t 32) (.c (.int .i64 1)), none⟩,
      ⟨(some 34), .mv (.t 33), none⟩,
      ⟨(some 35), .fadr 0 (.t 6), some (34, false)⟩,
      ⟨(some 36), .load none (.t 35), some (34, false)⟩,
      ⟨(some 37), .bin .gtr (.t 36) (.c (.int .i64 999)), some (34, false)⟩,
      ⟨(some 38), .pick (.t 34) (.c (.bool true)) (.t 37), none⟩,
      ⟨(some 39), .mv (.t 38), none⟩,
      ⟨(some 40), .fadr 1 (.t 6), some (39, false)⟩,
      ⟨(some 41), .load none (.t 40), some (39, false)⟩,
      ⟨(some 42), .bin .lss (.t 41) (.c (.int .i64 1)), some (39, false)⟩,
      ⟨(some 43), .pick (.t 39) (.c (.bool true)) (.t 42), none⟩,
      ⟨(some 44), .mv (.t 43), none⟩,
      ⟨(some 45), .fadr 1 (.t 6), some (44, false)⟩,
      ⟨(some 46), .load none (.t 45), some (44, false)⟩,
      ⟨(some 47), .bin .gtr (.t 46) (.c (.int .i64 64)), some (44, false)⟩,
      ⟨(some 48), .pick (.t 44) (.c (.bool true)) (.t 47), none⟩],
   .cond (.t 48) 22 23,
   .reg [⟨(some 49), .mv (.t 0), none⟩,
      ⟨(some 50), .call (.c (.fn (.func 63) [] [])) [(.t 49), (.c (.int .i64 2))], none⟩],
   .skip,
   .seq 25 26,
   .reg [⟨(some 51), .mv (.t 0), none⟩,
      ⟨(some 52), .call (.c (.fn (.func 66) [] [])) [(.t 51)], none⟩],
   .seq 27 28,
   .reg [⟨(some 53), .load (some 7) (.t 6), none⟩,
      ⟨none, .store 7 (.t 2) (.t 53), none⟩],
   .ret]⟩

/-- (*luminaire/grammar.reader).profile -/
def F173 : FT := ⟨24, 1, [.tmp 2],
  [.seq 1 2,
   .reg [⟨(some 2), .mv (.c (.str [])), none⟩],
   .seq 3 8,
   .seq 4 5,
   .reg [⟨(some 3), .mv (.t 0), none⟩,
      ⟨(some 4), .call (.c (.fn (.func 62) [] [])) [(.t 3)], none⟩,
      ⟨(some 5), .fld none 0 (.t 4), none⟩,
      ⟨(some 6), .bin .neq (.t 5) (.c (.int .i64 0)), none⟩],
   .cond (.t 6) 6 7,
   .reg [⟨(some 7), .mv (.t 0), none⟩,
      ⟨(some 8), .call (.c (.fn (.func 63) [] [])) [(.t 7), (.c (.int .i64 4))], none⟩],
   .skip,
   .seq 9 21,
   .seq 10 11,
   .reg [⟨(some 9), .mv (.t 0), none⟩,
      ⟨(some 10), .call (.c (.fn (.func 62) [] [])) [(.t 9)], none⟩,
      ⟨(some 11), .fld none 1 (.t 10), none⟩,
      ⟨(some 12), .call (.c (.fn (.func 207) [] [])) [(.t 11)], none⟩],
   .block 0 12,
   .seq 13 14,
   .reg [⟨(some 14), .bin .eql (.t 12) (.c (.int .i64 8)), none⟩,
      ⟨(some 13), .mv (.t 14), none⟩],
   .cond (.t 13) 15 16,
   .reg [⟨(some 15), .mv (.t 0), none⟩,
      ⟨(some 16), .call (.c (.fn (.func 63) [] [])) [(.t 15), (.c (.int .i64 4))], none⟩],
   .seq 17 18,
   .reg [⟨(some 18), .bin .eql (.t 12) (.c (.int .i64 13)), none⟩,
      ⟨(some 17), .mv (.t 18), none⟩],
   .cond (.t 17) 19 20,
   .reg [⟨(some 19), .mv (.t 0), none⟩,
      ⟨(some 20), .call (.c (.fn (.func 63) [] [])) [(.t 19), (.c (.int .i64 8))], none⟩],
   .skip,
   .seq 22 23,
   .reg [⟨(some 21), .mv (.t 0), none⟩,
      ⟨(some 22), .call (.c (.fn (.func 66) [] [])) [(.t 21)], none⟩,
      ⟨(some 23), .fld none 1 (.t 22), none⟩,
      ⟨(some 2), .mv (.t 23), none⟩],
   .ret]⟩

/-- (*luminaire/grammar.reader).slash -/
def F174 : FT := ⟨7, 1, [],
  [.seq 1 2,
   .reg [⟨(some 2), .mv (.t 0), none⟩,
      ⟨(some 3), .call (.c (.fn (.func 91) [] [])) [(.t 2), (.c (.str [47]))], none⟩,
      ⟨(some 4), .un .not (.t 3), none⟩],
   .cond (.t 4) 3 4,
   .reg [⟨(some 5), .mv (.t 0), none⟩,
      ⟨(some 6), .call (.c (.fn (.func 63) [] [])) [(.t 5), (.c (.int .i64 4))], none⟩],
   .skip]⟩

/-- (*luminaire/grammar.reader).cue -/
def F175 : FT := ⟨11, 1, [.tmp 2],
  [.seq 1 2,
   .reg [⟨(some 2), .mv (.c (.str [])), none⟩],
   .seq 3 4,
   .reg [⟨(some 3), .mv (.t 0), none⟩,
      ⟨(some 4), .mv (.t 0), none⟩,
      ⟨(some 5), .call (.c (.fn (.func 168) [] [])) [(.t 4)], none⟩,
      ⟨(some 6), .call (.c (.fn (.func 208) [] [])) [(.t 5)], none⟩,
      ⟨(some 7), .call (.c (.fn (.func 170) [] [])) [(.t 3), (.t 6)], none⟩],
   .seq 5 6,
   .reg [⟨(some 8), .mv (.t 0), none⟩,
      ⟨(some 9), .call (.c (.fn (.func 66) [] [])) [(.t 8)], none⟩,
      ⟨(some 10), .fld none 1 (.t 9), none⟩,
      ⟨(some 2), .mv (.t 10), none⟩],
   .ret]⟩

/-- (*luminaire/grammar.reader).command -/
def F27 : FT := ⟨36, 1, [.cell 2 (some 19)],
  [.seq 1 2,
   .reg [⟨(some 2), .alloc 28 [(.int .i64 0), (.str []), (.str []), (.str []), (.int .i64 0), .nils, (.int .i64 0), (.int .i64 0), (.int .i64 0), (.int .i64 0), (.int .i64 0), (.int .i64 0), (.int .i64 0), (.str []), (.int .i64 0), (.int .i64 0), (.int .i64 0), (.str []), .nils], none⟩],
   .seq 3 4,
   .reg [⟨(some 6), .mv (.t 0), none⟩,
      ⟨(some 7), .call (.c (.fn (.func 62) [] [])) [(.t 6)], none⟩,
      ⟨(some 3), .alloc 111 [(.int .i64 0), (.str []), (.int .i64 0)], none⟩,
      ⟨none, .store 3 (.t 3) (.t 7), none⟩],
   .seq 5 12,
   .seq 6 7,
   .reg [⟨(some 8), .fadr 0 (.t 3), none⟩,
      ⟨(some 9), .load none (.t 8), none⟩,
      ⟨(some 10), .bin .neq (.t 9) (.c (.int .i64 0)), none⟩,
      ⟨(some 11), .mv (.t 10), none⟩,
      ⟨(some 12), .fadr 1 (.t 3), some (11, false)⟩,
      ⟨(some 13), .load none (.t 12), some (11, false)⟩,
      ⟨(some 14), .bin .eql (.t 13) (.c (.str [103, 114, 111, 117, 112])), some (11, false)⟩,
      ⟨(some 15), .pick (.t 11) (.c (.bool true)) (.t 14), none⟩],
   .cond (.t 15) 8 11,
   .seq 9 10,
   .reg [⟨(some 16), .mv (.t 0), none⟩,
      ⟨(some 17), .call (.c (.fn (.func 64) [] [])) [(.t 16)], none⟩,
      ⟨none, .store 19 (.t 2) (.t 17), none⟩],
   .ret,
   .skip,
   .seq 13 14,
   .greg [[], [], [], [], [false, false, false, false], [], [], [], [], []] [⟨(some 19), .mv (.t 0), none⟩,
      ⟨(some 20), .call (.c (.fn (.func 65) [] [])) [(.t 19)], none⟩,
      ⟨(some 21), .fadr 1 (.t 3), none⟩,
      ⟨(some 22), .load none (.t 21), none⟩,
      ⟨(some 23), .act (.look .s .nilf true) [(.t 20), (.t 22)], none⟩,
      ⟨(some 18), .mv (.t 23), none⟩,
      ⟨(some 24), .ext 0 (.t 18), none⟩,
      ⟨(some 25), .ext 1 (.t 18), none⟩,
      ⟨(some 4), .mv (.t 24), none⟩,
      ⟨(some 5), .mv (.t 25), none⟩],
   .seq 15 20,
   .seq 16 17,
   .reg [⟨(some 26), .mv (.t 5), none⟩,
      ⟨(some 27), .un .not (.t 26), none⟩],
   .cond (.t 27) 18 19,
   .reg [⟨(some 28), .mv (.t 0), none⟩,
      ⟨(some 29), .call (.c (.fn (.func 63) [] [])) [(.t 28), (.c (.int .i64 4))], none⟩],
   .skip,
   .seq 21 22,
   .reg [⟨(some 30), .mv (.t 0), none⟩,
      ⟨(some 31), .call (.c (.fn (.func 66) [] [])) [(.t 30)], none⟩],
   .seq 23 24,
   .reg [⟨(some 32), .mv (.t 4), none⟩,
      ⟨(some 33), .fadr 1 (.t 3), none⟩,
      ⟨(some 34), .load none (.t 33), none⟩,
      ⟨(some 35), .call (.t 32) [(.t 34)], none⟩,
      ⟨none, .store 19 (.t 2) (.t 35), none⟩],
   .ret]⟩

/-- (*luminaire/grammar.reader).selection -/
def F45 : FT := ⟨24, 1, [.tmp 2],
  [.seq 1 2,
   .reg [⟨(some 2), .mv (.c .nils), none⟩],
   .seq 3 4,
   .reg [⟨(some 4), .mv (.t 0), none⟩,
      ⟨(some 5), .call (.c (.fn (.func 90) [] [])) [(.t 4), (.c (.int .i64 0))], none⟩,
      ⟨(some 6), .bslice 43 4 [(.t 5)], none⟩,
      ⟨(some 3), .mv (.t 6), none⟩],
   .block 0 5,
   .loop 6,
   .block 1 7,
   .block 2 8,
   .seq 9 10,
   .reg [⟨(some 9), .mv (.t 0), none⟩,
      ⟨(some 10), .call (.c (.fn (.func 91) [] [])) [(.t 9), (.c (.str [43]))], none⟩,
      ⟨(some 8), .mv (.t 10), none⟩],
   .cond (.t 8) 11 12,
   .reg [⟨(some 11), .mv (.t 3), none⟩,
      ⟨(some 12), .mv (.t 0), none⟩,
      ⟨(some 13), .call (.c (.fn (.func 90) [] [])) [(.t 12), (.c (.int .i64 0))], none⟩,
      ⟨(some 14), .bslice 43 4 [(.t 13)], none⟩,
      ⟨(some 15), .append 43 4 32 (.t 11) (.t 14), none⟩,
      ⟨(some 3), .mv (.t 15), none⟩],
   .seq 13 14,
   .reg [⟨(some 17), .mv (.t 0), none⟩,
      ⟨(some 18), .call (.c (.fn (.func 91) [] [])) [(.t 17), (.c (.str [45]))], none⟩,
      ⟨(some 16), .mv (.t 18), none⟩],
   .cond (.t 16) 15 16,
   .reg [⟨(some 19), .mv (.t 3), none⟩,
      ⟨(some 20), .mv (.t 0), none⟩,
      ⟨(some 21), .call (.c (.fn (.func 90) [] [])) [(.t 20), (.c (.int .i64 1))], none⟩,
      ⟨(some 22), .bslice 43 4 [(.t 21)], none⟩,
      ⟨(some 23), .append 43 4 32 (.t 19) (.t 22), none⟩,
      ⟨(some 3), .mv (.t 23), none⟩],
   .seq 17 18,
   .reg [⟨(some 7), .mv (.t 3), none⟩,
      ⟨(some 2), .mv (.t 7), none⟩],
   .ret]⟩

/-- luminaire/grammar.Attr -/
def F13 : FT := ⟨31, 1, [.tmp 2, .tmp 3],
  [.seq 1 2,
   .reg [⟨(some 2), .mv (.c (.int .i64 0)), none⟩,
      ⟨(some 3), .mv (.c (.int .i64 0)), none⟩],
   .seq 3 10,
   .seq 4 5,
   .reg [⟨(some 8), .mv (.t 0), none⟩,
      ⟨(some 9), .bin .eql (.t 8) (.c (.str [])), none⟩,
      ⟨(some 10), .mv (.t 9), none⟩,
      ⟨(some 11), .mv (.t 0), some (10, false)⟩,
      ⟨(some 12), .call (.c (.fn (.func 23) [] [])) [(.t 11), (.c (.str [32]))], some (10, false)⟩,
      ⟨(some 13), .pick (.t 10) (.c (.bool true)) (.t 12), none⟩],
   .cond (.t 13) 6 9,
   .seq 7 8,
   .reg [⟨(some 2), .mv (.c (.int .i64 0)), none⟩,
      ⟨(some 3), .mv (.c (.int .i64 8)), none⟩],
   .ret,
   .skip,
   .seq 11 20,
   .seq 12 13,
   .reg [⟨(some 14), .call (.c (.fn (.func 32) [] [])) [(.c (.str [105, 110, 116, 101, 110, 115, 105, 116, 121, 32, 112, 97, 110, 32, 116, 105, 108, 116, 32, 114, 101, 100, 32, 103, 114, 101, 101, 110, 32, 98, 108, 117, 101, 32, 119, 104, 105, 116, 101, 32, 97, 109, 98, 101, 114, 32, 99, 121, 97, 110, 32, 109, 97, 103, 101, 110, 116, 97, 32, 121, 101, 108, 108, 111, 119, 32, 103, 111, 98, 111, 32, 115, 104, 117, 116, 116, 101, 114, 32, 122, 111, 111, 109, 32, 102, 111, 99, 117, 115]))], none⟩,
      ⟨(some 15), .mv (.t 0), none⟩,
      ⟨(some 16), .call (.c (.fn (.func 31) [] [])) [(.t 14), (.t 15)], none⟩,
      ⟨(some 4), .mv (.t 16), none⟩],
   .seq 14 15,
   .reg [⟨(some 17), .mv (.t 4), none⟩,
      ⟨(some 18), .bin .geq (.t 17) (.c (.int .i64 0)), none⟩],
   .cond (.t 18) 16 19,
   .seq 17 18,
   .reg [⟨(some 19), .mv (.t 4), none⟩,
      ⟨(some 2), .mv (.t 19), none⟩,
      ⟨(some 3), .mv (.c (.int .i64 0)), none⟩],
   .ret,
   .skip,
   .seq 21 22,
   .reg [⟨(some 20), .act .mkmap [], none⟩,
      ⟨none, .act (.mset .s) [(.t 20), (.c (.str [112, 111, 115, 105, 116, 105, 111, 110])), (.c (.int .i64 1))], none⟩,
      ⟨none, .act (.mset .s) [(.t 20), (.c (.str [99, 111, 108, 111, 117, 114])), (.c (.int .i64 2))], none⟩,
      ⟨none, .act (.mset .s) [(.t 20), (.c (.str [98, 101, 97, 109])), (.c (.int .i64 3))], none⟩,
      ⟨(some 21), .mv (.t 20), none⟩,
      ⟨(some 5), .mv (.t 21), none⟩],
   .seq 23 32,
   .seq 24 25,
   .reg [⟨(some 23), .mv (.t 5), none⟩,
      ⟨(some 24), .mv (.t 0), none⟩,
      ⟨(some 25), .act (.look .s (.int .i64 0) true) [(.t 23), (.t 24)], none⟩,
      ⟨(some 22), .mv (.t 25), none⟩,
      ⟨(some 26), .ext 0 (.t 22), none⟩,
      ⟨(some 27), .ext 1 (.t 22), none⟩,
      ⟨(some 6), .mv (.t 26), none⟩,
      ⟨(some 7), .mv (.t 27), none⟩],
   .seq 26 27,
   .reg [⟨(some 28), .mv (.t 7), none⟩],
   .cond (.t 28) 28 31,
   .seq 29 30,
   .reg [⟨(some 29), .mv (.t 6), none⟩,
      ⟨(some 30), .bin .add (.c (.int .i64 15)) (.t 29), none⟩,
      ⟨(some 2), .mv (.t 30), none⟩,
      ⟨(some 3), .mv (.c (.int .i64 0)), none⟩],
   .ret,
   .skip,
   .seq 33 34,
   .reg [⟨(some 2), .mv (.c (.int .i64 0)), none⟩,
      ⟨(some 3), .mv (.c (.int .i64 8)), none⟩],
   .ret]⟩

/-- luminaire/grammar.Seconds -/
def F15 : FT := ⟨47, 1, [.tmp 2, .tmp 3],
  [.seq 1 2,
   .reg [⟨(some 2), .mv (.c (.int .i64 0)), none⟩,
      ⟨(some 3), .mv (.c (.int .i64 0)), none⟩],
   .seq 3 4,
   .reg [⟨(some 9), .mv (.t 0), none⟩,
      ⟨(some 10), .call (.c (.fn (.func 35) [] [])) [(.t 9), (.c (.str [46]))], none⟩,
      ⟨(some 8), .mv (.t 10), none⟩,
      ⟨(some 11), .ext 0 (.t 8), none⟩,
      ⟨(some 12), .ext 1 (.t 8), none⟩,
      ⟨(some 13), .ext 2 (.t 8), none⟩,
      ⟨(some 4), .mv (.t 11), none⟩,
      ⟨(some 5), .mv (.t 12), none⟩,
      ⟨(some 6), .mv (.t 13), none⟩],
   .seq 5 12,
   .seq 6 7,
   .reg [⟨(some 14), .mv (.t 4), none⟩,
      ⟨(some 15), .call (.c (.fn (.func 36) [] [])) [(.t 14)], none⟩,
      ⟨(some 16), .un .not (.t 15), none⟩,
      ⟨(some 17), .mv (.t 16), none⟩,
      ⟨(some 18), .mv (.t 6), some (17, false)⟩,
      ⟨(some 19), .mv (.t 18), some (17, false)⟩,
      ⟨(some 20), .mv (.t 5), some (19, true)⟩,
      ⟨(some 21), .bin .eql (.t 20) (.c (.str [])), some (19, true)⟩,
      ⟨(some 22), .mv (.t 21), some (19, true)⟩,
      ⟨(some 23), .mv (.t 5), some (22, false)⟩,
      ⟨(some 24), .lens (.t 23), some (22, false)⟩,
      ⟨(some 25), .bin .gtr (.t 24) (.c (.int .i64 3)), some (22, false)⟩,
      ⟨(some 26), .pick (.t 22) (.c (.bool true)) (.t 25), some (19, true)⟩,
      ⟨(some 27), .mv (.t 26), some (19, true)⟩,
      ⟨(some 28), .mv (.t 5), some (27, false)⟩,
      ⟨(some 29), .call (.c (.fn (.func 37) [] [])) [(.t 28), (.c (.str [48, 49, 50, 51, 52, 53, 54, 55, 56, 57]))], some (27, false)⟩,
      ⟨(some 30), .bin .neq (.t 29) (.c (.str [])), some (27, false)⟩,
      ⟨(some 31), .pick (.t 27) (.c (.bool true)) (.t 30), some (19, true)⟩,
      ⟨(some 32), .pick (.t 19) (.t 31) (.c (.bool false)), some (17, false)⟩,
      ⟨(some 33), .pick (.t 17) (.c (.bool true)) (.t 32), none⟩],
   .cond (.t 33) 8 11,
   .seq 9 10,
   .reg [⟨(some 2), .mv (.c (.int .i64 0)), none⟩,
      ⟨(some 3), .mv (.c (.int .i64 3)), none⟩],
   .ret,
   .skip,
   .seq 13 14,
   .dreg 11 [⟨(some 34), .mv (.t 4), none⟩,
      ⟨(some 35), .call (.c (.fn (.func 38) [] [])) [(.t 34)], none⟩,
      ⟨(some 36), .bin .mul (.c (.int .i64 1000)) (.t 35), none⟩,
      ⟨(some 37), .mv (.t 5), none⟩,
      ⟨(some 38), .bin .add (.t 37) (.c (.str [48, 48, 48])), none⟩,
      ⟨(some 39), .slices (.t 38) none (some (.c (.int .i64 3))), none⟩,
      ⟨(some 40), .bin .add (.c (.str [49])) (.t 39), none⟩,
      ⟨(some 41), .call (.c (.fn (.func 38) [] [])) [(.t 40)], none⟩,
      ⟨(some 42), .bin .add (.t 36) (.t 41), none⟩,
      ⟨(some 43), .bin .sub (.t 42) (.c (.int .i64 1000)), none⟩,
      ⟨(some 7), .mv (.t 43), none⟩],
   .seq 15 22,
   .seq 16 17,
   .reg [⟨(some 44), .mv (.t 7), none⟩,
      ⟨(some 45), .bin .gtr (.t 44) (.c (.int .i64 10000000)), none⟩],
   .cond (.t 45) 18 21,
   .seq 19 20,
   .reg [⟨(some 2), .mv (.c (.int .i64 0)), none⟩,
      ⟨(some 3), .mv (.c (.int .i64 2)), none⟩],
   .ret,
   .skip,
   .seq 23 24,
   .reg [⟨(some 46), .mv (.t 7), none⟩,
      ⟨(some 2), .mv (.t 46), none⟩,
      ⟨(some 3), .mv (.c (.int .i64 0)), none⟩],
   .ret]⟩

/-- luminaire/grammar.digits -/
def F36 : FT := ⟨20, 1, [.tmp 2],
  [.seq 1 2,
   .reg [⟨(some 2), .mv (.c (.bool false)), none⟩],
   .seq 3 4,
   .reg [⟨(some 3), .mv (.t 0), none⟩,
      ⟨(some 4), .bin .neq (.t 3) (.c (.str [])), none⟩,
      ⟨(some 5), .mv (.t 4), none⟩,
      ⟨(some 6), .mv (.t 0), some (5, true)⟩,
      ⟨(some 7), .call (.c (.fn (.func 37) [] [])) [(.t 6), (.c (.str [48, 49, 50, 51, 52, 53, 54, 55, 56, 57]))], some (5, true)⟩,
      ⟨(some 8), .bin .eql (.t 7) (.c (.str [])), some (5, true)⟩,
      ⟨(some 9), .pick (.t 5) (.t 8) (.c (.bool false)), none⟩,
      ⟨(some 10), .mv (.t 9), none⟩,
      ⟨(some 11), .mv (.t 0), some (10, true)⟩,
      ⟨(some 12), .lens (.t 11), some (10, true)⟩,
      ⟨(some 13), .bin .eql (.t 12) (.c (.int .i64 1)), some (10, true)⟩,
      ⟨(some 14), .mv (.t 13), some (10, true)⟩,
      ⟨(some 15), .mv (.t 0), some (14, false)⟩,
      ⟨(some 16), .ichr (.t 15) (.c (.int .i64 0)), some (14, false)⟩,
      ⟨(some 17), .bin .neq (.t 16) (.c (.int .u8 48)), some (14, false)⟩,
      ⟨(some 18), .pick (.t 14) (.c (.bool true)) (.t 17), some (10, true)⟩,
      ⟨(some 19), .pick (.t 10) (.t 18) (.c (.bool false)), none⟩,
      ⟨(some 2), .mv (.t 19), none⟩],
   .ret]⟩

/-- luminaire/grammar.value -/
def F38 : FT := ⟨14, 1, [.tmp 2],
  [.seq 1 2,
   .reg [⟨(some 2), .mv (.c (.int .i64 0)), none⟩],
   .seq 3 4,
   .reg [⟨(some 6), .mv (.t 0), none⟩,
      ⟨(some 7), .call (.c (.fn (.func 87) [] [])) [(.t 6)], none⟩,
      ⟨(some 5), .mv (.t 7), none⟩,
      ⟨(some 8), .ext 0 (.t 5), none⟩,
      ⟨(some 9), .ext 1 (.t 5), none⟩,
      ⟨(some 3), .mv (.t 8), none⟩,
      ⟨(some 4), .mv (.t 9), none⟩],
   .seq 5 12,
   .seq 6 7,
   .reg [⟨(some 10), .mv (.t 4), none⟩,
      ⟨(some 11), .gen (.eqi true) [(.t 10)], none⟩],
   .cond (.t 11) 8 11,
   .seq 9 10,
   .reg [⟨(some 2), .mv (.c (.int .i64 1099511627776)), none⟩],
   .ret,
   .skip,
   .seq 13 14,
   .reg [⟨(some 12), .mv (.t 3), none⟩,
      ⟨(some 13), .gen .mn [(.t 12), (.c (.int .i64 1099511627776))], none⟩,
      ⟨(some 2), .mv (.t 13), none⟩],
   .ret]⟩

/-- slices.Index[[]string,string] -/
def F31 : FT := ⟨19, 2, [.tmp 4],
  [.seq 1 2,
   .reg [⟨(some 4), .mv (.c (.int .i64 0)), none⟩],
   .seq 3 25,
   .seq 4 5,
   .reg [⟨(some 6), .mv (.t 0), none⟩,
      ⟨(some 7), .len (.t 6), none⟩,
      ⟨(some 8), .mv (.c (.int .i64 0)), none⟩],
   .block 0 6,
   .loop 7,
   .seq 8 9,
   .reg [⟨(some 9), .bin .lss (.t 8) (.t 7), none⟩],
   .seq 10 13,
   .cond (.t 9) 11 12,
   .skip,
   .exit 0,
   .seq 14 24,
   .block 1 15,
   .seq 16 17,
   .reg [⟨(some 10), .mv (.t 8), none⟩,
      ⟨(some 5), .mv (.t 10), none⟩],
   .seq 18 19,
   .reg [⟨(some 11), .mv (.t 1), none⟩,
      ⟨(some 12), .mv (.t 0), none⟩,
      ⟨(some 13), .mv (.t 5), none⟩,
      ⟨(some 14), .iadr 1 (.t 12) (.t 13), none⟩,
      ⟨(some 15), .load none (.t 14), none⟩,
      ⟨(some 16), .bin .eql (.t 11) (.t 15), none⟩],
   .cond (.t 16) 20 23,
   .seq 21 22,
   .reg [⟨(some 17), .mv (.t 5), none⟩,
      ⟨(some 4), .mv (.t 17), none⟩],
   .ret,
   .skip,
   .reg [⟨(some 18), .bin .add (.t 8) (.c (.int .i64 1)), none⟩,
      ⟨(some 8), .mv (.t 18), none⟩],
   .seq 26 27,
   .reg [⟨(some 4), .mv (.c (.int .i64 (-1))), none⟩],
   .ret]⟩

/-- internal/stringslite.Cut -/
def F83 : FT := ⟨23, 2, [.tmp 4, .tmp 5, .tmp 6],
  [.seq 1 2,
   .reg [⟨(some 4), .mv (.c (.str [])), none⟩,
      ⟨(some 5), .mv (.c (.str [])), none⟩,
      ⟨(some 6), .mv (.c (.bool false)), none⟩],
   .seq 3 12,
   .seq 4 5,
   .reg [⟨(some 8), .mv (.t 0), none⟩,
      ⟨(some 9), .mv (.t 1), none⟩,
      ⟨(some 10), .call (.c (.fn (.func 98) [] [])) [(.t 8), (.t 9)], none⟩,
      ⟨(some 7), .mv (.t 10), none⟩],
   .seq 6 7,
   .reg [⟨(some 11), .mv (.t 7), none⟩,
      ⟨(some 12), .bin .geq (.t 11) (.c (.int .i64 0)), none⟩],
   .cond (.t 12) 8 11,
   .seq 9 10,
   .dreg 12 [⟨(some 13), .mv (.t 0), none⟩,
      ⟨(some 14), .mv (.t 7), none⟩,
      ⟨(some 15), .slices (.t 13) none (some (.t 14)), none⟩,
      ⟨(some 16), .mv (.t 0), none⟩,
      ⟨(some 17), .mv (.t 7), none⟩,
      ⟨(some 18), .mv (.t 1), none⟩,
      ⟨(some 19), .lens (.t 18), none⟩,
      ⟨(some 20), .bin .add (.t 17) (.t 19), none⟩,
      ⟨(some 21), .slices (.t 16) (some (.t 20)) none, none⟩,
      ⟨(some 4), .mv (.t 15), none⟩,
      ⟨(some 5), .mv (.t 21), none⟩,
      ⟨(some 6), .mv (.c (.bool true)), none⟩],
   .ret,
   .skip,
   .seq 13 14,
   .reg [⟨(some 22), .mv (.t 0), none⟩,
      ⟨(some 4), .mv (.t 22), none⟩,
      ⟨(some 5), .mv (.c (.str [])), none⟩,
      ⟨(some 6), .mv (.c (.bool false)), none⟩],
   .ret]⟩

/-- strings.Cut -/
def F35 : FT := ⟨13, 2, [.tmp 4, .tmp 5, .tmp 6],
  [.seq 1 2,
   .reg [⟨(some 4), .mv (.c (.str [])), none⟩,
      ⟨(some 5), .mv (.c (.str [])), none⟩,
      ⟨(some 6), .mv (.c (.bool false)), none⟩],
   .seq 3 4,
   .reg [⟨(some 7), .mv (.t 0), none⟩,
      ⟨(some 8), .mv (.t 1), none⟩,
      ⟨(some 9), .call (.c (.fn (.func 83) [] [])) [(.t 7), (.t 8)], none⟩,
      ⟨(some 10), .ext 0 (.t 9), none⟩,
      ⟨(some 11), .ext 1 (.t 9), none⟩,
      ⟨(some 12), .ext 2 (.t 9), none⟩,
      ⟨(some 4), .mv (.t 10), none⟩,
      ⟨(some 5), .mv (.t 11), none⟩,
      ⟨(some 6), .mv (.t 12), none⟩],
   .ret]⟩

theorem F62_ok : compFn Tryz.prog 62 = some F62 := by kernel_rfl
theorem F63_ok : compFn Tryz.prog 63 = some F63 := by kernel_rfl
theorem F64_ok : compFn Tryz.prog 64 = some F64 := by kernel_rfl
theorem F65_ok : compFn Tryz.prog 65 = some F65 := by kernel_rfl
theorem F66_ok : compFn Tryz.prog 66 = some F66 := by kernel_rfl
theorem F90_ok : compFn Tryz.prog 90 = some F90 := by kernel_rfl
theorem F91_ok : compFn Tryz.prog 91 = some F91 := by kernel_rfl
theorem F108_ok : compFn Tryz.prog 108 = some F108 := by kernel_rfl
theorem F109_ok : compFn Tryz.prog 109 = some F109 := by kernel_rfl
theorem F110_ok : compFn Tryz.prog 110 = some F110 := by kernel_rfl
theorem F111_ok : compFn Tryz.prog 111 = some F111 := by kernel_rfl
theorem F112_ok : compFn Tryz.prog 112 = some F112 := by kernel_rfl
theorem F113_ok : compFn Tryz.prog 113 = some F113 := by kernel_rfl
theorem F114_ok : compFn Tryz.prog 114 = some F114 := by kernel_rfl
theorem F115_ok : compFn Tryz.prog 115 = some F115 := by kernel_rfl
theorem F116_ok : compFn Tryz.prog 116 = some F116 := by kernel_rfl
theorem F117_ok : compFn Tryz.prog 117 = some F117 := by kernel_rfl
theorem F118_ok : compFn Tryz.prog 118 = some F118 := by kernel_rfl
theorem F119_ok : compFn Tryz.prog 119 = some F119 := by kernel_rfl
theorem F120_ok : compFn Tryz.prog 120 = some F120 := by kernel_rfl
theorem F121_ok : compFn Tryz.prog 121 = some F121 := by kernel_rfl
theorem F122_ok : compFn Tryz.prog 122 = some F122 := by kernel_rfl
theorem F123_ok : compFn Tryz.prog 123 = some F123 := by kernel_rfl
theorem F124_ok : compFn Tryz.prog 124 = some F124 := by kernel_rfl
theorem F141_ok : compFn Tryz.prog 141 = some F141 := by kernel_rfl
theorem F142_ok : compFn Tryz.prog 142 = some F142 := by kernel_rfl
theorem F168_ok : compFn Tryz.prog 168 = some F168 := by kernel_rfl
theorem F170_ok : compFn Tryz.prog 170 = some F170 := by kernel_rfl
theorem F171_ok : compFn Tryz.prog 171 = some F171 := by kernel_rfl
theorem F172_ok : compFn Tryz.prog 172 = some F172 := by kernel_rfl
theorem F173_ok : compFn Tryz.prog 173 = some F173 := by kernel_rfl
theorem F174_ok : compFn Tryz.prog 174 = some F174 := by kernel_rfl
theorem F175_ok : compFn Tryz.prog 175 = some F175 := by kernel_rfl
theorem F27_ok : compFn Tryz.prog 27 = some F27 := by kernel_rfl
theorem F45_ok : compFn Tryz.prog 45 = some F45 := by kernel_rfl
theorem F13_ok : compFn Tryz.prog 13 = some F13 := by kernel_rfl
theorem F15_ok : compFn Tryz.prog 15 = some F15 := by kernel_rfl
theorem F36_ok : compFn Tryz.prog 36 = some F36 := by kernel_rfl
theorem F38_ok : compFn Tryz.prog 38 = some F38 := by kernel_rfl
theorem F31_ok : compFn Tryz.prog 31 = some F31 := by kernel_rfl
theorem F83_ok : compFn Tryz.prog 83 = some F83 := by kernel_rfl
theorem F35_ok : compFn Tryz.prog 35 = some F35 := by kernel_rfl
end Go.Proofs.YtnondemehfkalaaGreatDoor
