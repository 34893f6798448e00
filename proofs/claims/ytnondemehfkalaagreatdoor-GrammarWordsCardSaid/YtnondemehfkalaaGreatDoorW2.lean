/- DERIVED: THE SHELF's CONTRACTS AT THIS DUMP, IN PLAIN WORDS (tools/lay-plain.mjs out of 'TryzShelf.lean', which tools/lay-shelf.mjs wrote): THE SAME DECLARATIONS UNDER THE SAME NAMES: 'import', 'namespace', 'open', 'def', 'theorem' AND NOTHING ELSE: no command of the shelf's: FOR A HAND-IN. Each laying: the table of numbers ('.._ren') and one theorem, a field a fact of the dump's own or the kernel's comparison; each contract: ONE APPLICATION. The reader of commands: what its functions come to, in plain Lean; first functions. The reader of commands: words, signs, numbers. The compiled code of the functions of this seat, printed by a program (ShaMain), and that it is the translation's: checked by the kernel. The library's contracts that this seat's laws use. What the functions of the reader of commands read, in plain Lean. Attr and Seconds. Attr. The compiled code of the functions of this seat, printed by a program (ShaMain), and that it is the translation's: checked by the kernel. Percentages and numbers of cues. Percentages. Numbers of cues. The reader of commands: numbers, levels, times, names. The reader of commands: channels, profiles, attributes, terms. -/
import Derived.Shelf.Strings.Builder1
import Derived.Shelf.Strings.Builder2
import Derived.Shelf.Strings.OnBuilder
import Derived.Shelf.Strings.Trim
import Derived.Shelf.Small.Utf8
import Derived.Shelf.Small.Strs
import Derived.Shelf.Strings.BuilderF
import Derived.Shelf.Strconv.Atoi
import Derived.Shelf.Strconv.Itoa0
import Derived.Shelf.Strconv.Itoa1
import Derived.Shelf.LaysM
import Derived.Shelf.Strconv.Itoa2
import Derived.Shelf.Strconv.Itoa3
import Derived.Shelf.Strconv.AtoiErrFast
import Derived.Shelf.Strconv.ParseIntEmpty
import Derived.Shelf.Strconv.AtoiFail
import Derived.Shelf.Strconv.Clone
import Derived.Shelf.Strconv.SyntaxError
import Derived.Shelf.LaysC
import Derived.Shelf.Strconv.ToError
import Derived.Shelf.Strconv.Lower
import Derived.Shelf.Strconv.ParseUint10
import Derived.Shelf.Strconv.ParseUint10Empty
import Derived.Shelf.Strconv.ParseUint10Any
import Derived.Shelf.Strconv.ParseInt10
import Derived.Shelf.Strconv.AtoiLong
import Derived.Shelf.Strconv.AtoiInnerAll
import Derived.Shelf.Strconv.RangeError
import Derived.Shelf.Strconv.ToErrorRange
import Derived.Shelf.Strconv.AtoiAll
import Derived.Shelf.Strings.Search1
import Derived.Shelf.Strings.Search2
import Derived.Shelf.Strings.Search3
import Derived.Shelf.Strings.Cut
import Derived.Shelf.Strings.Count
import Derived.Shelf.Strings.Shaped
import Derived.Shelf.GgClosure.StringsIndexFunc
import Derived.Shelf.Strings.Prefix
import Derived.Shelf.Strings.Split
import Derived.Shelf.Strings.Fields
import Derived.Shelf.Strings.Replace
import Derived.Shelf.Strings.SplitShaped
import Derived.Shelf.Unicode.Latin
import Derived.Shelf.Strings.Runes
import Derived.Shelf.Strings.AsciiSet
import Derived.Shelf.Unicode.DecodeSlow
import Derived.Shelf.Unicode.Is16White
import Derived.Shelf.Unicode.IsSpaceAny
import Derived.Shelf.Unicode.Is16WhiteD
import Derived.Shelf.Unicode.IsSpaceAnyD
import Derived.Shelf.Strings.FieldsAny
import Derived.Shelf.Strings.FieldsFuncAny
import Derived.Shelf.Unicode.CaseLookup
import Derived.Shelf.Unicode.CaseConvert
import Derived.Shelf.Unicode.CaseTo
import Derived.Shelf.Unicode.CaseLaid
import Derived.Shelf.Unicode.Is16Any
import Derived.Shelf.Unicode.Is32Any
import Derived.Shelf.Unicode.ExclAny
import Derived.Test.YtnondemehfkalaaGreatDoorProg
import Derived.Test.YtnondemehfkalaaGreatDoorW1
import Derived.Test.YtnondemehfkalaaGreatDoorShaBB
import Derived.Test.YtnondemehfkalaaGreatDoorShaT
import Derived.KernelRfl
import Derived.Lib.AtoiAllCases
import Derived.Lib.AtoiErrMem
import Derived.Laws.RangeAny
set_option linter.unusedSimpArgs false
set_option linter.unusedVariables false
namespace Go.Proofs
open Go.Shelf
def Tryz.lays158_ren : Go.Shelf.Ren := ⟨fun | 158 => 25 | 165 => 54 | 166 => 55 | 167 => 56 | 169 => 57 | 230 => 58 | 203 => 59 | 240 => 101 | 241 => 102 | 197 => 100 | 118 => 103 | 168 => 104 | 270 => 105 | 262 => 106 | 276 => 152 | 277 => 153 | 260 => 151 | 242 => 154 | 313 => 155 | 278 => 202 | 274 => 203 | 275 => 204 | n => n, fun | 9 => 9 | 4 => 4 | 3 => 3 | 5 => 5 | 72 => 93 | 0 => 0 | 76 => 97 | 75 => 96 | 107 => 102 | 70 => 90 | 20 => 20 | 37 => 91 | 127 => 132 | 21 => 21 | 105 => 129 | 164 => 163 | 162 => 169 | 203 => 167 | 119 => 123 | 46 => 162 | 139 => 201 | 138 => 200 | 51 => 50 | 160 => 202 | 208 => 218 | 206 => 216 | 80 => 100 | n => n, fun | 13 => 3 | 3 => 5 | 4 => 6 | n => n⟩
theorem Tryz.lays158 : Go.Proofs.Lays.n158 Tryz.prog Tryz.lays158_ren := {
  mixed := by kernel_rfl
  f118 := Tryz.func103.trans (congrArg some (by kernel_rfl))
  f158 := Tryz.func25.trans (congrArg some (by kernel_rfl))
  f165 := Tryz.func54.trans (congrArg some (by kernel_rfl))
  f166 := Tryz.func55.trans (congrArg some (by kernel_rfl))
  f167 := Tryz.func56.trans (congrArg some (by kernel_rfl))
  f168 := Tryz.func104.trans (congrArg some (by kernel_rfl))
  f169 := Tryz.func57.trans (congrArg some (by kernel_rfl))
  f197 := Tryz.func100.trans (congrArg some (by kernel_rfl))
  f203 := Tryz.func59.trans (congrArg some (by kernel_rfl))
  f230 := Tryz.func58.trans (congrArg some (by kernel_rfl))
  f240 := Tryz.func101.trans (congrArg some (by kernel_rfl))
  f241 := Tryz.func102.trans (congrArg some (by kernel_rfl))
  f242 := Tryz.func154.trans (congrArg some (by kernel_rfl))
  f260 := Tryz.func151.trans (congrArg some (by kernel_rfl))
  f262 := Tryz.func106.trans (congrArg some (by kernel_rfl))
  f270 := Tryz.func105.trans (congrArg some (by kernel_rfl))
  f274 := Tryz.func203.trans (congrArg some (by kernel_rfl))
  f275 := Tryz.func204.trans (congrArg some (by kernel_rfl))
  f276 := Tryz.func152.trans (congrArg some (by kernel_rfl))
  f277 := Tryz.func153.trans (congrArg some (by kernel_rfl))
  f278 := Tryz.func202.trans (congrArg some (by kernel_rfl))
  f313 := Tryz.func155.trans (congrArg some (by kernel_rfl))
  t0 := Tryz.underlying0
  a0 := Tryz.isAgg0
  z0 := Tryz.sizeOf0
  v0 := Tryz.zeroValue0
  t3 := Tryz.underlying3
  a3 := Tryz.isAgg3
  z3 := Tryz.sizeOf3
  v3 := Tryz.zeroValue3
  t4 := Tryz.underlying4
  a4 := Tryz.isAgg4
  z4 := Tryz.sizeOf4
  v4 := Tryz.zeroValue4
  t5 := Tryz.underlying5
  a5 := Tryz.isAgg5
  z5 := Tryz.sizeOf5
  v5 := Tryz.zeroValue5
  t9 := Tryz.underlying9
  a9 := Tryz.isAgg9
  z9 := Tryz.sizeOf9
  v9 := Tryz.zeroValue9
  t20 := Tryz.underlying20
  a20 := Tryz.isAgg20
  z20 := Tryz.sizeOf20
  v20 := Tryz.zeroValue20
  t21 := Tryz.underlying21
  a21 := Tryz.isAgg21
  z21 := Tryz.sizeOf21
  v21 := Tryz.zeroValue21
  t37 := Tryz.underlying91
  a37 := Tryz.isAgg91
  z37 := Tryz.sizeOf91
  v37 := Tryz.zeroValue91
  t46 := Tryz.underlying162
  a46 := Tryz.isAgg162
  z46 := Tryz.sizeOf162
  v46 := Tryz.zeroValue162
  t51 := Tryz.underlying50
  a51 := Tryz.isAgg50
  z51 := Tryz.sizeOf50
  v51 := Tryz.zeroValue50
  t70 := Tryz.underlying90
  a70 := Tryz.isAgg90
  z70 := Tryz.sizeOf90
  v70 := Tryz.zeroValue90
  t72 := Tryz.underlying93
  a72 := Tryz.isAgg93
  z72 := Tryz.sizeOf93
  v72 := Tryz.zeroValue93
  t75 := Tryz.underlying96
  a75 := Tryz.isAgg96
  z75 := Tryz.sizeOf96
  v75 := Tryz.zeroValue96
  t76 := Tryz.underlying97
  a76 := Tryz.isAgg97
  z76 := Tryz.sizeOf97
  v76 := Tryz.zeroValue97
  t105 := Tryz.underlying129
  a105 := Tryz.isAgg129
  z105 := Tryz.sizeOf129
  v105 := Tryz.zeroValue129
  t107 := Tryz.underlying102
  a107 := Tryz.isAgg102
  z107 := Tryz.sizeOf102
  v107 := Tryz.zeroValue102
  t119 := Tryz.underlying123
  a119 := Tryz.isAgg123
  z119 := Tryz.sizeOf123
  t127 := Tryz.underlying132
  a127 := Tryz.isAgg132
  z127 := Tryz.sizeOf132
  v127 := Tryz.zeroValue132
  t138 := Tryz.underlying200
  a138 := Tryz.isAgg200
  z138 := Tryz.sizeOf200
  v138 := Tryz.zeroValue200
  t139 := Tryz.underlying201
  a139 := Tryz.isAgg201
  z139 := Tryz.sizeOf201
  v139 := Tryz.zeroValue201
  t160 := Tryz.underlying202
  a160 := Tryz.isAgg202
  z160 := Tryz.sizeOf202
  v160 := Tryz.zeroValue202
  t162 := Tryz.underlying169
  a162 := Tryz.isAgg169
  z162 := Tryz.sizeOf169
  v162 := Tryz.zeroValue169
  t164 := Tryz.underlying163
  a164 := Tryz.isAgg163
  z164 := Tryz.sizeOf163
  v164 := Tryz.zeroValue163
  t203 := Tryz.underlying167
  a203 := Tryz.isAgg167
  z203 := Tryz.sizeOf167
  v203 := Tryz.zeroValue167
  t206 := Tryz.underlying216
  a206 := Tryz.isAgg216
  z206 := Tryz.sizeOf216
  v206 := Tryz.zeroValue216
  t208 := Tryz.underlying218
  a208 := Tryz.isAgg218
  z208 := Tryz.sizeOf218
  v208 := Tryz.zeroValue218
  g3 := by kernel_rfl
  g4 := by kernel_rfl
  g13 := by kernel_rfl }
theorem Tryz.Builder_Extra_158 : Builder.Extra Tryz.prog Tryz.lays158_ren := {
  sizeBuilder := by kernel_rfl
  liesBuilder := by kernel_rfl
  t5 := Tryz.underlying5
  a5 := Tryz.isAgg5
  z5 := Tryz.sizeOf5
  v5 := Tryz.zeroValue5
  infoByte := by kernel_rfl
  cellsByte := by kernel_rfl
  sizeByte := by kernel_rfl
  neB5 := by decide }
open Go.RowKit in
/-- strings.ToUpper: "ToUpper returns s with all Unicode letters mapped to their upper case.": ON ASCII TEXT OF AT MOST 2^47 BYTES. Below the heap's end the world is as it was: where a letter turns, the call makes a builder and its buffer. (LAID: no walk: one application.) -/
theorem Tryz.strings_ToUpper_ascii (s : ByteArray) (w : World) (hs : s.size ≤ 140737488355328) (hascii : ∀ (j : Nat) (b : UInt8), s.data.toList[j]? = some b → b.toNat < 128) :
    Calls Tryz.prog 25 #[.string s] w fun e w' => e = .returned (.string ⟨(Lib.toUpperA s.data.toList).toArray⟩) ∧ Below w.heap.size w w' := Any.strings_ToUpper_ascii Tryz.lays158 Tryz.Builder_Extra_158 s w hs hascii
def Tryz.lays162_ren : Go.Shelf.Ren := ⟨fun | 162 => 22 | 232 => 48 | 227 => 49 | 234 => 50 | 236 => 51 | 228 => 95 | 271 => 96 | 151 => 97 | 120 => 143 | 197 => 100 | 152 => 144 | 260 => 151 | 137 => 198 | 119 => 199 | 224 => 147 | 225 => 146 | 217 => 145 | 266 => 200 | n => n, fun | 9 => 9 | 4 => 4 | 3 => 3 | 5 => 5 | 117 => 84 | 116 => 83 | 0 => 0 | 124 => 87 | 21 => 21 | 105 => 129 | 46 => 162 | 119 => 123 | 139 => 201 | 138 => 200 | n => n, fun | 3 => 5 | 4 => 6 | n => n⟩
theorem Tryz.lays162 : Go.Proofs.Lays.n162 Tryz.prog Tryz.lays162_ren := {
  mixed := by kernel_rfl
  f119 := Tryz.func199.trans (congrArg some (by kernel_rfl))
  f120 := Tryz.func143.trans (congrArg some (by kernel_rfl))
  f137 := Tryz.func198.trans (congrArg some (by kernel_rfl))
  f151 := Tryz.func97.trans (congrArg some (by kernel_rfl))
  f152 := Tryz.func144.trans (congrArg some (by kernel_rfl))
  f162 := Tryz.func22.trans (congrArg some (by kernel_rfl))
  f197 := Tryz.func100.trans (congrArg some (by kernel_rfl))
  f217 := Tryz.func145.trans (congrArg some (by kernel_rfl))
  f224 := Tryz.func147.trans (congrArg some (by kernel_rfl))
  f225 := Tryz.func146.trans (congrArg some (by kernel_rfl))
  f227 := Tryz.func49.trans (congrArg some (by kernel_rfl))
  f228 := Tryz.func95.trans (congrArg some (by kernel_rfl))
  f232 := Tryz.func48.trans (congrArg some (by kernel_rfl))
  f234 := Tryz.func50.trans (congrArg some (by kernel_rfl))
  f236 := Tryz.func51.trans (congrArg some (by kernel_rfl))
  f260 := Tryz.func151.trans (congrArg some (by kernel_rfl))
  f266 := Tryz.func200.trans (congrArg some (by kernel_rfl))
  f271 := Tryz.func96.trans (congrArg some (by kernel_rfl))
  t0 := Tryz.underlying0
  a0 := Tryz.isAgg0
  z0 := Tryz.sizeOf0
  v0 := Tryz.zeroValue0
  t3 := Tryz.underlying3
  a3 := Tryz.isAgg3
  z3 := Tryz.sizeOf3
  v3 := Tryz.zeroValue3
  t4 := Tryz.underlying4
  a4 := Tryz.isAgg4
  z4 := Tryz.sizeOf4
  v4 := Tryz.zeroValue4
  t5 := Tryz.underlying5
  a5 := Tryz.isAgg5
  z5 := Tryz.sizeOf5
  v5 := Tryz.zeroValue5
  t9 := Tryz.underlying9
  a9 := Tryz.isAgg9
  z9 := Tryz.sizeOf9
  v9 := Tryz.zeroValue9
  t21 := Tryz.underlying21
  a21 := Tryz.isAgg21
  z21 := Tryz.sizeOf21
  v21 := Tryz.zeroValue21
  t46 := Tryz.underlying162
  a46 := Tryz.isAgg162
  z46 := Tryz.sizeOf162
  v46 := Tryz.zeroValue162
  t105 := Tryz.underlying129
  a105 := Tryz.isAgg129
  z105 := Tryz.sizeOf129
  v105 := Tryz.zeroValue129
  t116 := Tryz.underlying83
  a116 := Tryz.isAgg83
  z116 := Tryz.sizeOf83
  t117 := Tryz.underlying84
  a117 := Tryz.isAgg84
  z117 := Tryz.sizeOf84
  v117 := Tryz.zeroValue84
  t119 := Tryz.underlying123
  a119 := Tryz.isAgg123
  z119 := Tryz.sizeOf123
  t124 := Tryz.underlying87
  a124 := Tryz.isAgg87
  z124 := Tryz.sizeOf87
  v124 := Tryz.zeroValue87
  t138 := Tryz.underlying200
  a138 := Tryz.isAgg200
  z138 := Tryz.sizeOf200
  v138 := Tryz.zeroValue200
  t139 := Tryz.underlying201
  a139 := Tryz.isAgg201
  z139 := Tryz.sizeOf201
  v139 := Tryz.zeroValue201
  g3 := by kernel_rfl
  g4 := by kernel_rfl }
open Go.RowKit in
/-- strings.TrimRight: "TrimRight returns a slice of the string s, with all trailing Unicode code points contained in cutset removed.": AT A cutset OF ONE ASCII BYTE. The world is as it was. (LAID: no walk: one application.) -/
theorem Tryz.strings_TrimRight_one (s : ByteArray) (c : UInt8) (hc : c.toNat < 128) (w : World) (hs : s.size ≤ 9223372036854775807) :
    Calls Tryz.prog 22 #[.string s, .string ⟨#[c]⟩] w fun e w' => e = .returned (.string ⟨(Lib.trimRightB s.data.toList c).toArray⟩) ∧ w' = w := Any.strings_TrimRight_one Tryz.lays162 s c hc w hs
def Tryz.laysM171_ren : Go.Shelf.Ren := ⟨fun | 171 => 17 | 243 => 43 | 246 => 88 | 283 => 137 | 284 => 138 | 285 => 139 | 286 => 140 | 129 => 194 | 317 => 193 | 318 => 195 | 319 => 196 | 320 => 197 | 337 => 217 | 338 => 218 | n => n, fun | 3 => 3 | 9 => 9 | 2 => 2 | 4 => 4 | 171 => 153 | 0 => 0 | 53 => 154 | 37 => 91 | 5 => 5 | 173 => 157 | 212 => 193 | 51 => 50 | 20 => 20 | 213 => 194 | 46 => 162 | 232 => 227 | 233 => 228 | n => n, fun | 17 => 4 | 18 => 9 | 19 => 10 | n => n⟩
theorem Tryz.laysM171 : Go.Proofs.LaysM.n171 Tryz.prog Tryz.laysM171_ren := {
  mixed := by kernel_rfl
  f129 := Tryz.func194.trans (congrArg some (by kernel_rfl))
  f171 := Tryz.func17.trans (congrArg some (by kernel_rfl))
  f243 := Tryz.func43.trans (congrArg some (by kernel_rfl))
  f246 := Tryz.func88.trans (congrArg some (by kernel_rfl))
  f283 := Tryz.func137.trans (congrArg some (by kernel_rfl))
  f284 := Tryz.func138.trans (congrArg some (by kernel_rfl))
  f285 := Tryz.func139.trans (congrArg some (by kernel_rfl))
  f286 := Tryz.func140.trans (congrArg some (by kernel_rfl))
  f317 := Tryz.func193.trans (congrArg some (by kernel_rfl))
  f318 := Tryz.func195.trans (congrArg some (by kernel_rfl))
  f319 := Tryz.func196.trans (congrArg some (by kernel_rfl))
  f320 := Tryz.func197.trans (congrArg some (by kernel_rfl))
  f337 := Tryz.func217.trans (congrArg some (by kernel_rfl))
  f338 := Tryz.func218.trans (congrArg some (by kernel_rfl))
  t0 := Tryz.underlying0
  a0 := Tryz.isAgg0
  z0 := Tryz.sizeOf0
  v0 := Tryz.zeroValue0
  t2 := Tryz.underlying2
  a2 := Tryz.isAgg2
  z2 := Tryz.sizeOf2
  v2 := Tryz.zeroValue2
  t3 := Tryz.underlying3
  a3 := Tryz.isAgg3
  z3 := Tryz.sizeOf3
  v3 := Tryz.zeroValue3
  t4 := Tryz.underlying4
  a4 := Tryz.isAgg4
  z4 := Tryz.sizeOf4
  v4 := Tryz.zeroValue4
  t5 := Tryz.underlying5
  a5 := Tryz.isAgg5
  z5 := Tryz.sizeOf5
  v5 := Tryz.zeroValue5
  t9 := Tryz.underlying9
  a9 := Tryz.isAgg9
  z9 := Tryz.sizeOf9
  v9 := Tryz.zeroValue9
  t20 := Tryz.underlying20
  a20 := Tryz.isAgg20
  z20 := Tryz.sizeOf20
  v20 := Tryz.zeroValue20
  t37 := Tryz.underlying91
  a37 := Tryz.isAgg91
  z37 := Tryz.sizeOf91
  v37 := Tryz.zeroValue91
  t46 := Tryz.underlying162
  a46 := Tryz.isAgg162
  z46 := Tryz.sizeOf162
  v46 := Tryz.zeroValue162
  t51 := Tryz.underlying50
  a51 := Tryz.isAgg50
  z51 := Tryz.sizeOf50
  v51 := Tryz.zeroValue50
  t53 := Tryz.underlying154
  a53 := Tryz.isAgg154
  z53 := Tryz.sizeOf154
  v53 := Tryz.zeroValue154
  t171 := Tryz.underlying153
  a171 := Tryz.isAgg153
  z171 := Tryz.sizeOf153
  v171 := Tryz.zeroValue153
  t173 := Tryz.underlying157
  a173 := Tryz.isAgg157
  z173 := Tryz.sizeOf157
  v173 := Tryz.zeroValue157
  t212 := Tryz.underlying193
  a212 := Tryz.isAgg193
  z212 := Tryz.sizeOf193
  v212 := Tryz.zeroValue193
  t213 := Tryz.underlying194
  a213 := Tryz.isAgg194
  z213 := Tryz.sizeOf194
  t232 := Tryz.underlying227
  a232 := Tryz.isAgg227
  z232 := Tryz.sizeOf227
  v232 := Tryz.zeroValue227
  t233 := Tryz.underlying228
  a233 := Tryz.isAgg228
  z233 := Tryz.sizeOf228
  v233 := Tryz.zeroValue228
  g17 := by kernel_rfl
  g18 := by kernel_rfl
  g19 := by kernel_rfl
  i0 := by kernel_rfl
  i2 := by kernel_rfl
  i3 := by kernel_rfl
  i4 := by kernel_rfl
  i5 := by kernel_rfl
  i9 := by kernel_rfl
  i20 := by kernel_rfl
  i37 := by kernel_rfl
  i46 := by kernel_rfl
  i51 := by kernel_rfl
  i53 := by kernel_rfl
  i171 := by kernel_rfl
  i173 := by kernel_rfl
  i212 := by kernel_rfl
  i232 := by kernel_rfl
  i233 := by kernel_rfl
  m17 := by kernel_rfl
  m18 := by kernel_rfl
  m19 := by kernel_rfl }
open Go.RowKit Go.Sort Go.Lib in
/-- strconv.Itoa: "Itoa is equivalent to FormatInt(int64(i), 10).": i's DECIMAL NUMERAL ('Lib.itoa': a '-' where i is negative, then the digits), FOR EVERY int. The world behind the call: the world before it, new blocks behind the heap (the library's 'var a [24]byte'), draws. (LAID: no walk: one application.) -/
theorem Tryz.strconv_Itoa (n : Int) (h0 : -9223372036854775808 ≤ n) (h1 : n ≤ 9223372036854775807) (w : World) (htab : Lib.TabIs Tryz.prog w "internal/strconv.uint64pow10" .u64 Lib.pow10Tab) :
    Calls Tryz.prog 17 #[.int .i64 n] w fun e w' => e = .returned (.string ⟨(Lib.itoa n).toArray⟩) ∧ ∃ k os, w' = grow (w.drewN k) os := Any.strconv_Itoa Tryz.laysM171 n h0 h1 w htab
def Tryz.laysC172_ren : Go.Shelf.Ren := ⟨fun | 172 => 87 | 244 => 135 | 245 => 136 | 247 => 188 | 279 => 189 | 280 => 190 | 281 => 191 | 282 => 192 | 287 => 214 | 316 => 215 | 171 => 17 | 205 => 216 | 321 => 227 | 322 => 228 | 243 => 43 | 246 => 88 | 283 => 137 | 284 => 138 | 285 => 139 | 286 => 140 | 129 => 194 | 317 => 193 | 318 => 195 | 319 => 196 | 320 => 197 | 337 => 217 | 338 => 218 | n => n, fun | 9 => 9 | 3 => 3 | 75 => 96 | 76 => 97 | 4 => 4 | 5 => 5 | 167 => 186 | 37 => 91 | 0 => 0 | 85 => 187 | 2 => 2 | 168 => 189 | 53 => 154 | 175 => 209 | 46 => 162 | 210 => 212 | 127 => 132 | 145 => 226 | 143 => 224 | 21 => 21 | 171 => 153 | 173 => 157 | 212 => 193 | 51 => 50 | 20 => 20 | 213 => 194 | 232 => 227 | 233 => 228 | 80 => 100 | n => n, fun | 15 => 7 | 16 => 8 | 17 => 4 | 18 => 9 | 19 => 10 | n => n⟩
theorem Tryz.laysC172 : Go.Proofs.LaysC.n172 Tryz.prog Tryz.laysC172_ren := {
  mixed := by kernel_rfl
  f129 := Tryz.func194.trans (congrArg some (by kernel_rfl))
  f171 := Tryz.func17.trans (congrArg some (by kernel_rfl))
  f172 := Tryz.func87.trans (congrArg some (by kernel_rfl))
  f205 := Tryz.func216.trans (congrArg some (by kernel_rfl))
  f243 := Tryz.func43.trans (congrArg some (by kernel_rfl))
  f244 := Tryz.func135.trans (congrArg some (by kernel_rfl))
  f245 := Tryz.func136.trans (congrArg some (by kernel_rfl))
  f246 := Tryz.func88.trans (congrArg some (by kernel_rfl))
  f247 := Tryz.func188.trans (congrArg some (by kernel_rfl))
  f279 := Tryz.func189.trans (congrArg some (by kernel_rfl))
  f280 := Tryz.func190.trans (congrArg some (by kernel_rfl))
  f281 := Tryz.func191.trans (congrArg some (by kernel_rfl))
  f282 := Tryz.func192.trans (congrArg some (by kernel_rfl))
  f283 := Tryz.func137.trans (congrArg some (by kernel_rfl))
  f284 := Tryz.func138.trans (congrArg some (by kernel_rfl))
  f285 := Tryz.func139.trans (congrArg some (by kernel_rfl))
  f286 := Tryz.func140.trans (congrArg some (by kernel_rfl))
  f287 := Tryz.func214.trans (congrArg some (by kernel_rfl))
  f316 := Tryz.func215.trans (congrArg some (by kernel_rfl))
  f317 := Tryz.func193.trans (congrArg some (by kernel_rfl))
  f318 := Tryz.func195.trans (congrArg some (by kernel_rfl))
  f319 := Tryz.func196.trans (congrArg some (by kernel_rfl))
  f320 := Tryz.func197.trans (congrArg some (by kernel_rfl))
  f321 := Tryz.func227.trans (congrArg some (by kernel_rfl))
  f322 := Tryz.func228.trans (congrArg some (by kernel_rfl))
  f337 := Tryz.func217.trans (congrArg some (by kernel_rfl))
  f338 := Tryz.func218.trans (congrArg some (by kernel_rfl))
  t0 := Tryz.underlying0
  a0 := Tryz.isAgg0
  z0 := Tryz.sizeOf0
  v0 := Tryz.zeroValue0
  t2 := Tryz.underlying2
  a2 := Tryz.isAgg2
  z2 := Tryz.sizeOf2
  v2 := Tryz.zeroValue2
  t3 := Tryz.underlying3
  a3 := Tryz.isAgg3
  z3 := Tryz.sizeOf3
  v3 := Tryz.zeroValue3
  t4 := Tryz.underlying4
  a4 := Tryz.isAgg4
  z4 := Tryz.sizeOf4
  v4 := Tryz.zeroValue4
  t5 := Tryz.underlying5
  a5 := Tryz.isAgg5
  z5 := Tryz.sizeOf5
  v5 := Tryz.zeroValue5
  t9 := Tryz.underlying9
  a9 := Tryz.isAgg9
  z9 := Tryz.sizeOf9
  v9 := Tryz.zeroValue9
  t20 := Tryz.underlying20
  a20 := Tryz.isAgg20
  z20 := Tryz.sizeOf20
  v20 := Tryz.zeroValue20
  t21 := Tryz.underlying21
  a21 := Tryz.isAgg21
  z21 := Tryz.sizeOf21
  v21 := Tryz.zeroValue21
  t37 := Tryz.underlying91
  a37 := Tryz.isAgg91
  z37 := Tryz.sizeOf91
  v37 := Tryz.zeroValue91
  t46 := Tryz.underlying162
  a46 := Tryz.isAgg162
  z46 := Tryz.sizeOf162
  v46 := Tryz.zeroValue162
  t51 := Tryz.underlying50
  a51 := Tryz.isAgg50
  z51 := Tryz.sizeOf50
  v51 := Tryz.zeroValue50
  t53 := Tryz.underlying154
  a53 := Tryz.isAgg154
  z53 := Tryz.sizeOf154
  v53 := Tryz.zeroValue154
  t75 := Tryz.underlying96
  a75 := Tryz.isAgg96
  z75 := Tryz.sizeOf96
  v75 := Tryz.zeroValue96
  t76 := Tryz.underlying97
  a76 := Tryz.isAgg97
  z76 := Tryz.sizeOf97
  v76 := Tryz.zeroValue97
  t85 := Tryz.underlying187
  a85 := Tryz.isAgg187
  z85 := Tryz.sizeOf187
  v85 := Tryz.zeroValue187
  t127 := Tryz.underlying132
  a127 := Tryz.isAgg132
  z127 := Tryz.sizeOf132
  v127 := Tryz.zeroValue132
  t143 := Tryz.underlying224
  a143 := Tryz.isAgg224
  z143 := Tryz.sizeOf224
  v143 := Tryz.zeroValue224
  t145 := Tryz.underlying226
  a145 := Tryz.isAgg226
  z145 := Tryz.sizeOf226
  v145 := Tryz.zeroValue226
  t167 := Tryz.underlying186
  a167 := Tryz.isAgg186
  z167 := Tryz.sizeOf186
  v167 := Tryz.zeroValue186
  t168 := Tryz.underlying189
  a168 := Tryz.isAgg189
  z168 := Tryz.sizeOf189
  v168 := Tryz.zeroValue189
  t171 := Tryz.underlying153
  a171 := Tryz.isAgg153
  z171 := Tryz.sizeOf153
  v171 := Tryz.zeroValue153
  t173 := Tryz.underlying157
  a173 := Tryz.isAgg157
  z173 := Tryz.sizeOf157
  v173 := Tryz.zeroValue157
  t175 := Tryz.underlying209
  a175 := Tryz.isAgg209
  z175 := Tryz.sizeOf209
  v175 := Tryz.zeroValue209
  t210 := Tryz.underlying212
  a210 := Tryz.isAgg212
  z210 := Tryz.sizeOf212
  v210 := Tryz.zeroValue212
  t212 := Tryz.underlying193
  a212 := Tryz.isAgg193
  z212 := Tryz.sizeOf193
  v212 := Tryz.zeroValue193
  t213 := Tryz.underlying194
  a213 := Tryz.isAgg194
  z213 := Tryz.sizeOf194
  t232 := Tryz.underlying227
  a232 := Tryz.isAgg227
  z232 := Tryz.sizeOf227
  v232 := Tryz.zeroValue227
  t233 := Tryz.underlying228
  a233 := Tryz.isAgg228
  z233 := Tryz.sizeOf228
  v233 := Tryz.zeroValue228
  g15 := by kernel_rfl
  g16 := by kernel_rfl
  g17 := by kernel_rfl
  g18 := by kernel_rfl
  g19 := by kernel_rfl
  t80 := Tryz.underlying100
  a80 := Tryz.isAgg100
  z80 := Tryz.sizeOf100
  v80 := Tryz.zeroValue100
  i0 := by kernel_rfl
  i2 := by kernel_rfl
  i3 := by kernel_rfl
  i4 := by kernel_rfl
  i5 := by kernel_rfl
  i9 := by kernel_rfl
  i20 := by kernel_rfl
  i21 := by kernel_rfl
  i37 := by kernel_rfl
  i46 := by kernel_rfl
  i51 := by kernel_rfl
  i53 := by kernel_rfl
  i75 := by kernel_rfl
  i76 := by kernel_rfl
  i80 := by kernel_rfl
  i85 := by kernel_rfl
  i127 := by kernel_rfl
  i143 := by kernel_rfl
  i145 := by kernel_rfl
  i167 := by kernel_rfl
  i168 := by kernel_rfl
  i171 := by kernel_rfl
  i173 := by kernel_rfl
  i175 := by kernel_rfl
  i210 := by kernel_rfl
  i212 := by kernel_rfl
  i232 := by kernel_rfl
  i233 := by kernel_rfl
  m15 := by kernel_rfl
  m16 := by kernel_rfl
  m17 := by kernel_rfl
  m18 := by kernel_rfl
  m19 := by kernel_rfl
  c0 := by kernel_rfl
  c2 := by kernel_rfl
  c3 := by kernel_rfl
  c4 := by kernel_rfl
  c5 := by kernel_rfl
  c9 := by kernel_rfl
  c20 := by kernel_rfl
  c21 := by kernel_rfl
  c37 := by kernel_rfl
  c46 := by kernel_rfl
  c51 := by kernel_rfl
  c53 := by kernel_rfl
  c75 := by kernel_rfl
  c76 := by kernel_rfl
  c80 := by kernel_rfl
  c85 := by kernel_rfl
  c127 := by kernel_rfl
  c143 := by kernel_rfl
  c145 := by kernel_rfl
  c167 := by kernel_rfl
  c168 := by kernel_rfl
  c171 := by kernel_rfl
  c173 := by kernel_rfl
  c175 := by kernel_rfl
  c210 := by kernel_rfl
  c212 := by kernel_rfl
  c213 := by kernel_rfl
  c232 := by kernel_rfl
  c233 := by kernel_rfl }
open Go.RowKit in
/-- strconv.Atoi, AT EVERY STRING THAT SPELLS AN int ('Lib.atoiAll .. = .ok v'; of whatever length: leading zeros count): v, AND NO ERROR. The world: as it was, or with the one new row that '[]byte(..)' lays. (LAID: no walk: one application.) -/
theorem Tryz.strconv_Atoi_ok (s : ByteArray) (hmax : s.size ≤ 9223372036854775806) (v : Int) (h : Lib.atoiAll s.data.toList = .ok v) (w : World) :
    Calls Tryz.prog 87 #[.string s] w fun e w' => e = .returned (.tuple #[.int .i64 v, .nilIface]) ∧ (w' = w ∨ ∃ t, w' = Lib.bytesWorld w 5 t) := Any.strconv_Atoi_ok Tryz.laysC172 s hmax v h w
open Go.RowKit in
/-- strconv.Atoi, AT EVERY NUMERAL THAT NO int HOLDS ('.range'): THE GREATEST OR THE LEAST int, BY THE SIGN ('Lib.atoiSat'), AND AN ERROR THAT IS NOT nil: a *NumError in a new block N: {Func: "Atoi", Num: s's bytes, Err: what the variable ErrRange holds}. Of what was there nothing has turned. (LAID: no walk: one application.) -/
theorem Tryz.strconv_Atoi_range (s : ByteArray) (hlim : s.size ≤ 281474976710656) (h : Lib.atoiAll s.data.toList = .range) (ev : Value) (w : World) (hv : w.cell? ⟨8, 0, none⟩ = some ev) (hev : ev = .nilIface ∨ ∃ te pe, ev = .iface te pe) :
    Calls Tryz.prog 87 #[.string s] w fun e w' => ∃ N, e = .returned (.tuple #[.int .i64 (Lib.atoiSat s.data.toList), .iface 189 (.pointer (some ⟨N, 0, none⟩))]) ∧ w.heap.size ≤ N ∧ w'.heap[N]? = some (.cells #[.string ⟨#[65, 116, 111, 105]⟩, .string s, ev] 212 (0, 0)) ∧ Below w.heap.size w w' := Any.strconv_Atoi_range Tryz.laysC172 s hlim h ev w hv hev
def Tryz.lays219_ren : Go.Shelf.Ren := ⟨fun | 219 => 98 | 217 => 145 | 225 => 146 | 224 => 147 | 267 => 148 | 266 => 200 | 314 => 201 | n => n, fun | 9 => 9 | 3 => 3 | 4 => 4 | 5 => 5 | 46 => 162 | 146 => 197 | 51 => 50 | n => n, fun | 1 => 2 | n => n⟩
theorem Tryz.lays219 : Go.Proofs.Lays.n219 Tryz.prog Tryz.lays219_ren := {
  mixed := by kernel_rfl
  f217 := Tryz.func145.trans (congrArg some (by kernel_rfl))
  f219 := Tryz.func98.trans (congrArg some (by kernel_rfl))
  f224 := Tryz.func147.trans (congrArg some (by kernel_rfl))
  f225 := Tryz.func146.trans (congrArg some (by kernel_rfl))
  f266 := Tryz.func200.trans (congrArg some (by kernel_rfl))
  f267 := Tryz.func148.trans (congrArg some (by kernel_rfl))
  f314 := Tryz.func201.trans (congrArg some (by kernel_rfl))
  t3 := Tryz.underlying3
  a3 := Tryz.isAgg3
  z3 := Tryz.sizeOf3
  v3 := Tryz.zeroValue3
  t4 := Tryz.underlying4
  a4 := Tryz.isAgg4
  z4 := Tryz.sizeOf4
  v4 := Tryz.zeroValue4
  t5 := Tryz.underlying5
  a5 := Tryz.isAgg5
  z5 := Tryz.sizeOf5
  v5 := Tryz.zeroValue5
  t9 := Tryz.underlying9
  a9 := Tryz.isAgg9
  z9 := Tryz.sizeOf9
  v9 := Tryz.zeroValue9
  t46 := Tryz.underlying162
  a46 := Tryz.isAgg162
  z46 := Tryz.sizeOf162
  v46 := Tryz.zeroValue162
  t51 := Tryz.underlying50
  a51 := Tryz.isAgg50
  z51 := Tryz.sizeOf50
  v51 := Tryz.zeroValue50
  t146 := Tryz.underlying197
  a146 := Tryz.isAgg197
  z146 := Tryz.sizeOf197
  v146 := Tryz.zeroValue197
  g1 := by kernel_rfl }
open Go.RowKit Go.Lib in
/-- internal/stringslite.Index (what strings.Index calls) AT A substr OF ONE BYTE c: IT RETURNS 'Lib.indexByte s c'; the world is as it was. (LAID: no walk: one application.) -/
theorem Tryz.stringslite_Index_one (s : ByteArray) (c : UInt8) (w : World) :
    Calls Tryz.prog 98 #[.string s, .string ⟨#[c]⟩] w fun e w' => e = .returned (.int .i64 (Lib.indexByte s.data.toList c)) ∧ w' = w := Any.stringslite_Index_one Tryz.lays219 s c w
def Tryz.lays144_ren : Go.Shelf.Ren := ⟨fun | 144 => 23 | 143 => 52 | 219 => 98 | 217 => 145 | 225 => 146 | 224 => 147 | 267 => 148 | 266 => 200 | 314 => 201 | n => n, fun | 9 => 9 | 4 => 4 | 3 => 3 | 5 => 5 | 46 => 162 | 146 => 197 | 51 => 50 | n => n, fun | 1 => 2 | n => n⟩
theorem Tryz.lays144 : Go.Proofs.Lays.n144 Tryz.prog Tryz.lays144_ren := {
  mixed := by kernel_rfl
  f143 := Tryz.func52.trans (congrArg some (by kernel_rfl))
  f144 := Tryz.func23.trans (congrArg some (by kernel_rfl))
  f217 := Tryz.func145.trans (congrArg some (by kernel_rfl))
  f219 := Tryz.func98.trans (congrArg some (by kernel_rfl))
  f224 := Tryz.func147.trans (congrArg some (by kernel_rfl))
  f225 := Tryz.func146.trans (congrArg some (by kernel_rfl))
  f266 := Tryz.func200.trans (congrArg some (by kernel_rfl))
  f267 := Tryz.func148.trans (congrArg some (by kernel_rfl))
  f314 := Tryz.func201.trans (congrArg some (by kernel_rfl))
  t3 := Tryz.underlying3
  a3 := Tryz.isAgg3
  z3 := Tryz.sizeOf3
  v3 := Tryz.zeroValue3
  t4 := Tryz.underlying4
  a4 := Tryz.isAgg4
  z4 := Tryz.sizeOf4
  v4 := Tryz.zeroValue4
  t5 := Tryz.underlying5
  a5 := Tryz.isAgg5
  z5 := Tryz.sizeOf5
  v5 := Tryz.zeroValue5
  t9 := Tryz.underlying9
  a9 := Tryz.isAgg9
  z9 := Tryz.sizeOf9
  v9 := Tryz.zeroValue9
  t46 := Tryz.underlying162
  a46 := Tryz.isAgg162
  z46 := Tryz.sizeOf162
  v46 := Tryz.zeroValue162
  t51 := Tryz.underlying50
  a51 := Tryz.isAgg50
  z51 := Tryz.sizeOf50
  v51 := Tryz.zeroValue50
  t146 := Tryz.underlying197
  a146 := Tryz.isAgg197
  z146 := Tryz.sizeOf197
  v146 := Tryz.zeroValue197
  g1 := by kernel_rfl }
open Go.RowKit Go.Lib in
/-- strings.Contains: "Contains reports whether substr is within s.": AT A substr OF ONE BYTE c: IT RETURNS 'decide (0 ≤ Lib.indexByte s c)'; the world is as it was. (LAID: no walk: one application.) -/
theorem Tryz.strings_Contains_one (s : ByteArray) (c : UInt8) (w : World) :
    Calls Tryz.prog 23 #[.string s, .string ⟨#[c]⟩] w fun e w' => e = .returned (.bool (decide (0 ≤ Lib.indexByte s.data.toList c))) ∧ w' = w := Any.strings_Contains_one Tryz.lays144 s c w
def Tryz.lays315_ren : Go.Shelf.Ren := ⟨fun | 315 => 233 | n => n, fun | 9 => 9 | 40 => 125 | 4 => 4 | 3 => 3 | 0 => 0 | 21 => 21 | n => n, fun | n => n⟩
theorem Tryz.lays315 : Go.Proofs.Lays.n315 Tryz.prog Tryz.lays315_ren := {
  mixed := by kernel_rfl
  f315 := Tryz.func233.trans (congrArg some (by kernel_rfl))
  t0 := Tryz.underlying0
  a0 := Tryz.isAgg0
  z0 := Tryz.sizeOf0
  v0 := Tryz.zeroValue0
  t3 := Tryz.underlying3
  a3 := Tryz.isAgg3
  z3 := Tryz.sizeOf3
  v3 := Tryz.zeroValue3
  t4 := Tryz.underlying4
  a4 := Tryz.isAgg4
  z4 := Tryz.sizeOf4
  v4 := Tryz.zeroValue4
  t9 := Tryz.underlying9
  a9 := Tryz.isAgg9
  z9 := Tryz.sizeOf9
  v9 := Tryz.zeroValue9
  t21 := Tryz.underlying21
  a21 := Tryz.isAgg21
  z21 := Tryz.sizeOf21
  v21 := Tryz.zeroValue21
  t40 := Tryz.underlying125
  a40 := Tryz.isAgg125
  z40 := Tryz.sizeOf125
  v40 := Tryz.zeroValue125 }
open Go.RowKit Go.Lib in
theorem Tryz.strings_indexFunc (g : Nat) (lb : Array Value) (eg : ∀ args w, (callFunc g args).run Tryz.prog w = .ok (.enter g args) w) (p : Nat → Bool) (truth : Bool) (s : ByteArray) (w : World) (hp : PredAt Tryz.prog g lb encR p w) :
    Calls Tryz.prog 233 #[.string s, .func (.func g) #[] lb, .bool truth] w fun e w' => e = .returned (.int .i64 (Lib.idxFunc p truth s)) ∧ Below w.heap.size w w' := Any.strings_indexFunc Tryz.lays315 g lb eg p truth s w hp
def Tryz.lays100_ren : Go.Shelf.Ren := ⟨fun | 100 => 225 | 207 => 94 | n => n, fun | 9 => 9 | 4 => 4 | 3 => 3 | n => n, fun | n => n⟩
theorem Tryz.lays100 : Go.Proofs.Lays.n100 Tryz.prog Tryz.lays100_ren := {
  mixed := by kernel_rfl
  f100 := Tryz.func225.trans (congrArg some (by kernel_rfl))
  f207 := Tryz.func94.trans (congrArg some (by kernel_rfl))
  t3 := Tryz.underlying3
  a3 := Tryz.isAgg3
  z3 := Tryz.sizeOf3
  v3 := Tryz.zeroValue3
  t4 := Tryz.underlying4
  a4 := Tryz.isAgg4
  z4 := Tryz.sizeOf4
  v4 := Tryz.zeroValue4
  t9 := Tryz.underlying9
  a9 := Tryz.isAgg9
  z9 := Tryz.sizeOf9
  v9 := Tryz.zeroValue9 }
open Go.RowKit Go.Lib in
/-- strings.HasSuffix: "HasSuffix reports whether the string s ends with suffix.": IT RETURNS 'Lib.hasSuffix s suffix'; the world is as it was. ('hs': no Go string is longer: a caller has it of every string that it was handed.) (LAID: no walk: one application.) -/
theorem Tryz.strings_HasSuffix (s p : ByteArray) (w : World) (hs : s.size ≤ 9223372036854775807) :
    Calls Tryz.prog 225 #[.string s, .string p] w fun e w' => e = .returned (.bool (Lib.hasSuffix s.data.toList p.data.toList)) ∧ w' = w := Any.strings_HasSuffix Tryz.lays100 s p w hs
def Tryz.lays102_ren : Go.Shelf.Ren := ⟨fun | 102 => 21 | 209 => 47 | 207 => 94 | n => n, fun | 9 => 9 | 4 => 4 | 3 => 3 | n => n, fun | n => n⟩
theorem Tryz.lays102 : Go.Proofs.Lays.n102 Tryz.prog Tryz.lays102_ren := {
  mixed := by kernel_rfl
  f102 := Tryz.func21.trans (congrArg some (by kernel_rfl))
  f207 := Tryz.func94.trans (congrArg some (by kernel_rfl))
  f209 := Tryz.func47.trans (congrArg some (by kernel_rfl))
  t3 := Tryz.underlying3
  a3 := Tryz.isAgg3
  z3 := Tryz.sizeOf3
  v3 := Tryz.zeroValue3
  t4 := Tryz.underlying4
  a4 := Tryz.isAgg4
  z4 := Tryz.sizeOf4
  v4 := Tryz.zeroValue4
  t9 := Tryz.underlying9
  a9 := Tryz.isAgg9
  z9 := Tryz.sizeOf9
  v9 := Tryz.zeroValue9 }
open Go.RowKit Go.Lib in
/-- strings.TrimSuffix: "TrimSuffix returns s without the provided trailing suffix string. If s doesn't end with suffix, s is returned unchanged.": IT RETURNS 'Lib.trimSuffix s suffix'; the world is as it was. (LAID: no walk: one application.) -/
theorem Tryz.strings_TrimSuffix (s p : ByteArray) (w : World) (hs : s.size ≤ 9223372036854775807) :
    Calls Tryz.prog 21 #[.string s, .string p] w fun e w' => e = .returned (.string ⟨(Lib.trimSuffix s.data.toList p.data.toList).toArray⟩) ∧ w' = w := Any.strings_TrimSuffix Tryz.lays102 s p w hs
def Tryz.lays157_ren : Go.Shelf.Ren := ⟨fun | 157 => 32 | 229 => 81 | 199 => 82 | 261 => 134 | 311 => 186 | 312 => 187 | n => n, fun | 9 => 9 | 31 => 69 | 3 => 3 | 5 => 5 | 4 => 4 | 119 => 123 | 0 => 0 | 40 => 125 | 152 => 147 | 21 => 21 | 154 => 149 | 51 => 50 | 141 => 151 | 196 => 179 | 193 => 176 | 198 => 181 | 49 => 40 | 194 => 177 | 201 => 184 | 226 => 207 | 46 => 162 | 227 => 208 | n => n, fun | 0 => 0 | 6 => 1 | n => n⟩
theorem Tryz.lays157 : Go.Proofs.Lays.n157 Tryz.prog Tryz.lays157_ren := {
  mixed := by kernel_rfl
  f157 := Tryz.func32.trans (congrArg some (by kernel_rfl))
  f199 := Tryz.func82.trans (congrArg some (by kernel_rfl))
  f229 := Tryz.func81.trans (congrArg some (by kernel_rfl))
  f261 := Tryz.func134.trans (congrArg some (by kernel_rfl))
  f311 := Tryz.func186.trans (congrArg some (by kernel_rfl))
  f312 := Tryz.func187.trans (congrArg some (by kernel_rfl))
  t0 := Tryz.underlying0
  a0 := Tryz.isAgg0
  z0 := Tryz.sizeOf0
  v0 := Tryz.zeroValue0
  t3 := Tryz.underlying3
  a3 := Tryz.isAgg3
  z3 := Tryz.sizeOf3
  v3 := Tryz.zeroValue3
  t4 := Tryz.underlying4
  a4 := Tryz.isAgg4
  z4 := Tryz.sizeOf4
  v4 := Tryz.zeroValue4
  t5 := Tryz.underlying5
  a5 := Tryz.isAgg5
  z5 := Tryz.sizeOf5
  v5 := Tryz.zeroValue5
  t9 := Tryz.underlying9
  a9 := Tryz.isAgg9
  z9 := Tryz.sizeOf9
  v9 := Tryz.zeroValue9
  t21 := Tryz.underlying21
  a21 := Tryz.isAgg21
  z21 := Tryz.sizeOf21
  v21 := Tryz.zeroValue21
  t31 := Tryz.underlying69
  a31 := Tryz.isAgg69
  z31 := Tryz.sizeOf69
  v31 := Tryz.zeroValue69
  t40 := Tryz.underlying125
  a40 := Tryz.isAgg125
  z40 := Tryz.sizeOf125
  v40 := Tryz.zeroValue125
  t46 := Tryz.underlying162
  a46 := Tryz.isAgg162
  z46 := Tryz.sizeOf162
  v46 := Tryz.zeroValue162
  t49 := Tryz.underlying40
  a49 := Tryz.isAgg40
  z49 := Tryz.sizeOf40
  v49 := Tryz.zeroValue40
  t51 := Tryz.underlying50
  a51 := Tryz.isAgg50
  z51 := Tryz.sizeOf50
  v51 := Tryz.zeroValue50
  t119 := Tryz.underlying123
  a119 := Tryz.isAgg123
  z119 := Tryz.sizeOf123
  t141 := Tryz.underlying151
  a141 := Tryz.isAgg151
  z141 := Tryz.sizeOf151
  v141 := Tryz.zeroValue151
  t152 := Tryz.underlying147
  a152 := Tryz.isAgg147
  z152 := Tryz.sizeOf147
  v152 := Tryz.zeroValue147
  t154 := Tryz.underlying149
  a154 := Tryz.isAgg149
  z154 := Tryz.sizeOf149
  v154 := Tryz.zeroValue149
  t193 := Tryz.underlying176
  a193 := Tryz.isAgg176
  z193 := Tryz.sizeOf176
  v193 := Tryz.zeroValue176
  t194 := Tryz.underlying177
  a194 := Tryz.isAgg177
  z194 := Tryz.sizeOf177
  v194 := Tryz.zeroValue177
  t196 := Tryz.underlying179
  a196 := Tryz.isAgg179
  z196 := Tryz.sizeOf179
  v196 := Tryz.zeroValue179
  t198 := Tryz.underlying181
  a198 := Tryz.isAgg181
  z198 := Tryz.sizeOf181
  v198 := Tryz.zeroValue181
  t201 := Tryz.underlying184
  a201 := Tryz.isAgg184
  z201 := Tryz.sizeOf184
  v201 := Tryz.zeroValue184
  t226 := Tryz.underlying207
  a226 := Tryz.isAgg207
  z226 := Tryz.sizeOf207
  v226 := Tryz.zeroValue207
  t227 := Tryz.underlying208
  a227 := Tryz.isAgg208
  z227 := Tryz.sizeOf208
  v227 := Tryz.zeroValue208
  g0 := by kernel_rfl
  g6 := by kernel_rfl }
open Go.RowKit Go.Lib in
/-- strings.Fields, the table by 'Lib.TabIs' (as strings.TrimSpace's contract). 'hg': the table's number, by its name: at a dump 'by kernel_rfl'. (LAID: no walk: one application.) -/
theorem Tryz.strings_Fields (s : ByteArray) (w : World) (hs : s.size < 4294967281) (hascii : ∀ (j : Nat) b, s.data.toList[j]? = some b → b.toNat < 128) (htab : Lib.TabIs Tryz.prog w "strings.asciiSpace" .u8 Lib.asciiSpaceTab) :
    Calls Tryz.prog 32 #[.string s] w fun e w' =>
      e = .returned (.slice (some ⟨w.heap.size, 0, none⟩) (Lib.fields s.data.toList).length (Lib.fields s.data.toList).length) ∧ w' = w.alloc (.cells ((Lib.fields s.data.toList).map fun l => Value.string ⟨l.toArray⟩).toArray 9) := Any.strings_Fields Tryz.lays157 (by kernel_rfl) (by kernel_rfl) s w hs hascii htab
def Tryz.lays155_ren : Go.Shelf.Ren := ⟨fun | 155 => 24 | 154 => 53 | 138 => 99 | 165 => 54 | 143 => 52 | 166 => 55 | 197 => 100 | 169 => 57 | 195 => 149 | 218 => 150 | 240 => 101 | 241 => 102 | 219 => 98 | 260 => 151 | 276 => 152 | 277 => 153 | 217 => 145 | 225 => 146 | 224 => 147 | 267 => 148 | 266 => 200 | 314 => 201 | n => n, fun | 9 => 9 | 3 => 3 | 4 => 4 | 72 => 93 | 0 => 0 | 76 => 97 | 105 => 129 | 21 => 21 | 5 => 5 | 70 => 90 | 20 => 20 | 37 => 91 | 75 => 96 | 127 => 132 | 164 => 163 | 46 => 162 | 119 => 123 | 139 => 201 | 138 => 200 | 146 => 197 | 51 => 50 | 80 => 100 | n => n, fun | 1 => 2 | 3 => 5 | 4 => 6 | n => n⟩
theorem Tryz.lays155 : Go.Proofs.Lays.n155 Tryz.prog Tryz.lays155_ren := {
  mixed := by kernel_rfl
  f138 := Tryz.func99.trans (congrArg some (by kernel_rfl))
  f143 := Tryz.func52.trans (congrArg some (by kernel_rfl))
  f154 := Tryz.func53.trans (congrArg some (by kernel_rfl))
  f155 := Tryz.func24.trans (congrArg some (by kernel_rfl))
  f165 := Tryz.func54.trans (congrArg some (by kernel_rfl))
  f166 := Tryz.func55.trans (congrArg some (by kernel_rfl))
  f169 := Tryz.func57.trans (congrArg some (by kernel_rfl))
  f195 := Tryz.func149.trans (congrArg some (by kernel_rfl))
  f197 := Tryz.func100.trans (congrArg some (by kernel_rfl))
  f217 := Tryz.func145.trans (congrArg some (by kernel_rfl))
  f218 := Tryz.func150.trans (congrArg some (by kernel_rfl))
  f219 := Tryz.func98.trans (congrArg some (by kernel_rfl))
  f224 := Tryz.func147.trans (congrArg some (by kernel_rfl))
  f225 := Tryz.func146.trans (congrArg some (by kernel_rfl))
  f240 := Tryz.func101.trans (congrArg some (by kernel_rfl))
  f241 := Tryz.func102.trans (congrArg some (by kernel_rfl))
  f260 := Tryz.func151.trans (congrArg some (by kernel_rfl))
  f266 := Tryz.func200.trans (congrArg some (by kernel_rfl))
  f267 := Tryz.func148.trans (congrArg some (by kernel_rfl))
  f276 := Tryz.func152.trans (congrArg some (by kernel_rfl))
  f277 := Tryz.func153.trans (congrArg some (by kernel_rfl))
  f314 := Tryz.func201.trans (congrArg some (by kernel_rfl))
  t0 := Tryz.underlying0
  a0 := Tryz.isAgg0
  z0 := Tryz.sizeOf0
  v0 := Tryz.zeroValue0
  t3 := Tryz.underlying3
  a3 := Tryz.isAgg3
  z3 := Tryz.sizeOf3
  v3 := Tryz.zeroValue3
  t4 := Tryz.underlying4
  a4 := Tryz.isAgg4
  z4 := Tryz.sizeOf4
  v4 := Tryz.zeroValue4
  t5 := Tryz.underlying5
  a5 := Tryz.isAgg5
  z5 := Tryz.sizeOf5
  v5 := Tryz.zeroValue5
  t9 := Tryz.underlying9
  a9 := Tryz.isAgg9
  z9 := Tryz.sizeOf9
  v9 := Tryz.zeroValue9
  t20 := Tryz.underlying20
  a20 := Tryz.isAgg20
  z20 := Tryz.sizeOf20
  v20 := Tryz.zeroValue20
  t21 := Tryz.underlying21
  a21 := Tryz.isAgg21
  z21 := Tryz.sizeOf21
  v21 := Tryz.zeroValue21
  t37 := Tryz.underlying91
  a37 := Tryz.isAgg91
  z37 := Tryz.sizeOf91
  v37 := Tryz.zeroValue91
  t46 := Tryz.underlying162
  a46 := Tryz.isAgg162
  z46 := Tryz.sizeOf162
  v46 := Tryz.zeroValue162
  t51 := Tryz.underlying50
  a51 := Tryz.isAgg50
  z51 := Tryz.sizeOf50
  v51 := Tryz.zeroValue50
  t70 := Tryz.underlying90
  a70 := Tryz.isAgg90
  z70 := Tryz.sizeOf90
  v70 := Tryz.zeroValue90
  t72 := Tryz.underlying93
  a72 := Tryz.isAgg93
  z72 := Tryz.sizeOf93
  v72 := Tryz.zeroValue93
  t75 := Tryz.underlying96
  a75 := Tryz.isAgg96
  z75 := Tryz.sizeOf96
  v75 := Tryz.zeroValue96
  t76 := Tryz.underlying97
  a76 := Tryz.isAgg97
  z76 := Tryz.sizeOf97
  v76 := Tryz.zeroValue97
  t105 := Tryz.underlying129
  a105 := Tryz.isAgg129
  z105 := Tryz.sizeOf129
  v105 := Tryz.zeroValue129
  t119 := Tryz.underlying123
  a119 := Tryz.isAgg123
  z119 := Tryz.sizeOf123
  t127 := Tryz.underlying132
  a127 := Tryz.isAgg132
  z127 := Tryz.sizeOf132
  v127 := Tryz.zeroValue132
  t138 := Tryz.underlying200
  a138 := Tryz.isAgg200
  z138 := Tryz.sizeOf200
  v138 := Tryz.zeroValue200
  t139 := Tryz.underlying201
  a139 := Tryz.isAgg201
  z139 := Tryz.sizeOf201
  v139 := Tryz.zeroValue201
  t146 := Tryz.underlying197
  a146 := Tryz.isAgg197
  z146 := Tryz.sizeOf197
  v146 := Tryz.zeroValue197
  t164 := Tryz.underlying163
  a164 := Tryz.isAgg163
  z164 := Tryz.sizeOf163
  v164 := Tryz.zeroValue163
  g1 := by kernel_rfl
  g3 := by kernel_rfl
  g4 := by kernel_rfl }
theorem Tryz.Builder_Extra_155 : Builder.Extra Tryz.prog Tryz.lays155_ren := {
  sizeBuilder := by kernel_rfl
  liesBuilder := by kernel_rfl
  t5 := Tryz.underlying5
  a5 := Tryz.isAgg5
  z5 := Tryz.sizeOf5
  v5 := Tryz.zeroValue5
  infoByte := by kernel_rfl
  cellsByte := by kernel_rfl
  sizeByte := by kernel_rfl
  neB5 := by decide }
open Go.RowKit Go.Lib in
/-- strings.ReplaceAll: "ReplaceAll returns a copy of the string s with all non-overlapping instances of old replaced by new.": AT AN old THAT IS NOT EMPTY: 'Lib.replaceAll s old new'. (LAID: no walk: one application.) -/
theorem Tryz.strings_ReplaceAll (s old new : ByteArray) (m : Int) (w : World) (hs : s.size < 4294967281) (hm : w.cell? ⟨2, 0, none⟩ = some (.int .i64 m)) (h1 : 1 ≤ old.size) (hlen : s.size + Lib.countB s old * new.size ≤ 140737488355328) :
    Calls Tryz.prog 24 #[.string s, .string old, .string new] w fun e w' =>
      e = .returned (.string ⟨(Lib.replaceAll s.data.toList old.data.toList new.data.toList).toArray⟩) ∧ Below w.heap.size w w' := Any.strings_ReplaceAll Tryz.lays155 Tryz.Builder_Extra_155 s old new m w hs hm h1 hlen
def Tryz.lays227_ren : Go.Shelf.Ren := ⟨fun | 227 => 49 | n => n, fun | 9 => 9 | 116 => 83 | 4 => 4 | 0 => 0 | 3 => 3 | 5 => 5 | n => n, fun | n => n⟩
theorem Tryz.lays227 : Go.Proofs.Lays.n227 Tryz.prog Tryz.lays227_ren := {
  mixed := by kernel_rfl
  f227 := Tryz.func49.trans (congrArg some (by kernel_rfl))
  t0 := Tryz.underlying0
  a0 := Tryz.isAgg0
  z0 := Tryz.sizeOf0
  v0 := Tryz.zeroValue0
  t3 := Tryz.underlying3
  a3 := Tryz.isAgg3
  z3 := Tryz.sizeOf3
  v3 := Tryz.zeroValue3
  t4 := Tryz.underlying4
  a4 := Tryz.isAgg4
  z4 := Tryz.sizeOf4
  v4 := Tryz.zeroValue4
  t5 := Tryz.underlying5
  a5 := Tryz.isAgg5
  z5 := Tryz.sizeOf5
  v5 := Tryz.zeroValue5
  t9 := Tryz.underlying9
  a9 := Tryz.isAgg9
  z9 := Tryz.sizeOf9
  v9 := Tryz.zeroValue9
  t116 := Tryz.underlying83
  a116 := Tryz.isAgg83
  z116 := Tryz.sizeOf83 }
open Go.RowKit Go.Lib in
theorem Tryz.strings_makeASCIISet (hv116 : ∀ w, (zeroValue 83).run Tryz.prog w = .ok (.agg (Array.replicate 256 (.bool false))) w) (chars : ByteArray) (w : World) (hs : chars.size < 4294967281) (hascii : ∀ (j : Nat) b, chars.data.toList[j]? = some b → b.toNat < 128) :
    Calls Tryz.prog 49 #[.string chars] w fun e w' => e = .returned (.tuple #[.agg (Lib.setCells chars.data.toList), .bool true]) ∧ w' = w.alloc (.cells (Lib.setCells chars.data.toList) 83) := Any.strings_makeASCIISet Tryz.lays227 hv116 (by kernel_rfl) chars w hs hascii
end Go.Proofs

set_option maxRecDepth 10000
namespace Go.Proofs.YtnondemehfkalaaGreatDoor
open Go.Sha

/-- What is known of the program's variables. -/
structure GlOk (gl : List (Nat × Obj)) : Prop where
  err : ∃ cs T fz ev, (8, Obj.cells cs T fz) ∈ gl ∧ cs[0]? = some ev ∧ (ev = .nilIface ∨ ∃ te pe, ev = .iface te pe)
  spc : ∃ g T fz, Tryz.prog.globalNamed "strings.asciiSpace" = some g ∧ (g, Obj.cells (Lib.asciiSpaceTab.map fun z => Value.int .u8 z).toArray T fz) ∈ gl

/-- Tokens as Scan returns them: the last one, and it alone, is the end. -/
def WfT : List Tok → Prop
  | [] => False
  | x :: r => (x.k = 3 ↔ r = []) ∧ (r ≠ [] → WfT r) ∧ x.t.length < 140737488355328 ∧ r.length < 500000
def hd : List Tok → Tok
  | [] => ⟨3, [], 0⟩
  | x :: _ => x
/-- A reading: what is read and the tokens behind it, or an error at an offset. -/
abbrev Rd (α : Type) := List Tok → Except (Int × Int) (α × List Tok)
def rOk {α : Type} (a : α) : Rd α := fun ts => .ok (a, ts)
def rFail {α : Type} (e : Int) : Rd α := fun ts => .error ((hd ts).a, e)
def rIf {α : Type} (c : Bool) (a b : Rd α) : Rd α := fun ts => if c = true then a ts else b ts
def rNext {α β : Type} (m : Rd α) (f : α → Rd β) : Rd β := fun ts => match m ts with
  | .ok (a, ts') => f a ts'
  | .error e => .error e
def hdIs (k : Int) (t : List UInt8) (ts : List Tok) : Bool := (hd ts).k == k && (hd ts).t == t

theorem WfT.ne {ts : List Tok} (h : WfT ts) : ts ≠ [] := fun e => by rw [e] at h; exact h
theorem WfT.tail {ts : List Tok} (h : WfT ts) (hk : (hd ts).k ≠ 3) : WfT ts.tail := by
  cases ts with
  | nil => exact h.elim
  | cons x r => exact h.2.1 (fun e => hk (h.1.2 e))
theorem WfT.txt {ts : List Tok} (h : WfT ts) : (hd ts).t.length < 140737488355328 := by
  cases ts with
  | nil => exact h.elim
  | cons x r => exact h.2.2.1
theorem WfT.small {ts : List Tok} (h : WfT ts) : ts.length ≤ 500000 := by
  cases ts with
  | nil => exact h.elim
  | cons x r => have := h.2.2.2; simp only [List.length_cons]; omega
theorem WfT.get {ts : List Tok} (h : WfT ts) : ts[0]? = some (hd ts) := by
  cases ts with
  | nil => exact h.elim
  | cons x r => rfl
theorem WfT.len {ts : List Tok} (h : WfT ts) : 0 < ts.length := List.length_pos_iff.2 h.ne

def failV (at' e : Int) : V := .iface 106 (.agg [.int .i64 at', .int .i64 e])

/-- The state behind reading. -/
def stR (st : St) (rid : Nat) (ts : List Tok) : St := st.put rid [.sl (ts.map tkV)]
/-- What a reading function does, called with a reader at ts. -/
def rdPost {α : Type} (m : Rd α) (enc : α → V) (st : St) (rid : Nat) (ts : List Tok) (r : VRes) (s : St) : Prop := match m ts with
  | .ok (a, ts') => r = .ret (enc a) ∧ s = stR st rid ts' ∧ WfT ts'
  | .error (at', e) => r = .pan (failV at' e) ∧ ∃ ts', s = stR st rid ts'

theorem stR_eq {st : St} {rid : Nat} {ts : List Tok} : stR st rid ts = ⟨st.nx, updM st.mem rid [.sl (ts.map tkV)], st.arr, st.x⟩ := @_root_.id (_ = _) rfl
theorem lookR {l : List (Nat × List V)} {i : Nat} {cs : List V} : Sha.look (updM l i cs) i = (Sha.look l i).map fun _ => cs := by rw [look_updM, if_pos rfl]
def RdC {α : Type} (f : FuncId) (args : List V) (m : Rd α) (enc : α → V) : Prop :=
  ∀ (st : St) (rid : Nat) (ts : List Tok), GlOk st.x.gl → WfT ts → Sha.look st.mem rid = some [.sl (ts.map tkV)] → VCalls Tryz.prog f (.ptr rid 0 :: args) st (rdPost m enc st rid ts)

theorem VCalls_snap {P : Program} {f : FuncId} {args args' : List V} {st : St} {R : VRes → St → Prop} (h : VCalls P f args' st R) (hd : mapO (snapA st) args = some args') : VCalls P f args st R := by
  rcases h with h | h
  · exact .inl ⟨h.1, fun w A vs hs ha => h.2 w A vs hs (ha.snap hs hd)⟩
  · exact .inr fun w A vs hs ha => h w A vs hs (ha.snap hs hd)

theorem rd_call {α : Type} {f : FuncId} {args args' : List V} {m : Rd α} {enc : α → V} (h : RdC f args' m enc) {st : St} {rid : Nat} {ts : List Tok} {K : VRes → St → Prop} (hs : mapO (snapA st) (.ptr rid 0 :: args) = some (.ptr rid 0 :: args'))
    (hg : GlOk st.x.gl) (hw : WfT ts) (hm : Sha.look st.mem rid = some [.sl (ts.map tkV)]) (hok : ∀ a ts', m ts = .ok (a, ts') → WfT ts' → K (.ret (enc a)) (stR st rid ts')) (herr : ∀ at' e ts', m ts = .error (at', e) → K (.pan (failV at' e)) (stR st rid ts')) :
    VCalls Tryz.prog f (.ptr rid 0 :: args) st K := by
  refine VCalls_snap (VCalls.mono (h st rid ts hg hw hm) (fun r s hr => ?_)) hs
  unfold rdPost at hr
  split at hr
  · rename_i a ts' he
    obtain ⟨rfl, rfl, hw'⟩ := hr
    exact hok a ts' he hw'
  · rename_i at' e he
    obtain ⟨rfl, ts', rfl⟩ := hr
    exact herr at' e ts' he

theorem wfR {st : St} (hwf : st.Wf) {rid : Nat} (ts : List Tok) : (stR st rid ts).Wf := hwf.put (by simp [V.bdL, V.bd, bdL_tk])
theorem finRd {α : Type} {m : Rd α} {enc : α → V} {res : List Res} {st st1 : St} {rid : Nat} {ts ts' : List Tok} {env : Env} {vs : List V} {a : α} (hwf : st.Wf) (h1 : resV env st1 res = some vs) (h2 : enc a = resOne vs ∨ snapV st1 (resOne vs) = some (enc a)) (hb : (enc a).bd st.nx = true)
    (hn : st.nx ≤ st1.nx) (hm : Sub st.nx st1.mem (stR st rid ts').mem) (ha : Sub st.nx st1.arr st.arr) (hx : ExSub st.nx st1.x st.x) (he : m ts = .ok (a, ts')) (hw : WfT ts') : finQ res st.nx (rdPost m enc st rid ts) .ret env st1 := by
  refine ⟨vs, h1, enc a, stR st rid ts', h2, hb, Weak.wf rfl hn hm ha hx (wfR hwf ts'), Nat.le_refl _, ?_⟩
  unfold rdPost
  rw [he]
  exact ⟨rfl, rfl, hw⟩
theorem finRn {α : Type} {m : Rd α} {enc : α → V} {res : List Res} {st st1 : St} {rid : Nat} {ts ts' : List Tok} {env : Env} {vs : List V} {a : α} (hwf : st.Wf) (h1 : resV env st1 res = some vs) (h2 : enc a = resOne vs ∨ snapV st1 (resOne vs) = some (enc a)) (hb : (enc a).bd st.nx = true)
    (hn : st.nx ≤ st1.nx) (hm : Sub st.nx st1.mem (stR st rid ts').mem) (ha : Sub st.nx st1.arr st.arr) (hx : ExSub st.nx st1.x st.x) (he : m ts = .ok (a, ts')) (hw : WfT ts') : finQ res st.nx (rdPost m enc st rid ts) .normal env st1 :=
  finRd hwf h1 h2 hb hn hm ha hx he hw
theorem finRe {α : Type} {m : Rd α} {enc : α → V} {res : List Res} {st st1 : St} {rid : Nat} {ts ts' : List Tok} {env : Env} {at' e : Int} (hwf : st.Wf) (he : m ts = .error (at', e)) (hn : st.nx ≤ st1.nx) (hm : Sub st.nx st1.mem (stR st rid ts').mem) (ha : Sub st.nx st1.arr st.arr) (hx : ExSub st.nx st1.x st.x) :
    finQ res st.nx (rdPost m enc st rid ts) (.pan (failV at' e)) env st1 := by
  refine ⟨stR st rid ts', by rfl, Weak.wf rfl hn hm ha hx (wfR hwf ts'), Nat.le_refl _, ?_⟩
  unfold rdPost
  rw [he]
  exact ⟨rfl, ts', rfl⟩
theorem stR_same {st : St} {rid : Nat} {ts : List Tok} (hm : Sha.look st.mem rid = some [.sl (ts.map tkV)]) : stR st rid ts = st := by
  rw [stR_eq, updM_same hm]

theorem next_v (st : St) (rid : Nat) (ts : List Tok) (hw : WfT ts) (hm : Sha.look st.mem rid = some [.sl (ts.map tkV)]) : VRet Tryz.prog 62 [.ptr rid 0] st (tkV (hd ts)) st := by
  have hg := hw.get
  have hl := hw.len
  refine VCalls_of F62_ok mixed (Nat.le_of_ble_eq_true rfl) (fun hwf => ?_)
  have e1 : (st.nx = rid) = False := eq_false (by have := (hwf.mem _ _ hm).1; omega)
  (repeat' first | ((first | refine go rfl rfl ?_ | (refine Fk.by_ ?_ ?_ <;> intro hc <;> try simp only [hc]) | refine storeK_eq rfl ?_ | with_reducible refine And.intro ?_ ?_ | fail) <;> try simp only [hm, hg, hl, e1, cells_tkV, push_cast, reduceIte, Nat.reduceEqDiff, reduceCtorEq, Nat.reduceAdd, Nat.reduceLeDiff, Nat.reduceBEq]))
  all_goals refine finB (hwf) (by simp only [F62, push_cast, reduceIte, Nat.reduceEqDiff, reduceCtorEq, Nat.reduceAdd, Nat.reduceLeDiff, Nat.reduceBEq]; exact rfl) (by first | exact .inl rfl | (right; simp only [F62, push_cast, reduceIte, Nat.reduceEqDiff, reduceCtorEq, Nat.reduceAdd, Nat.reduceLeDiff, Nat.reduceBEq]; try rfl)) (by first | rfl | assumption) (by simp) (by simp) (by (repeat first | exact (hwf).subm | exact (hwf).suba | refine Sub.drop (by simp) ?_)) (by (repeat first | exact (hwf).subm | exact (hwf).suba | refine Sub.drop (by simp) ?_)) (by (repeat first | exact (hwf).subx | refine ExSub.dropt (by simp) ?_ | refine ExSub.drop (by simp) ?_))

theorem pass_v (st : St) (rid : Nat) (ts : List Tok) (hw : WfT ts) (hm : Sha.look st.mem rid = some [.sl (ts.map tkV)]) : VRet Tryz.prog 66 [.ptr rid 0] st (tkV (hd ts)) (stR st rid ts.tail) := by
  have hg := hw.get
  have hl := hw.len
  have hlt : (ts.map tkV).length = ts.length := by simp
  refine VCalls_of F66_ok mixed (Nat.le_of_ble_eq_true rfl) (fun hwf => ?_)
  have e1 : (st.nx = rid) = False := eq_false (by have := (hwf.mem _ _ hm).1; omega)
  have e2 : (st.nx + 1 = rid) = False := eq_false (by have := (hwf.mem _ _ hm).1; omega)
  have hle : 1 ≤ ts.length := hl
  have hdr : List.drop 1 (List.take ts.length (ts.map tkV)) = ts.tail.map tkV := by rw [List.take_of_length_le (by omega)]; simp
  have hw2 := wfR hwf (rid := rid) ts.tail
  rw [stR_eq] at hw2 ⊢
  (repeat' first | ((first | refine go rfl rfl ?_ | (refine Fk.by_ ?_ ?_ <;> intro hc <;> try simp only [hc]) | refine storeK_eq rfl ?_ | with_reducible refine And.intro ?_ ?_ | fail) <;> try simp only [hm, hg, hl, e1, e2, cells_tkV, all_tk, hlt, hle, hdr, Nat.le_refl, push_cast, reduceIte, Nat.reduceEqDiff, reduceCtorEq, Nat.reduceAdd, Nat.reduceLeDiff, Nat.reduceBEq]))
  all_goals refine finB (hw2) (by simp only [F66, push_cast, reduceIte, Nat.reduceEqDiff, reduceCtorEq, Nat.reduceAdd, Nat.reduceLeDiff, Nat.reduceBEq]; exact rfl) (by first | exact .inl rfl | (right; simp only [F66, push_cast, reduceIte, Nat.reduceEqDiff, reduceCtorEq, Nat.reduceAdd, Nat.reduceLeDiff, Nat.reduceBEq]; try rfl)) (by first | rfl | assumption) (by simp) (by simp) (by (repeat first | exact (hw2).subm | exact (hw2).suba | refine Sub.drop (by simp) ?_)) (by (repeat first | exact (hw2).subm | exact (hw2).suba | refine Sub.drop (by simp) ?_)) (by (repeat first | exact (hw2).subx | refine ExSub.dropt (by simp) ?_ | refine ExSub.drop (by simp) ?_))

theorem fail_x (e : Int) (st : St) (rid : Nat) (ts : List Tok) (hw : WfT ts) (hm : Sha.look st.mem rid = some [.sl (ts.map tkV)]) : VCalls Tryz.prog 63 [.ptr rid 0, .int .i64 e] st fun r s => r = .pan (failV (hd ts).a e) ∧ s = st := by
  refine VCalls_of F63_ok mixed (Nat.le_of_ble_eq_true rfl) (fun hwf => ?_)
  (repeat' first | ((first | refine go rfl rfl ?_ | refine Cl.by_ (by (first | refine next_v _ _ _ hw hm)) ?_ | (refine Fk.by_ ?_ ?_ <;> intro hc <;> try simp only [hc]) | refine storeK_eq rfl ?_ | with_reducible refine And.intro ?_ ?_ | fail) <;> try simp only [tkV, push_cast, reduceIte, Nat.reduceEqDiff, reduceCtorEq, Nat.reduceAdd, Nat.reduceLeDiff, Nat.reduceBEq]))
  exact ⟨st, rfl, Weak.refl hwf, Nat.le_refl _, rfl, rfl⟩
theorem fail_call {e : Int} {st : St} {rid : Nat} {ts : List Tok} {K : VRes → St → Prop} (hw : WfT ts) (hm : Sha.look st.mem rid = some [.sl (ts.map tkV)]) (h : K (.pan (failV (hd ts).a e)) st) : VCalls Tryz.prog 63 [.ptr rid 0, .int .i64 e] st K :=
  VCalls.mono (fail_x e st rid ts hw hm) (fun r s ⟨h1, h2⟩ => by subst h1; subst h2; exact h)
theorem ris_v (st : St) (rid : Nat) (ts : List Tok) (k : Int) (t : List UInt8) (hw : WfT ts) (hm : Sha.look st.mem rid = some [.sl (ts.map tkV)]) : VRet Tryz.prog 142 [.ptr rid 0, .int .i64 k, .str t] st (.bool (hdIs k t ts)) st := by
  refine VCalls_of F142_ok mixed (Nat.le_of_ble_eq_true rfl) (fun hwf => ?_)
  (repeat' first | ((first | refine go rfl rfl ?_ | refine Cl.by_ (by (first | refine next_v _ _ _ hw hm)) ?_ | (refine Fk.by_ ?_ ?_ <;> intro hc <;> try simp only [hc]) | refine storeK_eq rfl ?_ | with_reducible refine And.intro ?_ ?_ | fail) <;> try simp only [tkV, push_cast, reduceIte, Nat.reduceEqDiff, reduceCtorEq, Nat.reduceAdd, Nat.reduceLeDiff, Nat.reduceBEq]))
  all_goals exact finRet0 hwf rfl (by simp [resOne, hdIs, *]) rfl
/-! Contracts found by the function's number and its arguments. -/
class RdK (f : FuncId) (args : List V) (Post : outParam (St → Nat → List Tok → (VRes → St → Prop) → Prop)) : Prop where
  c : ∀ {st : St} {rid : Nat} {ts : List Tok} {K : VRes → St → Prop}, Sha.look st.mem rid = some [.sl (ts.map tkV)] → GlOk st.x.gl → WfT ts → Post st rid ts K → VCalls Tryz.prog f (.ptr rid 0 :: args) st K
abbrev RdP {α : Type} (m : Rd α) (enc : α → V) (st : St) (rid : Nat) (ts : List Tok) (K : VRes → St → Prop) : Prop :=
  (∀ a ts', m ts = .ok (a, ts') → WfT ts' → K (.ret (enc a)) (stR st rid ts')) ∧ ∀ q e ts', m ts = .error (q, e) → K (.pan (failV q e)) (stR st rid ts')
theorem RdC.k {α : Type} {f : FuncId} {args : List V} {m : Rd α} {enc : α → V} (h : RdC f args m enc) : RdK f args (RdP m enc) where
  c {st rid ts K} hm hg hw k := by
    refine VCalls.mono (h st rid ts hg hw hm) (fun r s hr => ?_)
    unfold rdPost at hr
    split at hr
    · rename_i a ts' he
      obtain ⟨rfl, rfl, hw'⟩ := hr
      exact k.1 a ts' he hw'
    · rename_i at' e he
      obtain ⟨rfl, ts', rfl⟩ := hr
      exact k.2 at' e ts' he
instance : RdK 62 [] (fun st _ ts K => K (.ret (tkV (hd ts))) st) := ⟨fun hm _ hw h => (next_v _ _ _ hw hm).use h⟩
instance : RdK 66 [] (fun st rid ts K => K (.ret (tkV (hd ts))) (stR st rid ts.tail)) := ⟨fun hm _ hw h => (pass_v _ _ _ hw hm).use h⟩
instance {e : Int} : RdK 63 [.int .i64 e] (fun st _ ts K => K (.pan (failV (hd ts).a e)) st) := ⟨fun hm _ hw h => fail_call hw hm h⟩
instance {k : Int} {t : List UInt8} : RdK 142 [.int .i64 k, .str t] (fun st _ ts K => K (.ret (.bool (hdIs k t ts))) st) := ⟨fun hm _ hw h => (ris_v _ _ _ _ _ hw hm).use h⟩
theorem snap_two {f : FuncId} {rid id n : Nat} {v : V} {st : St} {K : VRes → St → Prop} (h : mapO (snapA st) [.ptr rid 0, .osl id n] = some [.ptr rid 0, v]) (k : VCalls Tryz.prog f [.ptr rid 0, v] st K) : VCalls Tryz.prog f [.ptr rid 0, .osl id n] st K := VCalls_snap k h
theorem finRo {α : Type} {m : Rd α} {enc : α → V} {res : List Res} {st st1 : St} {rid : Nat} {ts ts' : List Tok} {env : Env} {vs : List V} {a : α} {x : VX} (hwf : st.Wf) (k : x = .ret ∨ x = .normal) (h1 : resV env st1 res = some vs) (h2 : enc a = resOne vs ∨ snapV st1 (resOne vs) = some (enc a)) (hb : (enc a).bd st.nx = true)
    (hn : st.nx ≤ st1.nx) (hm : Sub st.nx st1.mem (stR st rid ts').mem) (ha : Sub st.nx st1.arr st.arr) (hx : ExSub st.nx st1.x st.x) (he : m ts = .ok (a, ts')) (hw : WfT ts') : finQ res st.nx (rdPost m enc st rid ts) x env st1 := by
  rcases k with rfl | rfl <;> exact finRd hwf h1 h2 hb hn hm ha hx he hw
theorem subR {st : St} {rid : Nat} {ts : List Tok} (hm : Sha.look st.mem rid = some [.sl (ts.map tkV)]) (hwf : st.Wf) : Sub st.nx st.mem (stR st rid ts).mem := by rw [stR_same hm]; exact hwf.subm
end Go.Proofs.YtnondemehfkalaaGreatDoor

set_option maxRecDepth 10000
namespace Go.Proofs.YtnondemehfkalaaGreatDoor
open Go.Sha

def rWord : List (List UInt8) → Rd (List UInt8)
  | [] => rOk []
  | w :: r => fun ts => if hdIs 0 w ts = true then .ok (w, ts.tail) else rWord r ts
def rSign (s : List UInt8) : Rd Bool := fun ts => if hdIs 2 s ts = true then .ok (true, ts.tail) else .ok (false, ts)
def rNeed (ws : List (List UInt8)) : Rd (List UInt8) := rNext (rWord ws) fun w ts => if (w == []) = true then .error ((hd ts).a, 4) else .ok (w, ts)
def rSlash : Rd Unit := rNext (rSign [47]) fun b ts => if b = true then .ok ((), ts) else .error ((hd ts).a, 4)
def rNumber : Rd (List UInt8) := fun ts => if ((hd ts).k != 1) = true then .error ((hd ts).a, 4) else .ok ((hd ts).t, ts)
def rMust (e : Int) : Rd Unit := fun ts => if (e == 0) = true then .ok ((), ts) else if (e == 3) = true then .error ((hd ts).a, 4) else .error ((hd ts).a, e)

theorem hdIs_ne {k : Int} {t : List UInt8} {ts : List Tok} (h : hdIs k t ts = true) (hk : k ≠ 3) : (hd ts).k ≠ 3 := by
  simp only [hdIs, Bool.and_eq_true, beq_iff_eq] at h
  omega

theorem gword_v (ws : List (List UInt8)) (hl : ws.length < 1000) : RdC 110 [.sl (ws.map .str)] (rWord ws) .str := by
  intro st rid ts hG hw hm
  refine VCalls_of F110_ok mixed (Nat.le_of_ble_eq_true rfl) (fun hwf => ?_)
  have hbw : V.bdL st.nx (ws.map V.str) = true := bdL_map fun _ _ => rfl
  have hrid := (hwf.mem _ _ hm).1
  (repeat' first | ((first | refine go rfl rfl ?_ | (refine Fk.by_ ?_ ?_ <;> intro hc <;> try simp only [hc]) | refine storeK_eq rfl ?_ | with_reducible refine And.intro ?_ ?_ | fail) <;> try simp only [push_cast, reduceIte, Nat.reduceEqDiff, reduceCtorEq, Nat.reduceAdd, Nat.reduceLeDiff, Nat.reduceBEq]))
  refine WT_loop rfl (fun n e z => ∃ j : Nat, n = ws.length - j ∧ j ≤ ws.length ∧ rWord (ws.drop j) ts = rWord ws ts ∧ e = [(9, .int .i64 (j : Int)), (8, .int .i64 (ws.length : Int)), (7, .sl (ws.map .str)), (0, .ptr rid 0)] ∧ st = z) st.nx (Nat.le_refl _) (by rintro _ _ _ ⟨j, _, _, _, _, rfl⟩; rfl)
    ⟨_, _, _, ⟨0, rfl, Nat.zero_le _, rfl, rfl, rfl⟩, (by repeat first | exact .nil | refine .cons (by first | rfl | (simp [V.bd, V.bdL]; try first | omega | assumption)) (by first | rfl | simp only [push_cast, reduceIte, Nat.reduceEqDiff, reduceCtorEq, Nat.reduceAdd, Nat.reduceLeDiff, Nat.reduceBEq]) ?_), .refl hwf⟩ ?_
  rintro n e z ⟨j, rfl, hj, hr, rfl, rfl⟩
  rcases Nat.lt_or_ge j ws.length with hlt | hge
  · obtain ⟨w, hx⟩ : ∃ w, ws[j]? = some w := ⟨_, List.getElem?_eq_getElem hlt⟩
    obtain ⟨q1, q2⟩ := List.getElem?_eq_some_iff.1 hx
    have h2 : decide ((j : Int) < (ws.length : Int)) = true := decide_eq_true (by omega)
    have hwr : IntKind.i64.wrap ((j : Int) + 1) = (j : Int) + 1 := wrap64 (by omega) (by omega)
    rw [List.drop_eq_getElem_cons q1, q2] at hr
    (repeat' first | (with_reducible intro x1 x2 hE hW <;> (try (have hI := rNumber_inv hE; obtain ⟨rfl, rfl, hK⟩ := hI)) <;> (try (have hI := rMust_inv hE; obtain ⟨rfl, -⟩ := hI)) <;> (try (have hI := rUnit_inv hE; obtain ⟨u1, u2, rfl⟩ := hI; dsimp only)) <;> try simp only [stR_eq, lookR, Option.map_some, h2, hwr, hx, V.cells, push_cast, reduceIte, Nat.reduceEqDiff, reduceCtorEq, Nat.reduceAdd, Nat.reduceLeDiff, Nat.reduceBEq]) | (with_reducible intro x1 x2 x3 hE <;> try simp only [stR_eq, lookR, Option.map_some, h2, hwr, hx, V.cells, push_cast, reduceIte, Nat.reduceEqDiff, reduceCtorEq, Nat.reduceAdd, Nat.reduceLeDiff, Nat.reduceBEq]) | ((first | refine go rfl rfl ?_ | refine RdK.c (by first | assumption | (simp only [stR_eq, lookR, Option.map_some, h2, hwr, hx, V.cells, push_cast, reduceIte, Nat.reduceEqDiff, reduceCtorEq, Nat.reduceAdd, Nat.reduceLeDiff, Nat.reduceBEq] <;> exact rfl)) (by assumption) (by assumption) ?_ | refine snap_two (by simp only [stR_eq, lookR, Option.map_some, h2, hwr, hx, V.cells, push_cast, reduceIte, Nat.reduceEqDiff, reduceCtorEq, Nat.reduceAdd, Nat.reduceLeDiff, Nat.reduceBEq] <;> exact rfl) ?_ | (refine Fk.by_ ?_ ?_ <;> intro hc <;> try simp only [hc]) | refine storeK_eq rfl ?_ | with_reducible refine And.intro ?_ ?_ | fail) <;> try simp only [stR_eq, lookR, Option.map_some, h2, hwr, hx, V.cells, push_cast, reduceIte, Nat.reduceEqDiff, reduceCtorEq, Nat.reduceAdd, Nat.reduceLeDiff, Nat.reduceBEq]))
    · have hw' := hw.tail (hdIs_ne hc (by decide))
      have he : rWord ws ts = .ok (w, ts.tail) := by rw [← hr]; simp [rWord, hc]
      (first | exact finRo hwf (by first | exact .inl rfl | exact .inr rfl) (by first | rfl | (simp only [push_cast, reduceIte, Nat.reduceEqDiff, reduceCtorEq, Nat.reduceAdd, Nat.reduceLeDiff, Nat.reduceBEq]; exact rfl)) (by first | exact .inl rfl | (right; simp only [push_cast, reduceIte, Nat.reduceEqDiff, reduceCtorEq, Nat.reduceAdd, Nat.reduceLeDiff, Nat.reduceBEq]; try rfl)) (by first | rfl | assumption | exact bd_cmd | (simp [V.bd, V.bdL]; done)) (by simp) (by (repeat first | exact (wfR hwf _).subm | exact subR hm hwf | refine Sub.drop (by simp) ?_)) (by (repeat first | exact (hwf).suba | refine Sub.drop (by simp) ?_)) ((hwf).subx) (by first | assumption | (simp [*]; done) | (simp only [if_true, if_false, Bool.false_eq_true, *]; done) | fail) (by first | assumption | (simp [*]; done) | fail) | exact finRe hwf (by first | (simp [*]; done) | (simp only [if_true, if_false, Bool.false_eq_true, *]; done)) (by simp) (by (repeat first | exact (wfR hwf _).subm | exact subR hm hwf | refine Sub.drop (by simp) ?_)) (by (repeat first | exact (hwf).suba | refine Sub.drop (by simp) ?_)) ((hwf).subx))
    · simp only [rWord, hc, Bool.false_eq_true, if_false] at hr
      exact ⟨_, _, _, by omega, ⟨j + 1, rfl, by omega, hr, rfl, rfl⟩, (by repeat first | exact .nil | refine .cons (by first | rfl | (simp [V.bd, V.bdL]; try first | omega | assumption)) (by first | rfl | simp only [push_cast, reduceIte, Nat.reduceEqDiff, reduceCtorEq, Nat.reduceAdd, Nat.reduceLeDiff, Nat.reduceBEq]) ?_), .refl hwf⟩
  · have h2 : decide ((j : Int) < (ws.length : Int)) = false := decide_eq_false (by omega)
    have ej : j = ws.length := by omega
    subst ej
    rw [List.drop_length] at hr
    have he : rWord ws ts = .ok ([], ts) := by rw [← hr]; rfl
    (repeat' first | (with_reducible intro x1 x2 hE hW <;> (try (have hI := rNumber_inv hE; obtain ⟨rfl, rfl, hK⟩ := hI)) <;> (try (have hI := rMust_inv hE; obtain ⟨rfl, -⟩ := hI)) <;> (try (have hI := rUnit_inv hE; obtain ⟨u1, u2, rfl⟩ := hI; dsimp only)) <;> try simp only [stR_eq, lookR, Option.map_some, h2, push_cast, reduceIte, Nat.reduceEqDiff, reduceCtorEq, Nat.reduceAdd, Nat.reduceLeDiff, Nat.reduceBEq]) | (with_reducible intro x1 x2 x3 hE <;> try simp only [stR_eq, lookR, Option.map_some, h2, push_cast, reduceIte, Nat.reduceEqDiff, reduceCtorEq, Nat.reduceAdd, Nat.reduceLeDiff, Nat.reduceBEq]) | ((first | refine go rfl rfl ?_ | refine RdK.c (by first | assumption | (simp only [stR_eq, lookR, Option.map_some, h2, push_cast, reduceIte, Nat.reduceEqDiff, reduceCtorEq, Nat.reduceAdd, Nat.reduceLeDiff, Nat.reduceBEq] <;> exact rfl)) (by assumption) (by assumption) ?_ | refine snap_two (by simp only [stR_eq, lookR, Option.map_some, h2, push_cast, reduceIte, Nat.reduceEqDiff, reduceCtorEq, Nat.reduceAdd, Nat.reduceLeDiff, Nat.reduceBEq] <;> exact rfl) ?_ | (refine Fk.by_ ?_ ?_ <;> intro hc <;> try simp only [hc]) | refine storeK_eq rfl ?_ | with_reducible refine And.intro ?_ ?_ | fail) <;> try simp only [stR_eq, lookR, Option.map_some, h2, push_cast, reduceIte, Nat.reduceEqDiff, reduceCtorEq, Nat.reduceAdd, Nat.reduceLeDiff, Nat.reduceBEq]))
    (first | exact finRo hwf (by first | exact .inl rfl | exact .inr rfl) (by first | rfl | (simp only [push_cast, reduceIte, Nat.reduceEqDiff, reduceCtorEq, Nat.reduceAdd, Nat.reduceLeDiff, Nat.reduceBEq]; exact rfl)) (by first | exact .inl rfl | (right; simp only [push_cast, reduceIte, Nat.reduceEqDiff, reduceCtorEq, Nat.reduceAdd, Nat.reduceLeDiff, Nat.reduceBEq]; try rfl)) (by first | rfl | assumption | exact bd_cmd | (simp [V.bd, V.bdL]; done)) (by simp) (by (repeat first | exact (wfR hwf _).subm | exact subR hm hwf | refine Sub.drop (by simp) ?_)) (by (repeat first | exact (hwf).suba | refine Sub.drop (by simp) ?_)) ((hwf).subx) (by first | assumption | (simp [*]; done) | (simp only [if_true, if_false, Bool.false_eq_true, *]; done) | fail) (by first | assumption | (simp [*]; done) | fail) | exact finRe hwf (by first | (simp [*]; done) | (simp only [if_true, if_false, Bool.false_eq_true, *]; done)) (by simp) (by (repeat first | exact (wfR hwf _).subm | exact subR hm hwf | refine Sub.drop (by simp) ?_)) (by (repeat first | exact (hwf).suba | refine Sub.drop (by simp) ?_)) ((hwf).subx))

theorem gneed_v (ws : List (List UInt8)) (hl : ws.length < 1000) : RdC 109 [.sl (ws.map .str)] (rNeed ws) .str := by
  intro st rid ts hG hw hm
  have hbw : V.bdL st.nx (ws.map V.str) = true := bdL_map fun _ _ => rfl
  refine VCalls_of F109_ok mixed (Nat.le_of_ble_eq_true rfl) (fun hwf => ?_)
  (repeat' first | (with_reducible intro x1 x2 hE hW <;> (try (have hI := rNumber_inv hE; obtain ⟨rfl, rfl, hK⟩ := hI)) <;> (try (have hI := rMust_inv hE; obtain ⟨rfl, -⟩ := hI)) <;> (try (have hI := rUnit_inv hE; obtain ⟨u1, u2, rfl⟩ := hI; dsimp only)) <;> try simp only [stR_eq, lookR, Option.map_some, hm, push_cast, reduceIte, Nat.reduceEqDiff, reduceCtorEq, Nat.reduceAdd, Nat.reduceLeDiff, Nat.reduceBEq]) | (with_reducible intro x1 x2 x3 hE <;> try simp only [stR_eq, lookR, Option.map_some, hm, push_cast, reduceIte, Nat.reduceEqDiff, reduceCtorEq, Nat.reduceAdd, Nat.reduceLeDiff, Nat.reduceBEq]) | ((first | refine go rfl rfl ?_ | refine rd_call (gword_v ws hl) (by first | rfl | (simp only [stR_eq, lookR, Option.map_some, hm, push_cast, reduceIte, Nat.reduceEqDiff, reduceCtorEq, Nat.reduceAdd, Nat.reduceLeDiff, Nat.reduceBEq]; exact rfl)) (by assumption) (by assumption) (by first | assumption | (simp only [stR_eq, lookR, Option.map_some, hm, push_cast, reduceIte, Nat.reduceEqDiff, reduceCtorEq, Nat.reduceAdd, Nat.reduceLeDiff, Nat.reduceBEq] <;> exact rfl)) ?_ ?_ | refine RdK.c (by first | assumption | (simp only [stR_eq, lookR, Option.map_some, hm, push_cast, reduceIte, Nat.reduceEqDiff, reduceCtorEq, Nat.reduceAdd, Nat.reduceLeDiff, Nat.reduceBEq] <;> exact rfl)) (by assumption) (by assumption) ?_ | refine snap_two (by simp only [stR_eq, lookR, Option.map_some, hm, push_cast, reduceIte, Nat.reduceEqDiff, reduceCtorEq, Nat.reduceAdd, Nat.reduceLeDiff, Nat.reduceBEq] <;> exact rfl) ?_ | (refine Fk.by_ ?_ ?_ <;> intro hc <;> try simp only [hc]) | refine storeK_eq rfl ?_ | with_reducible refine And.intro ?_ ?_ | fail) <;> try simp only [stR_eq, lookR, Option.map_some, hm, push_cast, reduceIte, Nat.reduceEqDiff, reduceCtorEq, Nat.reduceAdd, Nat.reduceLeDiff, Nat.reduceBEq]))
  all_goals first | (first | exact finRo hwf (by first | exact .inl rfl | exact .inr rfl) (by first | rfl | (simp only [rNeed, rNext, push_cast, reduceIte, Nat.reduceEqDiff, reduceCtorEq, Nat.reduceAdd, Nat.reduceLeDiff, Nat.reduceBEq]; exact rfl)) (by first | exact .inl rfl | (right; simp only [push_cast, reduceIte, Nat.reduceEqDiff, reduceCtorEq, Nat.reduceAdd, Nat.reduceLeDiff, Nat.reduceBEq]; try rfl)) (by first | rfl | assumption | exact bd_cmd | (simp [V.bd, V.bdL]; done)) (by simp) (by (repeat first | exact (wfR hwf _).subm | exact subR hm hwf | refine Sub.drop (by simp) ?_)) (by (repeat first | exact (hwf).suba | refine Sub.drop (by simp) ?_)) ((hwf).subx) (by first | assumption | (simp [rNeed, rNext, *]; done) | (simp only [rNeed, rNext, if_true, if_false, Bool.false_eq_true, *]; done) | fail) (by first | assumption | (simp [rNeed, rNext, *]; done) | fail) | exact finRe hwf (by first | (simp [rNeed, rNext, *]; done) | (simp only [rNeed, rNext, if_true, if_false, Bool.false_eq_true, *]; done)) (by simp) (by (repeat first | exact (wfR hwf _).subm | exact subR hm hwf | refine Sub.drop (by simp) ?_)) (by (repeat first | exact (hwf).suba | refine Sub.drop (by simp) ?_)) ((hwf).subx))

instance {a : List UInt8} : RdK 110 [.sl [.str a]] (RdP (rWord [a]) .str) := (gword_v [a] (by simp)).k
instance {a b : List UInt8} : RdK 110 [.sl [.str a, .str b]] (RdP (rWord [a, b]) .str) := (gword_v [a, b] (by simp)).k
instance {a : List UInt8} : RdK 109 [.sl [.str a]] (RdP (rNeed [a]) .str) := (gneed_v [a] (by simp)).k
instance {a b : List UInt8} : RdK 109 [.sl [.str a, .str b]] (RdP (rNeed [a, b]) .str) := (gneed_v [a, b] (by simp)).k
instance {a b c d : List UInt8} : RdK 109 [.sl [.str a, .str b, .str c, .str d]] (RdP (rNeed [a, b, c, d]) .str) := (gneed_v [a, b, c, d] (by simp)).k
instance {a b c d e f : List UInt8} : RdK 109 [.sl [.str a, .str b, .str c, .str d, .str e, .str f]] (RdP (rNeed [a, b, c, d, e, f]) .str) := (gneed_v [a, b, c, d, e, f] (by simp)).k
theorem gsign_v (s : List UInt8) : RdC 91 [.str s] (rSign s) .bool := by
  intro st rid ts hG hw hm
  refine VCalls_of F91_ok mixed (Nat.le_of_ble_eq_true rfl) (fun hwf => ?_)
  (repeat' first | (with_reducible intro x1 x2 hE hW <;> (try (have hI := rNumber_inv hE; obtain ⟨rfl, rfl, hK⟩ := hI)) <;> (try (have hI := rMust_inv hE; obtain ⟨rfl, -⟩ := hI)) <;> (try (have hI := rUnit_inv hE; obtain ⟨u1, u2, rfl⟩ := hI; dsimp only)) <;> try simp only [stR_eq, lookR, Option.map_some, push_cast, reduceIte, Nat.reduceEqDiff, reduceCtorEq, Nat.reduceAdd, Nat.reduceLeDiff, Nat.reduceBEq]) | (with_reducible intro x1 x2 x3 hE <;> try simp only [stR_eq, lookR, Option.map_some, push_cast, reduceIte, Nat.reduceEqDiff, reduceCtorEq, Nat.reduceAdd, Nat.reduceLeDiff, Nat.reduceBEq]) | ((first | refine go rfl rfl ?_ | refine RdK.c (by first | assumption | (simp only [stR_eq, lookR, Option.map_some, push_cast, reduceIte, Nat.reduceEqDiff, reduceCtorEq, Nat.reduceAdd, Nat.reduceLeDiff, Nat.reduceBEq] <;> exact rfl)) (by assumption) (by assumption) ?_ | refine snap_two (by simp only [stR_eq, lookR, Option.map_some, push_cast, reduceIte, Nat.reduceEqDiff, reduceCtorEq, Nat.reduceAdd, Nat.reduceLeDiff, Nat.reduceBEq] <;> exact rfl) ?_ | (refine Fk.by_ ?_ ?_ <;> intro hc <;> try simp only [hc]) | refine storeK_eq rfl ?_ | with_reducible refine And.intro ?_ ?_ | fail) <;> try simp only [stR_eq, lookR, Option.map_some, push_cast, reduceIte, Nat.reduceEqDiff, reduceCtorEq, Nat.reduceAdd, Nat.reduceLeDiff, Nat.reduceBEq]))
  all_goals first | (have hw' := hw.tail (hdIs_ne hc (by decide)); (first | exact finRo hwf (by first | exact .inl rfl | exact .inr rfl) (by first | rfl | (simp only [rSign, push_cast, reduceIte, Nat.reduceEqDiff, reduceCtorEq, Nat.reduceAdd, Nat.reduceLeDiff, Nat.reduceBEq]; exact rfl)) (by first | exact .inl rfl | (right; simp only [push_cast, reduceIte, Nat.reduceEqDiff, reduceCtorEq, Nat.reduceAdd, Nat.reduceLeDiff, Nat.reduceBEq]; try rfl)) (by first | rfl | assumption | exact bd_cmd | (simp [V.bd, V.bdL]; done)) (by simp) (by (repeat first | exact (wfR hwf _).subm | exact subR hm hwf | refine Sub.drop (by simp) ?_)) (by (repeat first | exact (hwf).suba | refine Sub.drop (by simp) ?_)) ((hwf).subx) (by first | assumption | (simp [rSign, *]; done) | (simp only [rSign, if_true, if_false, Bool.false_eq_true, *]; done) | fail) (by first | assumption | (simp [rSign, *]; done) | fail) | exact finRe hwf (by first | (simp [rSign, *]; done) | (simp only [rSign, if_true, if_false, Bool.false_eq_true, *]; done)) (by simp) (by (repeat first | exact (wfR hwf _).subm | exact subR hm hwf | refine Sub.drop (by simp) ?_)) (by (repeat first | exact (hwf).suba | refine Sub.drop (by simp) ?_)) ((hwf).subx))) | (first | exact finRo hwf (by first | exact .inl rfl | exact .inr rfl) (by first | rfl | (simp only [rSign, push_cast, reduceIte, Nat.reduceEqDiff, reduceCtorEq, Nat.reduceAdd, Nat.reduceLeDiff, Nat.reduceBEq]; exact rfl)) (by first | exact .inl rfl | (right; simp only [push_cast, reduceIte, Nat.reduceEqDiff, reduceCtorEq, Nat.reduceAdd, Nat.reduceLeDiff, Nat.reduceBEq]; try rfl)) (by first | rfl | assumption | exact bd_cmd | (simp [V.bd, V.bdL]; done)) (by simp) (by (repeat first | exact (wfR hwf _).subm | exact subR hm hwf | refine Sub.drop (by simp) ?_)) (by (repeat first | exact (hwf).suba | refine Sub.drop (by simp) ?_)) ((hwf).subx) (by first | assumption | (simp [rSign, *]; done) | (simp only [rSign, if_true, if_false, Bool.false_eq_true, *]; done) | fail) (by first | assumption | (simp [rSign, *]; done) | fail) | exact finRe hwf (by first | (simp [rSign, *]; done) | (simp only [rSign, if_true, if_false, Bool.false_eq_true, *]; done)) (by simp) (by (repeat first | exact (wfR hwf _).subm | exact subR hm hwf | refine Sub.drop (by simp) ?_)) (by (repeat first | exact (hwf).suba | refine Sub.drop (by simp) ?_)) ((hwf).subx))

instance {s : List UInt8} : RdK 91 [.str s] (RdP (rSign s) .bool) := (gsign_v s).k
theorem gslash_v : RdC 174 [] rSlash (fun _ => .tup []) := by
  intro st rid ts hG hw hm
  refine VCalls_of F174_ok mixed (Nat.le_of_ble_eq_true rfl) (fun hwf => ?_)
  (repeat' first | (with_reducible intro x1 x2 hE hW <;> (try (have hI := rNumber_inv hE; obtain ⟨rfl, rfl, hK⟩ := hI)) <;> (try (have hI := rMust_inv hE; obtain ⟨rfl, -⟩ := hI)) <;> (try (have hI := rUnit_inv hE; obtain ⟨u1, u2, rfl⟩ := hI; dsimp only)) <;> try simp only [stR_eq, lookR, Option.map_some, hm, push_cast, reduceIte, Nat.reduceEqDiff, reduceCtorEq, Nat.reduceAdd, Nat.reduceLeDiff, Nat.reduceBEq]) | (with_reducible intro x1 x2 x3 hE <;> try simp only [stR_eq, lookR, Option.map_some, hm, push_cast, reduceIte, Nat.reduceEqDiff, reduceCtorEq, Nat.reduceAdd, Nat.reduceLeDiff, Nat.reduceBEq]) | ((first | refine go rfl rfl ?_ | refine RdK.c (by first | assumption | (simp only [stR_eq, lookR, Option.map_some, hm, push_cast, reduceIte, Nat.reduceEqDiff, reduceCtorEq, Nat.reduceAdd, Nat.reduceLeDiff, Nat.reduceBEq] <;> exact rfl)) (by assumption) (by assumption) ?_ | refine snap_two (by simp only [stR_eq, lookR, Option.map_some, hm, push_cast, reduceIte, Nat.reduceEqDiff, reduceCtorEq, Nat.reduceAdd, Nat.reduceLeDiff, Nat.reduceBEq] <;> exact rfl) ?_ | (refine Fk.by_ ?_ ?_ <;> intro hc <;> try simp only [hc]) | refine storeK_eq rfl ?_ | with_reducible refine And.intro ?_ ?_ | fail) <;> try simp only [stR_eq, lookR, Option.map_some, hm, push_cast, reduceIte, Nat.reduceEqDiff, reduceCtorEq, Nat.reduceAdd, Nat.reduceLeDiff, Nat.reduceBEq]))
  all_goals first | (first | exact finRo (a := ()) hwf (by first | exact .inl rfl | exact .inr rfl) (by first | rfl | (simp only [rSlash, rNext, push_cast, reduceIte, Nat.reduceEqDiff, reduceCtorEq, Nat.reduceAdd, Nat.reduceLeDiff, Nat.reduceBEq]; exact rfl)) (by first | exact .inl rfl | (right; simp only [push_cast, reduceIte, Nat.reduceEqDiff, reduceCtorEq, Nat.reduceAdd, Nat.reduceLeDiff, Nat.reduceBEq]; try rfl)) (by first | rfl | assumption | exact bd_cmd | (simp [V.bd, V.bdL]; done)) (by simp) (by (repeat first | exact (wfR hwf _).subm | exact subR hm hwf | refine Sub.drop (by simp) ?_)) (by (repeat first | exact (hwf).suba | refine Sub.drop (by simp) ?_)) ((hwf).subx) (by first | assumption | (simp [rSlash, rNext, *]; done) | (simp only [rSlash, rNext, if_true, if_false, Bool.false_eq_true, *]; done) | fail) (by first | assumption | (simp [rSlash, rNext, *]; done) | fail) | exact finRe hwf (by first | (simp [rSlash, rNext, *]; done) | (simp only [rSlash, rNext, if_true, if_false, Bool.false_eq_true, *]; done)) (by simp) (by (repeat first | exact (wfR hwf _).subm | exact subR hm hwf | refine Sub.drop (by simp) ?_)) (by (repeat first | exact (hwf).suba | refine Sub.drop (by simp) ?_)) ((hwf).subx))

instance : RdK 174 [] (RdP rSlash (fun _ => .tup [])) := (gslash_v).k
theorem gnumber_v : RdC 168 [] rNumber .str := by
  intro st rid ts hG hw hm
  refine VCalls_of F168_ok mixed (Nat.le_of_ble_eq_true rfl) (fun hwf => ?_)
  (repeat' first | (with_reducible intro x1 x2 hE hW <;> (try (have hI := rNumber_inv hE; obtain ⟨rfl, rfl, hK⟩ := hI)) <;> (try (have hI := rMust_inv hE; obtain ⟨rfl, -⟩ := hI)) <;> (try (have hI := rUnit_inv hE; obtain ⟨u1, u2, rfl⟩ := hI; dsimp only)) <;> try simp only [stR_eq, lookR, Option.map_some, hm, tkV, push_cast, reduceIte, Nat.reduceEqDiff, reduceCtorEq, Nat.reduceAdd, Nat.reduceLeDiff, Nat.reduceBEq]) | (with_reducible intro x1 x2 x3 hE <;> try simp only [stR_eq, lookR, Option.map_some, hm, tkV, push_cast, reduceIte, Nat.reduceEqDiff, reduceCtorEq, Nat.reduceAdd, Nat.reduceLeDiff, Nat.reduceBEq]) | ((first | refine go rfl rfl ?_ | refine RdK.c (by first | assumption | (simp only [stR_eq, lookR, Option.map_some, hm, tkV, push_cast, reduceIte, Nat.reduceEqDiff, reduceCtorEq, Nat.reduceAdd, Nat.reduceLeDiff, Nat.reduceBEq] <;> exact rfl)) (by assumption) (by assumption) ?_ | refine snap_two (by simp only [stR_eq, lookR, Option.map_some, hm, tkV, push_cast, reduceIte, Nat.reduceEqDiff, reduceCtorEq, Nat.reduceAdd, Nat.reduceLeDiff, Nat.reduceBEq] <;> exact rfl) ?_ | (refine Fk.by_ ?_ ?_ <;> intro hc <;> try simp only [hc]) | refine storeK_eq rfl ?_ | with_reducible refine And.intro ?_ ?_ | fail) <;> try simp only [stR_eq, lookR, Option.map_some, hm, tkV, push_cast, reduceIte, Nat.reduceEqDiff, reduceCtorEq, Nat.reduceAdd, Nat.reduceLeDiff, Nat.reduceBEq]))
  all_goals first | (first | exact finRo hwf (by first | exact .inl rfl | exact .inr rfl) (by first | rfl | (simp only [rNumber, push_cast, reduceIte, Nat.reduceEqDiff, reduceCtorEq, Nat.reduceAdd, Nat.reduceLeDiff, Nat.reduceBEq]; exact rfl)) (by first | exact .inl rfl | (right; simp only [push_cast, reduceIte, Nat.reduceEqDiff, reduceCtorEq, Nat.reduceAdd, Nat.reduceLeDiff, Nat.reduceBEq]; try rfl)) (by first | rfl | assumption | exact bd_cmd | (simp [V.bd, V.bdL]; done)) (by simp) (by (repeat first | exact (wfR hwf _).subm | exact subR hm hwf | refine Sub.drop (by simp) ?_)) (by (repeat first | exact (hwf).suba | refine Sub.drop (by simp) ?_)) ((hwf).subx) (by first | assumption | (simp [rNumber, *]; done) | (simp only [rNumber, if_true, if_false, Bool.false_eq_true, *]; done) | fail) (by first | assumption | (simp [rNumber, *]; done) | fail) | exact finRe hwf (by first | (simp [rNumber, *]; done) | (simp only [rNumber, if_true, if_false, Bool.false_eq_true, *]; done)) (by simp) (by (repeat first | exact (wfR hwf _).subm | exact subR hm hwf | refine Sub.drop (by simp) ?_)) (by (repeat first | exact (hwf).suba | refine Sub.drop (by simp) ?_)) ((hwf).subx))

instance : RdK 168 [] (RdP rNumber .str) := (gnumber_v).k
theorem gmust_v (e : Int) : RdC 170 [.int .i64 e] (rMust e) (fun _ => .tup []) := by
  intro st rid ts hG hw hm
  refine VCalls_of F170_ok mixed (Nat.le_of_ble_eq_true rfl) (fun hwf => ?_)
  (repeat' first | (with_reducible intro x1 x2 hE hW <;> (try (have hI := rNumber_inv hE; obtain ⟨rfl, rfl, hK⟩ := hI)) <;> (try (have hI := rMust_inv hE; obtain ⟨rfl, -⟩ := hI)) <;> (try (have hI := rUnit_inv hE; obtain ⟨u1, u2, rfl⟩ := hI; dsimp only)) <;> try simp only [stR_eq, lookR, Option.map_some, hm, tkV, push_cast, reduceIte, Nat.reduceEqDiff, reduceCtorEq, Nat.reduceAdd, Nat.reduceLeDiff, Nat.reduceBEq]) | (with_reducible intro x1 x2 x3 hE <;> try simp only [stR_eq, lookR, Option.map_some, hm, tkV, push_cast, reduceIte, Nat.reduceEqDiff, reduceCtorEq, Nat.reduceAdd, Nat.reduceLeDiff, Nat.reduceBEq]) | ((first | refine go rfl rfl ?_ | refine RdK.c (by first | assumption | (simp only [stR_eq, lookR, Option.map_some, hm, tkV, push_cast, reduceIte, Nat.reduceEqDiff, reduceCtorEq, Nat.reduceAdd, Nat.reduceLeDiff, Nat.reduceBEq] <;> exact rfl)) (by assumption) (by assumption) ?_ | refine snap_two (by simp only [stR_eq, lookR, Option.map_some, hm, tkV, push_cast, reduceIte, Nat.reduceEqDiff, reduceCtorEq, Nat.reduceAdd, Nat.reduceLeDiff, Nat.reduceBEq] <;> exact rfl) ?_ | (refine Fk.by_ ?_ ?_ <;> intro hc <;> try simp only [hc]) | refine storeK_eq rfl ?_ | with_reducible refine And.intro ?_ ?_ | fail) <;> try simp only [stR_eq, lookR, Option.map_some, hm, tkV, push_cast, reduceIte, Nat.reduceEqDiff, reduceCtorEq, Nat.reduceAdd, Nat.reduceLeDiff, Nat.reduceBEq]))
  all_goals first | (first | exact finRo (a := ()) hwf (by first | exact .inl rfl | exact .inr rfl) (by first | rfl | (simp only [rMust, push_cast, reduceIte, Nat.reduceEqDiff, reduceCtorEq, Nat.reduceAdd, Nat.reduceLeDiff, Nat.reduceBEq]; exact rfl)) (by first | exact .inl rfl | (right; simp only [push_cast, reduceIte, Nat.reduceEqDiff, reduceCtorEq, Nat.reduceAdd, Nat.reduceLeDiff, Nat.reduceBEq]; try rfl)) (by first | rfl | assumption | exact bd_cmd | (simp [V.bd, V.bdL]; done)) (by simp) (by (repeat first | exact (wfR hwf _).subm | exact subR hm hwf | refine Sub.drop (by simp) ?_)) (by (repeat first | exact (hwf).suba | refine Sub.drop (by simp) ?_)) ((hwf).subx) (by first | assumption | (simp [rMust, *]; done) | (simp only [rMust, if_true, if_false, Bool.false_eq_true, *]; done) | fail) (by first | assumption | (simp [rMust, *]; done) | fail) | exact finRe hwf (by first | (simp [rMust, *]; done) | (simp only [rMust, if_true, if_false, Bool.false_eq_true, *]; done)) (by simp) (by (repeat first | exact (wfR hwf _).subm | exact subR hm hwf | refine Sub.drop (by simp) ?_)) (by (repeat first | exact (hwf).suba | refine Sub.drop (by simp) ?_)) ((hwf).subx))
instance {e : Int} : RdK 170 [.int .i64 e] (RdP (rMust e) (fun _ => .tup [])) := (gmust_v e).k
end Go.Proofs.YtnondemehfkalaaGreatDoor

namespace Go.Proofs.YtnondemehfkalaaGreatDoor
open Go.Sha
/-- strings.Trim -/
def F37 : FT := ⟨43, 2, [.tmp 4],
  [.seq 1 2,
   .reg [⟨(some 4), .mv (.c (.str [])), none⟩],
   .seq 3 10,
   .seq 4 5,
   .reg [⟨(some 7), .mv (.t 0), none⟩,
      ⟨(some 8), .bin .eql (.t 7) (.c (.str [])), none⟩,
      ⟨(some 9), .mv (.t 8), none⟩,
      ⟨(some 10), .mv (.t 1), some (9, false)⟩,
      ⟨(some 11), .bin .eql (.t 10) (.c (.str [])), some (9, false)⟩,
      ⟨(some 12), .pick (.t 9) (.c (.bool true)) (.t 11), none⟩],
   .cond (.t 12) 6 9,
   .seq 7 8,
   .reg [⟨(some 13), .mv (.t 0), none⟩,
      ⟨(some 4), .mv (.t 13), none⟩],
   .ret,
   .skip,
   .seq 11 18,
   .seq 12 13,
   .reg [⟨(some 14), .mv (.t 1), none⟩,
      ⟨(some 15), .lens (.t 14), none⟩,
      ⟨(some 16), .bin .eql (.t 15) (.c (.int .i64 1)), none⟩,
      ⟨(some 17), .mv (.t 16), none⟩,
      ⟨(some 18), .mv (.t 1), some (17, true)⟩,
      ⟨(some 19), .ichr (.t 18) (.c (.int .i64 0)), some (17, true)⟩,
      ⟨(some 20), .bin .lss (.t 19) (.c (.int .u8 128)), some (17, true)⟩,
      ⟨(some 21), .pick (.t 17) (.t 20) (.c (.bool false)), none⟩],
   .cond (.t 21) 14 17,
   .seq 15 16,
   .dreg 8 [⟨(some 22), .mv (.t 0), none⟩,
      ⟨(some 23), .mv (.t 1), none⟩,
      ⟨(some 24), .ichr (.t 23) (.c (.int .i64 0)), none⟩,
      ⟨(some 25), .call (.c (.fn (.func 48) [] [])) [(.t 22), (.t 24)], none⟩,
      ⟨(some 26), .mv (.t 1), none⟩,
      ⟨(some 27), .ichr (.t 26) (.c (.int .i64 0)), none⟩,
      ⟨(some 28), .call (.c (.fn (.func 84) [] [])) [(.t 25), (.t 27)], none⟩,
      ⟨(some 4), .mv (.t 28), none⟩],
   .ret,
   .skip,
   .seq 19 28,
   .seq 20 21,
   .reg [⟨(some 30), .mv (.t 1), none⟩,
      ⟨(some 31), .call (.c (.fn (.func 49) [] [])) [(.t 30)], none⟩,
      ⟨(some 29), .mv (.t 31), none⟩,
      ⟨(some 32), .ext 0 (.t 29), none⟩,
      ⟨(some 33), .ext 1 (.t 29), none⟩,
      ⟨(some 5), .alloc 83 [(.bool false), (.bool false), (.bool false), (.bool false), (.bool false), (.bool false), (.bool false), (.bool false), (.bool false), (.bool false), (.bool false), (.bool false), (.bool false), (.bool false), (.bool false), (.bool false), (.bool false), (.bool false), (.bool false), (.bool false), (.bool false), (.bool false), (.bool false), (.bool false), (.bool false), (.bool false), (.bool false), (.bool false), (.bool false), (.bool false), (.bool false), (.bool false), (.bool false), (.bool false), (.bool false), (.bool false), (.bool false), (.bool false), (.bool false), (.bool false), (.bool false), (.bool false), (.bool false), (.bool false), (.bool false), (.bool false), (.bool false), (.bool false), (.bool false), (.bool false), (.bool false), (.bool false), (.bool false), (.bool false), (.bool false), (.bool false), (.bool false), (.bool false), (.bool false), (.bool false), (.bool false), (.bool false), (.bool false), (.bool false), (.bool false), (.bool false), (.bool false), (.bool false), (.bool false), (.bool false), (.bool false), (.bool false), (.bool false), (.bool false), (.bool false), (.bool false), (.bool false), (.bool false), (.bool false), (.bool false), (.bool false), (.bool false), (.bool false), (.bool false), (.bool false), (.bool false), (.bool false), (.bool false), (.bool false), (.bool false), (.bool false), (.bool false), (.bool false), (.bool false), (.bool false), (.bool false), (.bool false), (.bool false), (.bool false), (.bool false), (.bool false), (.bool false), (.bool false), (.bool false), (.bool false), (.bool false), (.bool false), (.bool false), (.bool false), (.bool false), (.bool false), (.bool false), (.bool false), (.bool false), (.bool false), (.bool false), (.bool false), (.bool false), (.bool false), (.bool false), (.bool false), (.bool false), (.bool false), (.bool false), (.bool false), (.bool false), (.bool false), (.bool false), (.bool false), (.bool false), (.bool false), (.bool false), (.bool false), (.bool false), (.bool false), (.bool false), (.bool false), (.bool false), (.bool false), (.bool false), (.bool false), (.bool false), (.bool false), (.bool false), (.bool false), (.bool false), (.bool false), (.bool false), (.bool false), (.bool false), (.bool false), (.bool false), (.bool false), (.bool false), (.bool false), (.bool false), (.bool false), (.bool false), (.bool false), (.bool false), (.bool false), (.bool false), (.bool false), (.bool false), (.bool false), (.bool false), (.bool false), (.bool false), (.bool false), (.bool false), (.bool false), (.bool false), (.bool false), (.bool false), (.bool false), (.bool false), (.bool false), (.bool false), (.bool false), (.bool false), (.bool false), (.bool false), (.bool false), (.bool false), (.bool false), (.bool false), (.bool false), (.bool false), (.bool false), (.bool false), (.bool false), (.bool false), (.bool false), (.bool false), (.bool false), (.bool false), (.bool false), (.bool false), (.bool false), (.bool false), (.bool false), (.bool false), (.bool false), (.bool false), (.bool false), (.bool false), (.bool false), (.bool false), (.bool false), (.bool false), (.bool false), (.bool false), (.bool false), (.bool false), (.bool false), (.bool false), (.bool false), (.bool false), (.bool false), (.bool false), (.bool false), (.bool false), (.bool false), (.bool false), (.bool false), (.bool false), (.bool false), (.bool false), (.bool false), (.bool false), (.bool false), (.bool false), (.bool false), (.bool false), (.bool false), (.bool false), (.bool false), (.bool false), (.bool false), (.bool false), (.bool false), (.bool false), (.bool false), (.bool false), (.bool false), (.bool false), (.bool false), (.bool false), (.bool false), (.bool false), (.bool false), (.bool false), (.bool false), (.bool false), (.bool false), (.bool false)], none⟩,
      ⟨none, .store 256 (.t 5) (.t 32), none⟩,
      ⟨(some 6), .mv (.t 33), none⟩],
   .seq 22 23,
   .reg [⟨(some 34), .mv (.t 6), none⟩],
   .cond (.t 34) 24 27,
   .seq 25 26,
   .reg [⟨(some 35), .mv (.t 0), none⟩,
      ⟨(some 36), .call (.c (.fn (.func 50) [] [])) [(.t 35), (.t 5)], none⟩,
      ⟨(some 37), .call (.c (.fn (.func 85) [] [])) [(.t 36), (.t 5)], none⟩,
      ⟨(some 4), .mv (.t 37), none⟩],
   .ret,
   .skip,
   .seq 29 30,
   .reg [⟨(some 38), .mv (.t 0), none⟩,
      ⟨(some 39), .mv (.t 1), none⟩,
      ⟨(some 40), .call (.c (.fn (.func 51) [] [])) [(.t 38), (.t 39)], none⟩,
      ⟨(some 41), .mv (.t 1), none⟩,
      ⟨(some 42), .call (.c (.fn (.func 86) [] [])) [(.t 40), (.t 41)], none⟩,
      ⟨(some 4), .mv (.t 42), none⟩],
   .ret]⟩

/-- strings.trimRightASCII -/
def F50 : FT := ⟨22, 2, [.tmp 4],
  [.seq 1 2,
   .reg [⟨(some 4), .mv (.c (.str [])), none⟩],
   .seq 3 19,
   .block 0 4,
   .loop 5,
   .seq 6 11,
   .seq 7 8,
   .reg [⟨(some 5), .mv (.t 0), none⟩,
      ⟨(some 6), .lens (.t 5), none⟩,
      ⟨(some 7), .bin .gtr (.t 6) (.c (.int .i64 0)), none⟩],
   .cond (.t 7) 9 10,
   .skip,
   .exit 0,
   .block 1 12,
   .seq 13 18,
   .seq 14 15,
   .reg [⟨(some 8), .mv (.t 1), none⟩,
      ⟨(some 9), .mv (.t 0), none⟩,
      ⟨(some 10), .mv (.t 0), none⟩,
      ⟨(some 11), .lens (.t 10), none⟩,
      ⟨(some 12), .bin .sub (.t 11) (.c (.int .i64 1)), none⟩,
      ⟨(some 13), .ichr (.t 9) (.t 12), none⟩,
      ⟨(some 14), .call (.c (.fn (.func 95) [] [])) [(.t 8), (.t 13)], none⟩,
      ⟨(some 15), .un .not (.t 14), none⟩],
   .cond (.t 15) 16 17,
   .exit 0,
   .skip,
   .reg [⟨(some 16), .mv (.t 0), none⟩,
      ⟨(some 17), .mv (.t 0), none⟩,
      ⟨(some 18), .lens (.t 17), none⟩,
      ⟨(some 19), .bin .sub (.t 18) (.c (.int .i64 1)), none⟩,
      ⟨(some 20), .slices (.t 16) none (some (.t 19)), none⟩,
      ⟨(some 0), .mv (.t 20), none⟩],
   .seq 20 21,
   .reg [⟨(some 21), .mv (.t 0), none⟩,
      ⟨(some 4), .mv (.t 21), none⟩],
   .ret]⟩

/-- strings.trimLeftASCII -/
def F85 : FT := ⟨16, 2, [.tmp 4],
  [.seq 1 2,
   .reg [⟨(some 4), .mv (.c (.str [])), none⟩],
   .seq 3 19,
   .block 0 4,
   .loop 5,
   .seq 6 11,
   .seq 7 8,
   .reg [⟨(some 5), .mv (.t 0), none⟩,
      ⟨(some 6), .lens (.t 5), none⟩,
      ⟨(some 7), .bin .gtr (.t 6) (.c (.int .i64 0)), none⟩],
   .cond (.t 7) 9 10,
   .skip,
   .exit 0,
   .block 1 12,
   .seq 13 18,
   .seq 14 15,
   .reg [⟨(some 8), .mv (.t 1), none⟩,
      ⟨(some 9), .mv (.t 0), none⟩,
      ⟨(some 10), .ichr (.t 9) (.c (.int .i64 0)), none⟩,
      ⟨(some 11), .call (.c (.fn (.func 95) [] [])) [(.t 8), (.t 10)], none⟩,
      ⟨(some 12), .un .not (.t 11), none⟩],
   .cond (.t 12) 16 17,
   .exit 0,
   .skip,
   .reg [⟨(some 13), .mv (.t 0), none⟩,
      ⟨(some 14), .slices (.t 13) (some (.c (.int .i64 1))) none, none⟩,
      ⟨(some 0), .mv (.t 14), none⟩],
   .seq 20 21,
   .reg [⟨(some 15), .mv (.t 0), none⟩,
      ⟨(some 4), .mv (.t 15), none⟩],
   .ret]⟩

/-- (*strings.asciiSet).contains -/
def F95 : FT := ⟨10, 2, [.tmp 4],
  [.seq 1 2,
   .reg [⟨(some 4), .mv (.c (.bool false)), none⟩],
   .seq 3 4,
   .reg [⟨(some 5), .mv (.t 0), none⟩,
      ⟨(some 6), .mv (.t 1), none⟩,
      ⟨(some 7), .nilc (.t 5), none⟩,
      ⟨(some 8), .iadra 256 1 (.t 7) (.t 6), none⟩,
      ⟨(some 9), .load none (.t 8), none⟩,
      ⟨(some 4), .mv (.t 9), none⟩],
   .ret]⟩

theorem F37_ok : compFn Tryz.prog 37 = some F37 := by kernel_rfl
theorem F50_ok : compFn Tryz.prog 50 = some F50 := by kernel_rfl
theorem F85_ok : compFn Tryz.prog 85 = some F85 := by kernel_rfl
theorem F95_ok : compFn Tryz.prog 95 = some F95 := by kernel_rfl
end Go.Proofs.YtnondemehfkalaaGreatDoor

set_option maxRecDepth 10000
namespace Go.Proofs.YtnondemehfkalaaGreatDoor
open Go.Sha Go.RowKit

theorem Below.of_drew {n : Nat} {w w' : World} (h : w' = w ∨ w' = w.drew) : Below n w w' := by
  rcases h with rfl | rfl
  · exact Below.refl _ _
  · exact Below.drew (Below.refl _ _)

/-! ### strings.Cut at one byte -/
theorem callable98 : Callable Tryz.prog 98 := ⟨_, Tryz.func98, by kernel_rfl, by kernel_rfl⟩
theorem callable23 : Callable Tryz.prog 23 := ⟨_, Tryz.func23, by kernel_rfl, by kernel_rfl⟩
theorem callable49 : Callable Tryz.prog 49 := ⟨_, Tryz.func49, by kernel_rfl, by kernel_rfl⟩
theorem index1_v (s : List UInt8) (c : UInt8) (st : St) : VRet Tryz.prog 98 [.str s, .str [c]] st (.int .i64 (Lib.indexByte s c)) st := by
  refine VRet_of_below callable98 (fun w A vs hw ha => ?_)
  obtain ⟨u, v, rfl, h1, h2⟩ := ha.two
  have e1 := h1.str_inv
  have e2 := h2.str_inv
  subst e1; subst e2
  refine (Tryz.stringslite_Index_one ⟨s.toArray⟩ c w).mono fun e w' ⟨he, hb⟩ => ?_
  subst he; subst hb
  exact ⟨_, rfl, fun w' A' => .int _ _, Below.refl _ _⟩
theorem contains1_v (s : List UInt8) (c : UInt8) (st : St) : VRet Tryz.prog 23 [.str s, .str [c]] st (.bool (decide (0 ≤ Lib.indexByte s c))) st := by
  refine VRet_of_below callable23 (fun w A vs hw ha => ?_)
  obtain ⟨u, v, rfl, h1, h2⟩ := ha.two
  have e1 := h1.str_inv
  have e2 := h2.str_inv
  subst e1; subst e2
  refine (Tryz.strings_Contains_one ⟨s.toArray⟩ c w).mono fun e w' ⟨he, hb⟩ => ?_
  subst he; subst hb
  exact ⟨_, rfl, fun w' A' => .bool _, Below.refl _ _⟩

/-- Where a byte stands first; the length if nowhere. -/
def posB (c : UInt8) (s : List UInt8) : Nat := (s.takeWhile fun b => !(b == c)).length
theorem posB_le {c : UInt8} {s : List UInt8} : posB c s ≤ s.length := (List.takeWhile_sublist _).length_le
theorem posB_cons {c b : UInt8} {s : List UInt8} : posB c (b :: s) = if (b == c) = true then 0 else posB c s + 1 := by
  unfold posB
  by_cases h : (b == c) = true
  · rw [if_pos h, List.takeWhile_cons, if_neg (by simp [h])]; rfl
  · rw [if_neg h, List.takeWhile_cons, if_pos (by simpa using h)]; rfl
theorem index_pos (c : UInt8) : ∀ s : List UInt8, Lib.indexByte s c = if posB c s < s.length then (posB c s : Int) else -1
  | [] => rfl
  | b :: s => by
    have ih := index_pos c s
    rw [Lib.indexByte, posB_cons, List.length_cons]
    by_cases h : (b == c) = true
    · rw [if_pos h, if_pos h, if_pos (by omega)]; rfl
    · rw [if_neg h, if_neg h]
      by_cases hp : posB c s < s.length
      · rw [if_pos hp] at ih
        rw [ih, if_neg (show ¬ ((posB c s : Int) == -1) = true by simp), if_pos (show posB c s + 1 < s.length + 1 by omega)]; omega
      · rw [if_neg hp] at ih
        rw [ih, if_pos (show ((-1 : Int) == -1) = true from rfl), if_neg (show ¬ posB c s + 1 < s.length + 1 by omega)]

def cutW (c : UInt8) (s : List UInt8) : List UInt8 := s.take (posB c s)
def cutR (c : UInt8) (s : List UInt8) : List UInt8 := s.drop (posB c s + 1)
def cutP (c : UInt8) (s : List UInt8) : Bool := decide (posB c s < s.length)
theorem slcut_v (s : List UInt8) (c : UInt8) (st : St) (hs : s.length < 4611686018427387904) : VRet Tryz.prog 83 [.str s, .str [c]] st (.tup [.str (cutW c s), .str (cutR c s), .bool (cutP c s)]) st := by
  refine VCalls_of F83_ok mixed (Nat.le_of_ble_eq_true rfl) (fun hwf => ?_)
  have hi := index_pos c s
  have hle := posB_le (c := c) (s := s)
  by_cases hp : posB c s < s.length
  · rw [if_pos hp] at hi
    have h1 : decide ((0 : Int) ≤ (posB c s : Int)) = true := decide_eq_true (by omega)
    have hw : IntKind.i64.wrap ((posB c s : Int) + (0 + 1)) = (posB c s : Int) + 1 := wrap64 (by omega) (by omega)
    have hP : cutP c s = true := decide_eq_true hp
    have h2 : posB c s + 1 ≤ s.length := hp
    (repeat' first | ((first | refine go rfl rfl ?_ | refine Cl.by_ (by (first | refine index1_v _ _ _)) ?_ | (refine Fk.by_ ?_ ?_ <;> intro hc <;> try simp only [hc]) | refine storeK_eq rfl ?_ | with_reducible refine And.intro ?_ ?_ | fail) <;> try simp only [hi, h1, hw, hle, h2, Nat.zero_le, Nat.le_refl, List.take_length, push_cast, reduceIte, Nat.reduceEqDiff, reduceCtorEq, Nat.reduceAdd, Nat.reduceLeDiff, Nat.reduceBEq]))
    rw [hP]
    all_goals refine finB (hwf) (by simp only [F83, cutW, cutR, push_cast, reduceIte, Nat.reduceEqDiff, reduceCtorEq, Nat.reduceAdd, Nat.reduceLeDiff, Nat.reduceBEq]; exact rfl) (by first | exact .inl rfl | (right; simp only [F83, cutW, cutR, push_cast, reduceIte, Nat.reduceEqDiff, reduceCtorEq, Nat.reduceAdd, Nat.reduceLeDiff, Nat.reduceBEq]; try rfl)) (by first | rfl | assumption) (by simp) (by simp) (by (repeat first | exact (hwf).subm | exact (hwf).suba | refine Sub.drop (by simp) ?_)) (by (repeat first | exact (hwf).subm | exact (hwf).suba | refine Sub.drop (by simp) ?_)) (by (repeat first | exact (hwf).subx | refine ExSub.dropt (by simp) ?_ | refine ExSub.drop (by simp) ?_))
  · rw [if_neg hp] at hi
    have h1 : decide ((0 : Int) ≤ -1) = false := rfl
    have hP : cutP c s = false := decide_eq_false hp
    have e : posB c s = s.length := by omega
    (repeat' first | ((first | refine go rfl rfl ?_ | refine Cl.by_ (by (first | refine index1_v _ _ _)) ?_ | (refine Fk.by_ ?_ ?_ <;> intro hc <;> try simp only [hc]) | refine storeK_eq rfl ?_ | with_reducible refine And.intro ?_ ?_ | fail) <;> try simp only [hi, h1, push_cast, reduceIte, Nat.reduceEqDiff, reduceCtorEq, Nat.reduceAdd, Nat.reduceLeDiff, Nat.reduceBEq]))
    have e1 : cutW c s = s := by unfold cutW; rw [e, List.take_length]
    have e2 : cutR c s = [] := by unfold cutR; exact List.drop_eq_nil_of_le (by omega)
    rw [hP, e1, e2]
    all_goals refine finB (hwf) (by simp only [F83, push_cast, reduceIte, Nat.reduceEqDiff, reduceCtorEq, Nat.reduceAdd, Nat.reduceLeDiff, Nat.reduceBEq]; exact rfl) (by first | exact .inl rfl | (right; simp only [F83, push_cast, reduceIte, Nat.reduceEqDiff, reduceCtorEq, Nat.reduceAdd, Nat.reduceLeDiff, Nat.reduceBEq]; try rfl)) (by first | rfl | assumption) (by simp) (by simp) (by (repeat first | exact (hwf).subm | exact (hwf).suba | refine Sub.drop (by simp) ?_)) (by (repeat first | exact (hwf).subm | exact (hwf).suba | refine Sub.drop (by simp) ?_)) (by (repeat first | exact (hwf).subx | refine ExSub.dropt (by simp) ?_ | refine ExSub.drop (by simp) ?_))
theorem cut_v (s : List UInt8) (c : UInt8) (st : St) (hs : s.length < 4611686018427387904) : VRet Tryz.prog 35 [.str s, .str [c]] st (.tup [.str (cutW c s), .str (cutR c s), .bool (cutP c s)]) st := by
  refine VCalls_of F35_ok mixed (Nat.le_of_ble_eq_true rfl) (fun hwf => ?_)
  (repeat' first | ((first | refine go rfl rfl ?_ | refine Cl.by_ (by (first | refine slcut_v _ _ _ hs)) ?_ | (refine Fk.by_ ?_ ?_ <;> intro hc <;> try simp only [hc]) | refine storeK_eq rfl ?_ | with_reducible refine And.intro ?_ ?_ | fail) <;> try simp only [push_cast, reduceIte, Nat.reduceEqDiff, reduceCtorEq, Nat.reduceAdd, Nat.reduceLeDiff, Nat.reduceBEq]))
  all_goals refine finB (hwf) (by simp only [F35, push_cast, reduceIte, Nat.reduceEqDiff, reduceCtorEq, Nat.reduceAdd, Nat.reduceLeDiff, Nat.reduceBEq]; exact rfl) (by first | exact .inl rfl | (right; simp only [F35, push_cast, reduceIte, Nat.reduceEqDiff, reduceCtorEq, Nat.reduceAdd, Nat.reduceLeDiff, Nat.reduceBEq]; try rfl)) (by first | rfl | assumption) (by simp) (by simp) (by (repeat first | exact (hwf).subm | exact (hwf).suba | refine Sub.drop (by simp) ?_)) (by (repeat first | exact (hwf).subm | exact (hwf).suba | refine Sub.drop (by simp) ?_)) (by (repeat first | exact (hwf).subx | refine ExSub.dropt (by simp) ?_ | refine ExSub.drop (by simp) ?_))

/-! ### strings.Trim of digits -/
def tenS : List UInt8 := [48, 49, 50, 51, 52, 53, 54, 55, 56, 57]
def setV : List V := (List.range 256).map fun n => V.bool (decide (48 ≤ n ∧ n ≤ 57))
theorem setV_get (b : UInt8) : setV[b.toNat]? = some (.bool (digB b)) := by
  unfold setV
  rw [List.getElem?_map, List.getElem?_range b.toNat_lt]
  simp only [Option.map_some, Option.some.injEq, V.bool.injEq, digB, isDig]
  rw [Bool.eq_iff_iff]
  simp only [decide_eq_true_eq, Bool.and_eq_true]
  omega
theorem setV_len : setV.length = 256 := by simp [setV]
theorem u8_all (p : UInt8 → Bool) (h : (List.range 256).all (fun n => p n.toUInt8) = true) (b : UInt8) : p b = true := by
  have := List.all_eq_true.1 h b.toNat (List.mem_range.2 b.toNat_lt)
  have e : b.toNat.toUInt8 = b := by simp
  rwa [e] at this
theorem ten_dig (b : UInt8) : tenS.contains b = digB b := by
  have := u8_all (fun b => tenS.contains b == digB b) (by decide +kernel) b
  simpa using this
theorem makeSet_v (st : St) : VRet Tryz.prog 49 [.str tenS] st (.tup [.agg setV, .bool true]) st := by
  refine VRet_of_below callable49 (fun w A vs hw ha => ?_)
  obtain ⟨u, rfl, h1⟩ := ha.one
  have e1 := h1.str_inv
  subst e1
  refine (Tryz.strings_makeASCIISet Tryz.zeroValue83 ⟨tenS.toArray⟩ w (by decide) (fun j b hj => by
    have := List.all_eq_true.1 (show tenS.all (fun b => decide (b.toNat < 128)) = true from rfl) b (List.mem_of_getElem? hj)
    simpa using this)).mono fun e w' ⟨he, hb⟩ => ?_
  subst he; subst hb
  refine ⟨_, rfl, fun w' A' => ?_, Below.alloc (Below.refl _ _) (Nat.le_refl _) _⟩
  have hcell : ∀ (i : Nat) (v : Value) (c : V), (Lib.setCells tenS).toList[i]? = some v → setV[i]? = some c → Rep w' A' v c ∧ v.oneCell' = true := fun i v c hv hc => by
    have hi : i < 256 := by have := (List.getElem?_eq_some_iff.1 hc).1; rw [setV_len] at this; exact this
    have e2 : i.toUInt8.toNat = i := by simp [Nat.toUInt8, UInt8.toNat_ofNat', Nat.mod_eq_of_lt hi]
    have g1 := Lib.setCells_at tenS i.toUInt8
    have g2 := setV_get i.toUInt8
    rw [e2] at g1 g2
    rw [Array.getElem?_toList, g1] at hv
    rw [g2] at hc
    cases hv; cases hc
    rw [ten_dig]
    exact ⟨.bool _, rfl⟩
  refine .tup [.agg (Lib.setCells tenS), .bool true] [.agg setV, .bool true] rfl (fun i v c h1 h2 => ?_)
  match i, h1, h2 with
  | 0, h1, h2 =>
    simp at h1 h2; subst h1 h2
    have := Rep.agg (w := w') (A := A') (Lib.setCells tenS).toList setV (by rw [Array.length_toList, Lib.setCells_size, setV_len]) (fun v hv => by
      obtain ⟨i, hi⟩ := List.mem_iff_getElem?.1 hv
      have hlt : i < setV.length := by rw [setV_len]; have := (List.getElem?_eq_some_iff.1 hi).1; rw [Array.length_toList, Lib.setCells_size] at this; exact this
      exact (hcell i v setV[i] hi (List.getElem?_eq_getElem hlt)).2) (fun i v c hv hc => (hcell i v c hv hc).1)
    rwa [Array.toArray_toList] at this
  | 1, h1, h2 => simp at h1 h2; subst h1 h2; exact .bool _

theorem has_v (st : St) (id : Nat) (b : UInt8) (h : Sha.look st.mem id = some setV) : VRet Tryz.prog 95 [.ptr id 0, .int .u8 b.toNat] st (.bool (digB b)) st := by
  have hg := setV_get b
  have hl := setV_len
  have hb : b.toNat < 256 := b.toNat_lt
  refine VCalls_of F95_ok mixed (Nat.le_of_ble_eq_true rfl) (fun hwf => ?_)
  have hi : iadraV 256 1 (.ptr id 0) (.int .u8 (b.toNat : Int)) = some (.ptr id b.toNat) := by simp [iadraV, natV, hb]
  (repeat' first | ((first | refine go rfl rfl ?_ | (refine Fk.by_ ?_ ?_ <;> intro hc <;> try simp only [hc]) | refine storeK_eq rfl ?_ | with_reducible refine And.intro ?_ ?_ | fail) <;> try simp only [h, hg, hl, hb, hi, push_cast, reduceIte, Nat.reduceEqDiff, reduceCtorEq, Nat.reduceAdd, Nat.reduceLeDiff, Nat.reduceBEq]))
  all_goals refine finB (hwf) (by simp only [F95, push_cast, reduceIte, Nat.reduceEqDiff, reduceCtorEq, Nat.reduceAdd, Nat.reduceLeDiff, Nat.reduceBEq]; exact rfl) (by first | exact .inl rfl | (right; simp only [F95, push_cast, reduceIte, Nat.reduceEqDiff, reduceCtorEq, Nat.reduceAdd, Nat.reduceLeDiff, Nat.reduceBEq]; try rfl)) (by first | rfl | assumption) (by simp) (by simp) (by (repeat first | exact (hwf).subm | exact (hwf).suba | refine Sub.drop (by simp) ?_)) (by (repeat first | exact (hwf).subm | exact (hwf).suba | refine Sub.drop (by simp) ?_)) (by (repeat first | exact (hwf).subx | refine ExSub.dropt (by simp) ?_ | refine ExSub.drop (by simp) ?_))

/-- Without the digits at its beginning; at its end. -/
def trL (s : List UInt8) : List UInt8 := s.dropWhile digB
def trR (s : List UInt8) : List UInt8 := (s.reverse.dropWhile digB).reverse
theorem trimL_v (st : St) (id : Nat) (s : List UInt8) (h : Sha.look st.mem id = some setV) (hs : s.length < 4611686018427387904) : VRet Tryz.prog 85 [.str s, .ptr id 0] st (.str (trL s)) st := by
  refine VCalls_of F85_ok mixed (Nat.le_of_ble_eq_true rfl) (fun hwf => ?_)
  have hid := (hwf.mem _ _ h).1
  (repeat' first | ((first | refine go rfl rfl ?_ | (refine Fk.by_ ?_ ?_ <;> intro hc <;> try simp only [hc]) | refine storeK_eq rfl ?_ | with_reducible refine And.intro ?_ ?_ | fail) <;> try simp only [push_cast, reduceIte, Nat.reduceEqDiff, reduceCtorEq, Nat.reduceAdd, Nat.reduceLeDiff, Nat.reduceBEq]))
  refine WT_loop rfl (fun n e z => ∃ t : List UInt8, n = t.length ∧ t.length ≤ s.length ∧ trL t = trL s ∧ e = [(0, .str t), (1, .ptr id 0), (4, .str [])] ∧ st = z) st.nx (Nat.le_refl _) (by rintro _ _ _ ⟨j, _, _, _, _, rfl⟩; rfl)
    ⟨_, _, _, ⟨s, rfl, Nat.le_refl _, rfl, rfl, rfl⟩, (by repeat first | exact .nil | refine .cons (by first | rfl | (simp [V.bd, V.bdL]; try first | omega | assumption)) (by first | rfl | simp only [push_cast, reduceIte, Nat.reduceEqDiff, reduceCtorEq, Nat.reduceAdd, Nat.reduceLeDiff, Nat.reduceBEq]) ?_), .refl hwf⟩ ?_
  rintro n e z ⟨t, rfl, hl, ht, rfl, rfl⟩
  cases t with
  | nil =>
    have h1 : decide ((0 : Int) < 0) = false := rfl
    (repeat' first | ((first | refine go rfl rfl ?_ | (refine Fk.by_ ?_ ?_ <;> intro hc <;> try simp only [hc]) | refine storeK_eq rfl ?_ | with_reducible refine And.intro ?_ ?_ | fail) <;> try simp only [h1, push_cast, reduceIte, Nat.reduceEqDiff, reduceCtorEq, Nat.reduceAdd, Nat.reduceLeDiff, Nat.reduceBEq]))
    all_goals exact finRet0 hwf rfl (by rw [← ht]; rfl) rfl
  | cons b t =>
    have h1 : decide ((0 : Int) < (t.length : Int) + 1) = true := decide_eq_true (by omega)
    have h2 : t.length + 1 ≤ t.length + 1 := Nat.le_refl _
    cases hb : digB b with
    | true =>
      have h3 : ∀ st', st' = st → VRet Tryz.prog 95 [.ptr id 0, .int .u8 b.toNat] st' (.bool true) st' := fun st' e => by subst e; have := has_v _ id b h; rwa [hb] at this
      (repeat' first | ((first | refine go rfl rfl ?_ | refine Cl.by_ (by (first | refine h3 _ rfl)) ?_ | (refine Fk.by_ ?_ ?_ <;> intro hc <;> try simp only [hc]) | refine storeK_eq rfl ?_ | with_reducible refine And.intro ?_ ?_ | fail) <;> try simp only [h1, h2, List.take_length, push_cast, reduceIte, Nat.reduceEqDiff, reduceCtorEq, Nat.reduceAdd, Nat.reduceLeDiff, Nat.reduceBEq]))
      exact ⟨_, _, _, Nat.lt_succ_self _, ⟨t, rfl, by simp at hl; omega, by rw [← ht]; simp [trL, hb], rfl, rfl⟩, (by repeat first | exact .nil | refine .cons (by first | rfl | (simp [V.bd, V.bdL]; try first | omega | assumption)) (by first | rfl | simp only [push_cast, reduceIte, Nat.reduceEqDiff, reduceCtorEq, Nat.reduceAdd, Nat.reduceLeDiff, Nat.reduceBEq]) ?_), .refl hwf⟩
    | false =>
      have h3 : ∀ st', st' = st → VRet Tryz.prog 95 [.ptr id 0, .int .u8 b.toNat] st' (.bool false) st' := fun st' e => by subst e; have := has_v _ id b h; rwa [hb] at this
      (repeat' first | ((first | refine go rfl rfl ?_ | refine Cl.by_ (by (first | refine h3 _ rfl)) ?_ | (refine Fk.by_ ?_ ?_ <;> intro hc <;> try simp only [hc]) | refine storeK_eq rfl ?_ | with_reducible refine And.intro ?_ ?_ | fail) <;> try simp only [h1, h2, push_cast, reduceIte, Nat.reduceEqDiff, reduceCtorEq, Nat.reduceAdd, Nat.reduceLeDiff, Nat.reduceBEq]))
      all_goals exact finRet0 hwf rfl (by rw [← ht]; simp [trL, resOne, hb]) rfl

theorem trimR_v (st : St) (id : Nat) (s : List UInt8) (h : Sha.look st.mem id = some setV) (hs : s.length < 4611686018427387904) : VRet Tryz.prog 50 [.str s, .ptr id 0] st (.str (trR s)) st := by
  refine VCalls_of F50_ok mixed (Nat.le_of_ble_eq_true rfl) (fun hwf => ?_)
  have hid := (hwf.mem _ _ h).1
  (repeat' first | ((first | refine go rfl rfl ?_ | (refine Fk.by_ ?_ ?_ <;> intro hc <;> try simp only [hc]) | refine storeK_eq rfl ?_ | with_reducible refine And.intro ?_ ?_ | fail) <;> try simp only [push_cast, reduceIte, Nat.reduceEqDiff, reduceCtorEq, Nat.reduceAdd, Nat.reduceLeDiff, Nat.reduceBEq]))
  refine WT_loop rfl (fun n e z => ∃ t : List UInt8, n = t.length ∧ t.length ≤ s.length ∧ trR t = trR s ∧ e = [(0, .str t), (1, .ptr id 0), (4, .str [])] ∧ st = z) st.nx (Nat.le_refl _) (by rintro _ _ _ ⟨j, _, _, _, _, rfl⟩; rfl)
    ⟨_, _, _, ⟨s, rfl, Nat.le_refl _, rfl, rfl, rfl⟩, (by repeat first | exact .nil | refine .cons (by first | rfl | (simp [V.bd, V.bdL]; try first | omega | assumption)) (by first | rfl | simp only [push_cast, reduceIte, Nat.reduceEqDiff, reduceCtorEq, Nat.reduceAdd, Nat.reduceLeDiff, Nat.reduceBEq]) ?_), .refl hwf⟩ ?_
  rintro n e z ⟨t, rfl, hl, ht, rfl, rfl⟩
  rcases List.eq_nil_or_concat t with rfl | ⟨t', b, rfl⟩
  · have h1 : decide ((0 : Int) < 0) = false := rfl
    (repeat' first | ((first | refine go rfl rfl ?_ | (refine Fk.by_ ?_ ?_ <;> intro hc <;> try simp only [hc]) | refine storeK_eq rfl ?_ | with_reducible refine And.intro ?_ ?_ | fail) <;> try simp only [h1, push_cast, reduceIte, Nat.reduceEqDiff, reduceCtorEq, Nat.reduceAdd, Nat.reduceLeDiff, Nat.reduceBEq]))
    all_goals exact finRet0 hwf rfl (by rw [← ht]; rfl) rfl
  · have hlen : (t'.concat b).length = t'.length + 1 := by simp
    have h1 : decide ((0 : Int) < (t'.length : Int) + 1) = true := decide_eq_true (by omega)
    have hw : IntKind.i64.wrap ((t'.length : Int) + 1 - 1) = (t'.length : Int) := by rw [wrap64 (by omega) (by omega)]; omega
    have hg : (t'.concat b)[t'.length]? = some b := by simp
    have h2 : t'.length ≤ t'.length + 1 := Nat.le_succ _
    have htk : (t'.concat b).take t'.length = t' := by simp
    cases hb : digB b with
    | true =>
      have h3 : ∀ st', st' = st → VRet Tryz.prog 95 [.ptr id 0, .int .u8 b.toNat] st' (.bool true) st' := fun st' e => by subst e; have := has_v _ id b h; rwa [hb] at this
      (repeat' first | ((first | refine go rfl rfl ?_ | refine Cl.by_ (by (first | refine h3 _ rfl)) ?_ | (refine Fk.by_ ?_ ?_ <;> intro hc <;> try simp only [hc]) | refine storeK_eq rfl ?_ | with_reducible refine And.intro ?_ ?_ | fail) <;> try simp only [h1, hw, hg, h2, hlen, htk, Nat.zero_le, push_cast, reduceIte, Nat.reduceEqDiff, reduceCtorEq, Nat.reduceAdd, Nat.reduceLeDiff, Nat.reduceBEq]))
      exact ⟨_, _, _, Nat.lt_succ_self _, ⟨t', rfl, by omega, by rw [← ht]; simp [trR, hb], rfl, rfl⟩, (by repeat first | exact .nil | refine .cons (by first | rfl | (simp [V.bd, V.bdL]; try first | omega | assumption)) (by first | rfl | simp only [push_cast, reduceIte, Nat.reduceEqDiff, reduceCtorEq, Nat.reduceAdd, Nat.reduceLeDiff, Nat.reduceBEq]) ?_), .refl hwf⟩
    | false =>
      have h3 : ∀ st', st' = st → VRet Tryz.prog 95 [.ptr id 0, .int .u8 b.toNat] st' (.bool false) st' := fun st' e => by subst e; have := has_v _ id b h; rwa [hb] at this
      (repeat' first | ((first | refine go rfl rfl ?_ | refine Cl.by_ (by (first | refine h3 _ rfl)) ?_ | (refine Fk.by_ ?_ ?_ <;> intro hc <;> try simp only [hc]) | refine storeK_eq rfl ?_ | with_reducible refine And.intro ?_ ?_ | fail) <;> try simp only [h1, hw, hg, h2, hlen, htk, push_cast, reduceIte, Nat.reduceEqDiff, reduceCtorEq, Nat.reduceAdd, Nat.reduceLeDiff, Nat.reduceBEq]))
      all_goals exact finRet0 hwf rfl (by rw [← ht]; simp [trR, resOne, hb]) rfl

theorem trim_all (s : List UInt8) : (trL (trR s) == []) = s.all digB := by
  have h1 : ∀ l : List UInt8, l.dropWhile digB = [] ↔ l.all digB = true := fun l => by
    induction l with
    | nil => simp
    | cons b l ih => cases hb : digB b <;> simp [List.dropWhile_cons, hb, ih]
  rw [Bool.eq_iff_iff, beq_iff_eq]
  unfold trL
  rw [h1]
  unfold trR
  rw [List.all_reverse]
  constructor
  · intro h
    cases hd' : s.reverse.dropWhile digB with
    | nil => have := (h1 _).1 hd'; rwa [List.all_reverse] at this
    | cons b l =>
      exfalso
      have hb := List.head_dropWhile_not digB (l := s.reverse) (by rw [hd']; simp)
      simp only [hd', List.head_cons] at hb
      rw [hd'] at h
      simp [hb] at h
  · intro h
    have : s.reverse.dropWhile digB = [] := (h1 _).2 (by rw [List.all_reverse]; exact h)
    rw [this]; rfl

theorem trimD_v (s : List UInt8) (st : St) (hs : s.length < 4611686018427387904) : VRet Tryz.prog 37 [.str s, .str tenS] st (.str (trL (trR s))) st := by
  refine VCalls_of F37_ok mixed (Nat.le_of_ble_eq_true rfl) (fun hwf => ?_)
  have hlr : (trR s).length < 4611686018427387904 := by
    have : (trR s).length ≤ s.length := by unfold trR; rw [List.length_reverse]; have := (List.dropWhile_sublist digB (l := s.reverse)).length_le; simpa using this
    omega
  have h10 : (tenS.length : Int) = 10 := rfl
  cases s with
  | nil =>
    (repeat' first | ((first | refine go rfl rfl ?_ | (refine Fk.by_ ?_ ?_ <;> intro hc <;> try simp only [hc]) | refine storeK_eq rfl ?_ | with_reducible refine And.intro ?_ ?_ | fail) <;> try simp only [tenS, push_cast, reduceIte, Nat.reduceEqDiff, reduceCtorEq, Nat.reduceAdd, Nat.reduceLeDiff, Nat.reduceBEq]))
    all_goals exact finRet0 hwf rfl rfl rfl
  | cons b s =>
    (repeat' first | ((first | refine go rfl rfl ?_ | refine Cl.by_ (by (first | refine makeSet_v _ | refine trimR_v _ _ _ (by simp [Sha.look]) hs | refine trimL_v _ _ _ (by simp [Sha.look]) hlr)) ?_ | (refine Fk.by_ ?_ ?_ <;> intro hc <;> try simp only [hc]) | refine storeK_eq rfl ?_ | with_reducible refine And.intro ?_ ?_ | fail) <;> try simp only [push_cast, reduceIte, Nat.reduceEqDiff, reduceCtorEq, Nat.reduceAdd, Nat.reduceLeDiff, Nat.reduceBEq]))
    all_goals refine finB (hwf) (by simp only [F37, push_cast, reduceIte, Nat.reduceEqDiff, reduceCtorEq, Nat.reduceAdd, Nat.reduceLeDiff, Nat.reduceBEq]; exact rfl) (by first | exact .inl rfl | (right; simp only [F37, push_cast, reduceIte, Nat.reduceEqDiff, reduceCtorEq, Nat.reduceAdd, Nat.reduceLeDiff, Nat.reduceBEq]; try rfl)) (by first | rfl | assumption) (by simp) (by simp) (by (repeat first | exact (hwf).subm | exact (hwf).suba | refine Sub.drop (by simp) ?_)) (by (repeat first | exact (hwf).subm | exact (hwf).suba | refine Sub.drop (by simp) ?_)) (by (repeat first | exact (hwf).subx | refine ExSub.dropt (by simp) ?_ | refine ExSub.drop (by simp) ?_))

/-! ### digits, value -/
def digsB (s : List UInt8) : Bool := s != [] && s.all digB && (s.length == 1 || s[0]? != some 48)
theorem digits_v (s : List UInt8) (st : St) (hs : s.length < 4611686018427387904) : VRet Tryz.prog 36 [.str s] st (.bool (digsB s)) st := by
  refine VCalls_of F36_ok mixed (Nat.le_of_ble_eq_true rfl) (fun hwf => ?_)
  have ht := trim_all s
  cases s with
  | nil =>
    (repeat' first | ((first | refine go rfl rfl ?_ | (refine Fk.by_ ?_ ?_ <;> intro hc <;> try simp only [hc]) | refine storeK_eq rfl ?_ | with_reducible refine And.intro ?_ ?_ | fail) <;> try simp only [push_cast, reduceIte, Nat.reduceEqDiff, reduceCtorEq, Nat.reduceAdd, Nat.reduceLeDiff, Nat.reduceBEq]))
    all_goals exact finRet0 hwf rfl rfl rfl
  | cons b s =>
    have h0 : (b :: s != []) = true := rfl
    have h1 : (((s.length : Int) + 1 == 1)) = ((b :: s).length == 1) := by
      rw [Bool.eq_iff_iff]; simp only [beq_iff_eq, List.length_cons]; omega
    have h2 : (((b.toNat : Int)) != 48) = ((b :: s)[0]? != some 48) := by
      rw [Bool.eq_iff_iff]; simp only [bne_iff_ne, ne_eq, List.getElem?_cons_zero, Option.some.injEq]
      constructor
      · rintro h rfl; exact h rfl
      · intro h e; exact h (UInt8.toNat_inj.1 (by have : (48 : UInt8).toNat = 48 := rfl; omega))
    have hR : digsB (b :: s) = ((digB b && s.all digB) && (((s.length : Int) + 1 == 1) || (((b.toNat : Int)) != 48))) := by rw [h1, h2]; rfl
    (repeat' first | ((first | refine go rfl rfl ?_ | refine Cl.by_ (by (first | refine trimD_v _ _ hs)) ?_ | (refine Fk.by_ ?_ ?_ <;> intro hc <;> try simp only [hc]) | refine storeK_eq rfl ?_ | with_reducible refine And.intro ?_ ?_ | fail) <;> try simp only [h0, ht, push_cast, reduceIte, Nat.reduceEqDiff, reduceCtorEq, Nat.reduceAdd, Nat.reduceLeDiff, Nat.reduceBEq]))
    all_goals exact finRet0 hwf rfl (by rw [hR]; clear h1 h2 hR ht h0; simp [resOne, *]) rfl

/-- The number that digits spell. -/
def numD (s : List UInt8) : Nat := s.foldl (fun n b => 10 * n + (b.toNat - 48)) 0
theorem parse_digs : ∀ (s : List UInt8) (acc : Nat), s.all digB = true → acc < 18446744073709551616 → Lib.parseUint10 acc s = if s.foldl (fun n b => 10 * n + (b.toNat - 48)) acc < 18446744073709551616 then .ok (s.foldl (fun n b => 10 * n + (b.toNat - 48)) acc) else .range
  | [], acc, _, h => by simp [Lib.parseUint10, h]
  | b :: s, acc, h, ha => by
    have mono : ∀ (s : List UInt8) (n : Nat), n ≤ s.foldl (fun n b => 10 * n + (b.toNat - 48)) n := by
      intro s
      induction s with
      | nil => intro n; exact Nat.le_refl _
      | cons c s ih => intro n; rw [List.foldl_cons]; refine Nat.le_trans ?_ (ih _); omega
    simp only [List.all_cons, Bool.and_eq_true] at h
    obtain ⟨hb, hs⟩ := h
    have hb' : 48 ≤ b.toNat ∧ b.toNat ≤ 57 := by
      simp only [digB, isDig, Bool.and_eq_true, decide_eq_true_eq] at hb; omega
    rw [Lib.parseUint10, if_pos hb', List.foldl_cons]
    have hm := mono s (10 * acc + (b.toNat - 48))
    by_cases h1 : 1844674407370955162 ≤ acc
    · rw [if_pos h1, if_neg (by omega)]
    · rw [if_neg h1]
      by_cases h2 : 18446744073709551616 ≤ acc * 10 + (b.toNat - 48)
      · rw [if_pos h2, if_neg (by omega)]
      · rw [if_neg h2, parse_digs s _ hs (by omega), Nat.mul_comm]
theorem atoi_digs {s : List UInt8} (h0 : s ≠ []) (h : s.all digB = true) : Lib.atoiAll s = if numD s < 9223372036854775808 then .ok (numD s : Int) else .range := by
  cases s with
  | nil => exact absurd rfl h0
  | cons b s =>
    have hb : digB b = true := by simp only [List.all_cons, Bool.and_eq_true] at h; exact h.1
    have hb' : 48 ≤ b.toNat ∧ b.toNat ≤ 57 := by
      simp only [digB, isDig, Bool.and_eq_true, decide_eq_true_eq] at hb; omega
    rw [Lib.atoiAll_plain b s (by omega) (by omega), Lib.parseMag, if_neg (by simp), parse_digs (b :: s) 0 h (by omega)]
    show Lib.signless (if numD (b :: s) < 18446744073709551616 then .ok (numD (b :: s)) else .range) = _
    by_cases h1 : numD (b :: s) < 18446744073709551616
    · rw [if_pos h1]
      unfold Lib.signless
      by_cases h2 : numD (b :: s) < 9223372036854775808
      · rw [if_pos h2]; simp only; rw [if_neg (by omega)]
      · rw [if_neg h2]; simp only; rw [if_pos (by omega)]
    · rw [if_neg h1, if_neg (by omega)]; rfl

def capV (n : Nat) : Nat := min n 1099511627776
theorem callable87 : Callable Tryz.prog 87 := ⟨_, Tryz.func87, by kernel_rfl, by kernel_rfl⟩
theorem atoi_ok_v (s : List UInt8) (st : St) (hs : s.length < 140737488355328) (h0 : s ≠ []) (h : s.all digB = true) (hn : numD s < 9223372036854775808) : VRet Tryz.prog 87 [.str s] st (.tup [.int .i64 (numD s), .nili]) st := by
  refine VRet_of_below callable87 (fun w A vs hw ha => ?_)
  obtain ⟨u, rfl, h1⟩ := ha.one
  have e1 := h1.str_inv
  subst e1
  have hat := atoi_digs h0 h
  rw [if_pos hn] at hat
  refine (Tryz.strconv_Atoi_ok ⟨s.toArray⟩ (by simp [ByteArray.size]; omega) (numD s : Int) (by simpa using hat) w).mono fun e w' ⟨he, hb⟩ => ?_
  subst he
  refine ⟨_, rfl, fun w' A' => ?_, ?_⟩
  · refine .tup [.int .i64 (numD s), .nilIface] [.int .i64 (numD s), .nili] rfl (fun i v c h1 h2 => ?_)
    match i, h1, h2 with
    | 0, h1, h2 => simp at h1 h2; subst h1 h2; exact .int _ _
    | 1, h1, h2 => simp at h1 h2; subst h1 h2; exact .nili
  · rcases hb with rfl | ⟨t, rfl⟩
    · exact Below.refl _ _
    · exact Lib.bytesWorld_below w 5 t
theorem atoi_range_v (s : List UInt8) (st : St) (hg : GlOk st.x.gl) (hs : s.length < 140737488355328) (h0 : s ≠ []) (h : s.all digB = true) (hn : ¬ numD s < 9223372036854775808) : VRet Tryz.prog 87 [.str s] st (.tup [.und, .iface 189 .und]) st := by
  refine .inl ⟨callable87, fun w A vs hw ha => ?_⟩
  obtain ⟨u, rfl, h1⟩ := ha.one
  have e1 := h1.str_inv
  subst e1
  have hat := atoi_digs h0 h
  rw [if_neg hn] at hat
  obtain ⟨cs, T, fz, ev, g1, g2, g3⟩ := hg.err
  have hcell : w.cell? ⟨8, 0, none⟩ = some ev := by
    unfold World.cell?
    rw [(hw.x.gl _ g1).1]
    simpa using g2
  refine (Tryz.strconv_Atoi_range ⟨s.toArray⟩ (by simp [ByteArray.size]; omega) (by simpa using hat) ev w hcell g3).mono fun e w' ⟨N, he, _, _, hb⟩ => ?_
  subst he
  refine ⟨.ret (.tup [.und, .iface 189 .und]), A, st, ⟨rfl, rfl⟩, ?_, hw.below hb, Ext.below hw hb⟩
  refine .tup [_, _] [.und, .iface 189 .und] rfl (fun i v c h1 h2 => ?_)
  match i, h1, h2 with
  | 0, h1, h2 => simp at h1 h2; subst h1 h2; exact .und _
  | 1, h1, h2 => simp at h1 h2; subst h1 h2; exact .iface _ _ _ (.und _)

theorem value_v (s : List UInt8) (st : St) (hg : GlOk st.x.gl) (hs : s.length < 140737488355328) (h0 : s ≠ []) (h : s.all digB = true) : VRet Tryz.prog 38 [.str s] st (.int .i64 (capV (numD s))) st := by
  refine VCalls_of F38_ok mixed (Nat.le_of_ble_eq_true rfl) (fun hwf => ?_)
  by_cases hn : numD s < 9223372036854775808
  · (repeat' first | ((first | refine go rfl rfl ?_ | refine Cl.by_ (by (first | refine atoi_ok_v _ _ hs h0 h hn)) ?_ | (refine Fk.by_ ?_ ?_ <;> intro hc <;> try simp only [hc]) | refine storeK_eq rfl ?_ | with_reducible refine And.intro ?_ ?_ | fail) <;> try simp only [push_cast, reduceIte, Nat.reduceEqDiff, reduceCtorEq, Nat.reduceAdd, Nat.reduceLeDiff, Nat.reduceBEq]))
    all_goals exact finRet0 hwf rfl (by simp only [resOne, capV]; congr 1; split <;> omega) rfl
  · (repeat' first | ((first | refine go rfl rfl ?_ | refine Cl.by_ (by (first | refine atoi_range_v _ _ hg hs h0 h hn)) ?_ | (refine Fk.by_ ?_ ?_ <;> intro hc <;> try simp only [hc]) | refine storeK_eq rfl ?_ | with_reducible refine And.intro ?_ ?_ | fail) <;> try simp only [push_cast, reduceIte, Nat.reduceEqDiff, reduceCtorEq, Nat.reduceAdd, Nat.reduceLeDiff, Nat.reduceBEq]))
    all_goals exact finRet0 hwf rfl (by simp only [resOne, capV]; congr 1; omega) rfl
end Go.Proofs.YtnondemehfkalaaGreatDoor

set_option maxRecDepth 10000
namespace Go.Proofs.YtnondemehfkalaaGreatDoor
open Go.Sha

/-! ### words and numbers -/
abbrev namesB : List (List UInt8) := [[105, 110, 116, 101, 110, 115, 105, 116, 121], [112, 97, 110], [116, 105, 108, 116], [114, 101, 100], [103, 114, 101, 101, 110], [98, 108, 117, 101], [119, 104, 105, 116, 101], [97, 109, 98, 101, 114], [99, 121, 97, 110], [109, 97, 103, 101, 110, 116, 97], [121, 101, 108, 108, 111, 119], [103, 111, 98, 111], [115, 104, 117, 116, 116, 101, 114], [122, 111, 111, 109], [102, 111, 99, 117, 115]]
def idxB (w : List UInt8) : List (List UInt8) → Nat
  | [] => 0
  | x :: r => if (x == w) = true then 0 else idxB w r + 1
def attrN (w : List UInt8) : Int × Int :=
  if idxB w namesB < 15 then ((idxB w namesB : Int), 0) else if (w == [112, 111, 115, 105, 116, 105, 111, 110]) = true then (16, 0) else if (w == [99, 111, 108, 111, 117, 114]) = true then (17, 0) else if (w == [98, 101, 97, 109]) = true then (18, 0) else (0, 8)
def msS (s : List UInt8) : Int := 1000 * (capV (numD (cutW 46 s)) : Int) + (capV (numD (49 :: (cutR 46 s ++ [48, 48, 48]).take 3)) : Int) - 1000
def secBad (s : List UInt8) : Bool := !(digsB (cutW 46 s)) || (cutP 46 s && (cutR 46 s == [] || decide (3 < ((cutR 46 s).length : Int)) || !((cutR 46 s).all digB)))
def secN (s : List UInt8) : Int × Int := if secBad s = true then (0, 3) else if decide (10000000 < msS s) = true then (0, 2) else (msS s, 0)
def dig3 (s : List UInt8) : Bool := decide (1 ≤ s.length) && decide (s.length ≤ 3) && s.all digB
def thouN (s : List UInt8) : Option Nat := if (!(dig3 (cutW 46 s)) || (decide (1 < (cutW 46 s).length) && (cutW 46 s)[0]? == some 48) || (cutP 46 s && !(dig3 (cutR 46 s)))) = true then none else some (numD (cutW 46 s ++ (cutR 46 s ++ [48, 48, 48]).take 3))
def ofN (n : Nat) : Nat := (65535 * n + 50000) / 100000
def pctN (s : List UInt8) : Int × Int := if (s == [102, 117, 108, 108]) = true then (65535, 0) else match thouN s with
  | none => (0, 3)
  | some n => if decide (100000 < (n : Int)) = true then (0, 2) else ((ofN n : Int), 0)
def digs1 (s : List UInt8) : Bool := s != [] && s.all digB
def chkBad (s : List UInt8) : Bool := !(digs1 (cutW 46 s)) || (cutP 46 s && (!(digs1 (cutR 46 s)) || (cutR 46 s).getLast? == some 48)) || ((cutW 46 s).length != 1 && (cutW 46 s)[0]? == some 48)
def chkN (s : List UInt8) : Int := if chkBad s = true then 3 else if (s == [48] || decide (4 < (cutW 46 s).length) || decide (3 < (cutR 46 s).length)) = true then 2 else 0

/-! ### commands -/
structure Sel where
  op : Int
  g : Int
  f : Int
  t : Int
  deriving DecidableEq
structure Fix where
  ch : Int
  pt : Int
  pf : List UInt8
  un : Int
  ad : Int
  ph : Int
  deriving DecidableEq
structure Cmd where
  kind : Int
  verb : List UInt8
  obj : List UInt8
  num : List UInt8
  list : Int
  sel : Option (List Sel)
  attr : Int
  lev : Int
  pal : Int
  time : Int
  fl : Int
  pl : Fix
  deriving DecidableEq
def selV (x : Sel) : V := .agg [.int .i64 x.op, .int .i64 x.g, .int .i64 x.f, .int .i64 x.t]
def fixV (x : Fix) : V := .agg [.int .i64 x.ch, .int .i64 x.pt, .str x.pf, .int .i64 x.un, .int .i64 x.ad, .int .i64 x.ph, .str []]
def fix0 : Fix := ⟨0, 0, [], 0, 0, 0⟩
def cmd0 : Cmd := ⟨0, [], [], [], 0, none, 0, 0, 0, 0, 0, fix0⟩
def selsV (l : List Sel) : V := .sl (l.map selV)
def selO : Option (List Sel) → V
  | none => .nils
  | some l => selsV l
def cmdL (c : Cmd) : List V := [.int .i64 c.kind, .str c.verb, .str c.obj, .str c.num, .int .i64 c.list, selO c.sel, .int .i64 c.attr, .int .i64 c.lev, .int .i64 c.pal, .int .i64 c.time, .int .i64 c.fl, .int .i64 c.pl.ch, .int .i64 c.pl.pt, .str c.pl.pf, .int .i64 c.pl.un, .int .i64 c.pl.ad, .int .i64 c.pl.ph, .str [], .nils]
def cmdV (c : Cmd) : V := .agg (cmdL c)

/-! ### readings -/
def rInt (most : Int) : Rd Int := rNext rNumber fun s ts => if (!(digsB s)) = true then .error ((hd ts).a, 4) else if (decide ((capV (numD s) : Int) < 1) || decide (most < (capV (numD s) : Int))) = true then .error ((hd ts).a, 2) else .ok ((capV (numD s) : Int), ts.tail)
def rCue : Rd (List UInt8) := rNext rNumber fun s => rNext (rMust (chkN s)) fun _ ts => .ok ((hd ts).t, ts.tail)
def rLevel : Rd Int := fun ts => (rNext (if hdIs 0 [102, 117, 108, 108] ts = true then rOk (hd ts).t else rNumber) fun s => rNext (rMust (pctN s).2) fun _ ts => .ok ((pctN s).1, ts.tail)) ts
def rTime : Rd Int := rNext (rWord [[116, 105, 109, 101]]) fun w => if (w == []) = true then rOk (-1) else rNext rNumber fun s => rNext (rMust (secN s).2) fun _ ts => .ok ((secN s).1, ts.tail)
def rUnit : Rd Fix := rNext rNumber fun s ts =>
  let rest := if cutP 46 s = true then cutR 46 s else [49]
  if (!(digsB (cutW 46 s)) || !(digsB rest)) = true then .error ((hd ts).a, 4) else
  if (decide ((capV (numD (cutW 46 s)) : Int) < 1) || decide (999 < (capV (numD (cutW 46 s)) : Int)) || decide ((capV (numD rest) : Int) < 1) || decide (64 < (capV (numD rest) : Int))) = true then .error ((hd ts).a, 2) else .ok (⟨capV (numD (cutW 46 s)), capV (numD rest), [], 0, 0, 0⟩, ts.tail)
noncomputable def rProfile : Rd (List UInt8) := fun ts => if ((hd ts).k != 0) = true then .error ((hd ts).a, 4) else if (wordN (hd ts).t == 8) = true then .error ((hd ts).a, 4) else if (wordN (hd ts).t == 13) = true then .error ((hd ts).a, 8) else .ok ((hd ts).t, ts.tail)
def rTerm (op : Int) : Rd Sel := rNext (rWord [[103, 114, 111, 117, 112]]) fun w => if (w != []) = true then rNext (rInt 1048576) fun n => rOk ⟨op, n, 0, 0⟩ else
  rNext (rInt 999) fun a => rNext (rWord [[116, 104, 114, 117]]) fun w ts => if (w != []) = true then (rNext (rInt 999) fun b ts' => if decide (b < a) = true then .error ((hd ts).a, 9) else .ok (⟨op, 0, a, b⟩, ts')) ts else .ok (⟨op, 0, a, a⟩, ts)
def rMore (acc : List Sel) : Nat → Rd (List Sel)
  | 0 => rOk acc
  | n + 1 => rNext (rSign [43]) fun p => if p = true then rNext (rTerm 0) fun x => rMore (acc ++ [x]) n else rNext (rSign [45]) fun m => if m = true then rNext (rTerm 1) fun x => rMore (acc ++ [x]) n else rOk acc
def rSelection : Rd (List Sel) := rNext (rTerm 0) fun x ts => rMore [x] ts.length ts
def rKind (none : Int) : Rd Int := fun ts => if ((hd ts).k != 0) = true then .ok (none, ts) else if ((attrN (hd ts).t).2 != 0) = true then .ok (none, ts) else .ok ((attrN (hd ts).t).1, ts.tail)
def rPl : Rd (Int × List UInt8) := rNext (rInt 1048576) fun n => rNext rSlash fun _ => rNext rCue fun q => rOk (n, q)
def rPlace (c : Cmd) : Rd Cmd := rNext rPl fun nq => rOk { c with list := nq.1, num := nq.2 }
def rSet : Rd Cmd := rNext rSelection fun l => rNext (rKind 0) fun a => rNext (rNeed [[97, 116]]) fun _ => rNext (rWord [[112, 97, 108, 101, 116, 116, 101], [104, 111, 109, 101]]) fun w =>
  let c : Cmd := { cmd0 with kind := 0, verb := [97, 116], sel := some l, attr := a }
  if (w == [112, 97, 108, 101, 116, 116, 101]) = true then rNext (rInt 1048576) fun n => rNext rTime fun t => rOk { c with pal := n, time := t }
  else if (w == [104, 111, 109, 101]) = true then rNext rTime fun t => rOk { c with pal := -1, time := t }
  else fun ts => if decide (15 ≤ a) = true then .error ((hd ts).a, 4) else (rNext rLevel fun v => rNext rTime fun t => rOk { c with lev := v, time := t }) ts
def rClear : Rd Cmd := fun ts => if ((hd ts).k != 3) = true then (rNext rSelection fun l => rNext (rKind (-1)) fun a => rOk { cmd0 with kind := 1, verb := [99, 108, 101, 97, 114], sel := some l, attr := a }) ts else .ok ({ cmd0 with kind := 1, verb := [99, 108, 101, 97, 114], attr := -1 }, ts)
def rRecord : Rd Cmd := rNext (rNeed [[99, 117, 101], [112, 97, 108, 101, 116, 116, 101], [115, 117, 98], [103, 114, 111, 117, 112]]) fun w =>
  let c : Cmd := { cmd0 with kind := 2, verb := [114, 101, 99, 111, 114, 100], obj := w }
  if (w != [99, 117, 101]) = true then rNext (rInt 1048576) fun n => if (w == [103, 114, 111, 117, 112]) = true then rNext rSelection fun l => rOk { c with list := n, sel := some l } else rOk { c with list := n }
  else rNext (rPlace c) fun c => rNext (rWord [[111, 110, 108, 121]]) fun o => rNext (rWord [[112, 97, 114, 116]]) fun p => rNext (if (p != []) = true then rInt 4 else rOk 1) fun v => rNext rTime fun t => rOk { c with fl := if (o != []) = true then 1 else 0, lev := v, time := t }
def rUpdate : Rd Cmd := rNext (rNeed [[99, 117, 101]]) fun w => rPlace { cmd0 with kind := 3, verb := [117, 112, 100, 97, 116, 101], obj := w }
def rRemove : Rd Cmd := rNext (rNeed [[99, 117, 101], [112, 97, 108, 101, 116, 116, 101], [103, 114, 111, 117, 112], [115, 117, 98], [101, 102, 102, 101, 99, 116], [102, 105, 120, 116, 117, 114, 101]]) fun w =>
  let c : Cmd := { cmd0 with kind := 4, verb := [100, 101, 108, 101, 116, 101], obj := w }
  if (w == [99, 117, 101]) = true then rNext (rPlace c) fun c => rNext (rWord [[107, 101, 101, 112]]) fun k => rOk { c with fl := if (k != []) = true then 2 else 0 }
  else if (w == [102, 105, 120, 116, 117, 114, 101]) = true then rNext rUnit fun f => rOk { c with pl := f } else rNext (rInt 1048576) fun n => rOk { c with list := n }
noncomputable def rPatch : Rd Cmd := rNext rUnit fun f => rNext rProfile fun p => rNext (rNeed [[97, 116]]) fun _ => rNext (rInt 8) fun u => rNext rSlash fun _ => rNext (rInt 512) fun a => rNext (rWord [[112, 104, 97, 115, 101]]) fun w => rNext (if (w != []) = true then rInt 3 else rOk 1) fun ph => rOk { cmd0 with kind := 5, verb := [112, 97, 116, 99, 104], pl := ⟨f.ch, f.pt, p, u, a, ph⟩ }
def rPlay (verb : List UInt8) : Rd Cmd := rNext (rInt 1048576) fun n =>
  let c : Cmd := { cmd0 with kind := 6, verb := verb, list := n }
  if (verb == [103, 111, 116, 111]) = true then rNext (rNeed [[99, 117, 101]]) fun _ => rNext rCue fun q => rOk { c with num := q }
  else if (verb == [114, 97, 116, 101]) = true then rNext (rNeed [[97, 116]]) fun _ => rNext (rInt 400) fun v => rOk { c with lev := v }
  else if (verb == [114, 101, 108, 101, 97, 115, 101]) = true then rNext rTime fun t => rOk { c with time := t } else rOk c
def rFader (verb : List UInt8) : Rd Cmd := rNext (if (verb != [109, 97, 115, 116, 101, 114]) = true then rInt 1048576 else rOk 0) fun n => rNext (rNeed [[97, 116]]) fun _ => rNext rLevel fun v => rNext rTime fun t => rOk { cmd0 with kind := 7, verb := verb, list := n, lev := v, time := t }
def rBlackout (verb : List UInt8) : Rd Cmd := rNext (rNeed [[111, 110], [111, 102, 102]]) fun w => rOk { cmd0 with kind := 7, verb := verb, lev := if (w == [111, 110]) = true then 1 else 0 }
def rEffect (verb : List UInt8) : Rd Cmd := rNext (rInt 1048576) fun n =>
  let c : Cmd := { cmd0 with kind := 8, verb := verb, list := n }
  if (verb == [115, 116, 111, 112]) = true then rOk c else rNext (rNeed [[111, 110], [97, 116]]) fun w => if (w == [111, 110]) = true then rNext rSelection fun l => rOk { c with sel := some l } else rNext (rInt 400) fun v => rOk { c with verb := [115, 112, 101, 101, 100], lev := v }
def rUndo (verb : List UInt8) : Rd Cmd := rOk { cmd0 with kind := 9, verb := verb }
noncomputable def tabV : List (List UInt8 × Nat × (List UInt8 → Rd Cmd)) := [([99, 108, 101, 97, 114], 114, fun _ => rClear), ([114, 101, 99, 111, 114, 100], 115, fun _ => rRecord), ([117, 112, 100, 97, 116, 101], 116, fun _ => rUpdate), ([100, 101, 108, 101, 116, 101], 117, fun _ => rRemove), ([112, 97, 116, 99, 104], 118, fun _ => rPatch), ([98, 108, 97, 99, 107, 111, 117, 116], 119, rBlackout), ([103, 111], 121, rPlay), ([98, 97, 99, 107], 121, rPlay), ([112, 97, 117, 115, 101], 121, rPlay), ([114, 101, 115, 117, 109, 101], 121, rPlay), ([114, 101, 118, 101, 114, 115, 101], 121, rPlay), ([103, 111, 116, 111], 121, rPlay), ([114, 97, 116, 101], 121, rPlay), ([114, 101, 108, 101, 97, 115, 101], 121, rPlay), ([108, 105, 115, 116], 122, rFader), ([115, 117, 98], 122, rFader), ([109, 97, 115, 116, 101, 114], 122, rFader), ([101, 102, 102, 101, 99, 116], 123, rEffect), ([115, 116, 111, 112], 123, rEffect), ([117, 110, 100, 111], 124, rUndo), ([114, 101, 100, 111], 124, rUndo)]
noncomputable def lukT (t : List UInt8) : List (List UInt8 × Nat × (List UInt8 → Rd Cmd)) → Option (Nat × (List UInt8 → Rd Cmd))
  | [] => none
  | p :: r => if t = p.1 then some p.2 else lukT t r
noncomputable def rCommand : Rd Cmd := fun ts => if ((hd ts).k != 0 || (hd ts).t == [103, 114, 111, 117, 112]) = true then rSet ts else match lukT (hd ts).t tabV with
  | none => .error ((hd ts).a, 4)
  | some q => q.2 (hd ts).t ts.tail
end Go.Proofs.YtnondemehfkalaaGreatDoor

set_option maxRecDepth 10000
namespace Go.Proofs.YtnondemehfkalaaGreatDoor
open Go.Sha Go.RowKit

theorem capV_le (n : Nat) : capV n ≤ 1099511627776 := Nat.min_le_right _ _
theorem digsB_ok {s : List UInt8} (h : digsB s = true) : s ≠ [] ∧ s.all digB = true := by
  simp only [digsB, Bool.and_eq_true, bne_iff_ne] at h; exact ⟨h.1.1, h.1.2⟩
theorem sec_ok {s : List UInt8} (h : secBad s = false) : digsB (cutW 46 s) = true ∧ (cutP 46 s = true → (cutR 46 s).all digB = true) := by
  simp only [secBad, Bool.or_eq_false_iff, Bool.and_eq_false_iff, Bool.not_eq_false'] at h
  refine ⟨h.1, fun hp => ?_⟩
  rcases h.2 with h | h
  · rw [hp] at h; cases h
  · exact h.2
theorem cutR_none {c : UInt8} {s : List UInt8} (h : cutP c s = false) : cutR c s = [] := by
  simp only [cutP, decide_eq_false_iff_not] at h
  exact List.drop_eq_nil_of_le (by omega)
theorem take_all {p : UInt8 → Bool} {l : List UInt8} {n : Nat} (h : l.all p = true) : (l.take n).all p = true := by
  rw [List.all_eq_true] at h ⊢
  exact fun x hx => h x (List.mem_of_mem_take hx)

theorem sl3 (l : List UInt8) : sliceS (l ++ [48, 48, 48]) (some 0) (natV (.int .i64 3)) = some (.str ((l ++ [48, 48, 48]).take 3)) := by
  have h : (3 : Nat) ≤ (l ++ [48, 48, 48]).length := by simp
  have h2 : natV (.int .i64 3) = some 3 := by rfl
  simp only [sliceS, h2, Option.bind_some]
  rw [if_pos ⟨Nat.zero_le _, h⟩]
  simp

theorem seconds_v (s : List UInt8) (st : St) (hg : GlOk st.x.gl) (hs : s.length < 140737488355328) : VRet Tryz.prog 15 [.str s] st (.tup [.int .i64 (secN s).1, .int .i64 (secN s).2]) st := by
  have h1 : (cutW 46 s).length ≤ s.length := by unfold cutW; rw [List.length_take]; omega
  have h2 : (cutR 46 s).length ≤ s.length := by unfold cutR; rw [List.length_drop]; omega
  have ht := trim_all (cutR 46 s)
  have ht' : (trL (trR (cutR 46 s)) != []) = !((cutR 46 s).all digB) := by rw [← ht]; rfl
  have hv1 : secBad s = false → VRet Tryz.prog 38 [.str (cutW 46 s)] st (.int .i64 (capV (numD (cutW 46 s)))) st := fun h => by
    obtain ⟨q1, q2⟩ := digsB_ok (sec_ok h).1
    exact value_v _ _ hg (by omega) q1 q2
  have hv2 : secBad s = false → VRet Tryz.prog 38 [.str (49 :: (cutR 46 s ++ [48, 48, 48]).take 3)] st (.int .i64 (capV (numD (49 :: (cutR 46 s ++ [48, 48, 48]).take 3)))) st := fun h => by
    refine value_v _ _ hg ?_ (by simp) ?_
    · rw [List.length_cons, List.length_take]; omega
    · rw [List.all_cons]
      have : (cutR 46 s).all digB = true := by
        cases hp : cutP 46 s with
        | true => exact (sec_ok h).2 hp
        | false => rw [cutR_none hp]; rfl
      have h3 : (cutR 46 s ++ [48, 48, 48]).all digB = true := by rw [List.all_append, this]; rfl
      rw [take_all h3]; rfl
  have c1 := capV_le (numD (cutW 46 s))
  have c2 := capV_le (numD (49 :: (cutR 46 s ++ [48, 48, 48]).take 3))
  have w1 : IntKind.i64.wrap (1000 * (capV (numD (cutW 46 s)) : Int)) = 1000 * (capV (numD (cutW 46 s)) : Int) := wrap64 (by omega) (by omega)
  have w2 : IntKind.i64.wrap (1000 * (capV (numD (cutW 46 s)) : Int) + (capV (numD (49 :: (cutR 46 s ++ [48, 48, 48]).take 3)) : Int)) = 1000 * (capV (numD (cutW 46 s)) : Int) + (capV (numD (49 :: (cutR 46 s ++ [48, 48, 48]).take 3)) : Int) := wrap64 (by omega) (by omega)
  have w3 : IntKind.i64.wrap (1000 * (capV (numD (cutW 46 s)) : Int) + (capV (numD (49 :: (cutR 46 s ++ [48, 48, 48]).take 3)) : Int) - 1000) = msS s := wrap64 (by omega) (by omega)
  have h3 : (3 : Nat) ≤ (cutR 46 s ++ [48, 48, 48]).length := by simp
  have hl4 : (cutR 46 s).length ≤ 9223372036854775804 := by omega
  have hl5 : 1 + (List.take 3 (cutR 46 s ++ [48, 48, 48])).length ≤ 9223372036854775807 := by rw [List.length_take]; omega
  refine VCalls_of F15_ok mixed (Nat.le_of_ble_eq_true rfl) (fun hwf => ?_)
  (repeat' first | ((first | refine go rfl rfl ?_ | refine Cl.by_ (by (first | refine cut_v _ _ _ (by omega) | refine digits_v _ _ (by omega) | refine trimD_v _ _ (by omega) | refine hv1 (by simp [secBad, *]) | refine hv2 (by simp [secBad, *]))) ?_ | (refine Fk.by_ ?_ ?_ <;> intro hc <;> try simp only [hc]) | refine storeK_eq rfl ?_ | with_reducible refine And.intro ?_ ?_ | fail) <;> try simp only [ht', w1, w2, w3, h3, sl3, hl4, hl5, Nat.zero_le, List.drop_zero, push_cast, reduceIte, Nat.reduceEqDiff, reduceCtorEq, Nat.reduceAdd, Nat.reduceLeDiff, Nat.reduceBEq]))
  all_goals exact finRet0 hwf rfl (by simp [resOne, secN, secBad, *]) rfl

/-! ### Attr -/
theorem sl_new {w : World} {A : Abs} {st : St} (hs : Sim w A st) (vs : List Value) (xs : List V) (e : Nat) (hl : vs.length = xs.length) (hm : xs.length ≤ maxLen) (hc : ∀ x ∈ xs, x.cells = [x])
    (h : ∀ (i : Nat) (v : Value) (x : V), vs[i]? = some v → xs[i]? = some x → v.oneCell' = true ∧ Rep w A v x) :
    ∃ A', Sim (w.alloc (.cells vs.toArray e)) A' ⟨st.nx + 1, st.mem, (st.nx, ⟨e, 1, xs, false, false⟩) :: st.arr, st.x⟩ ∧ Ext w A (w.alloc (.cells vs.toArray e)) A' ∧ Rep (w.alloc (.cells vs.toArray e)) A' (.slice (some ⟨w.heap.size, 0, none⟩) xs.length xs.length) (.sl xs) := by
  have hx := Ext.newArr (w0 := w) hs ⟨rfl, rfl, rfl, rfl⟩ (.cells vs.toArray e) xs.length (.slice (some ⟨w.heap.size, 0, none⟩) xs.length xs.length) (!false) (xs.length * 1)
  have hcell : ∀ (i : Nat) (x : V), xs[i]? = some x → ∃ v, vs[i]? = some v ∧ v.oneCell' = true ∧ Rep w A v x := fun i x hi => by
    have hlt : i < vs.length := by rw [hl]; exact (List.getElem?_eq_some_iff.1 hi).1
    obtain ⟨q1, q2⟩ := h i vs[i] x (List.getElem?_eq_getElem hlt) hi
    exact ⟨_, List.getElem?_eq_getElem hlt, q1, q2⟩
  refine ⟨_, Sim.newArr (w0 := w) hs ⟨rfl, rfl, rfl, rfl⟩ (cur := vs.toArray) (xs := xs) (e := e) (es := 1) (cap := xs.length) (wr := false) (fz := false) (fun x hx => by rw [hc x hx]; rfl) (Nat.le_refl _) hm (by simp [hl]) (fun i j x c hi hj => ?_), hx, ?_⟩
  · rw [hc x (List.mem_of_getElem? hi)] at hj
    match j, hj with
    | 0, hj =>
      simp at hj; subst hj
      obtain ⟨v, q1, q2, q3⟩ := hcell i x hi
      exact ⟨v, by simpa using q1, q2, q3⟩
  · refine .sl xs w.heap.size 0 xs.length 1 (fun i _ => vs[i]?.getD .nilIface) (fun x hx => by rw [hc x hx]; rfl) (Nat.le_refl _) hm (fun i j x c hi hj => ?_) (fun i j x c hi hj => ?_)
    · rw [hc x (List.mem_of_getElem? hi)] at hj
      match j, hj with
      | 0, hj =>
        simp at hj; subst hj
        obtain ⟨v, q1, q2, q3⟩ := hcell i x hi
        have hlt := (List.getElem?_eq_some_iff.1 hi).1
        refine ⟨.inr ⟨rfl, rfl, by omega⟩, ?_, by rw [q1]; exact q2⟩
        have := World.cell?_alloc_new w vs.toArray e i
        simp only [Nat.zero_add, Nat.mul_one, Nat.add_zero]
        rw [q1]
        unfold World.cell?
        rw [heap_alloc_new]
        simpa using q1
    · rw [hc x (List.mem_of_getElem? hi)] at hj
      match j, hj with
      | 0, hj =>
        simp at hj; subst hj
        obtain ⟨v, q1, q2, q3⟩ := hcell i x hi
        simp only [q1]
        exact q3.mono hx
def attrsS : List UInt8 := [105, 110, 116, 101, 110, 115, 105, 116, 121, 32, 112, 97, 110, 32, 116, 105, 108, 116, 32, 114, 101, 100, 32, 103, 114, 101, 101, 110, 32, 98, 108, 117, 101, 32, 119, 104, 105, 116, 101, 32, 97, 109, 98, 101, 114, 32, 99, 121, 97, 110, 32, 109, 97, 103, 101, 110, 116, 97, 32, 121, 101, 108, 108, 111, 119, 32, 103, 111, 98, 111, 32, 115, 104, 117, 116, 116, 101, 114, 32, 122, 111, 111, 109, 32, 102, 111, 99, 117, 115]
theorem attr_fields : Lib.fields attrsS = namesB := by decide +kernel
theorem callable32 : Callable Tryz.prog 32 := ⟨_, Tryz.func32, by kernel_rfl, by kernel_rfl⟩
theorem fields_v (st : St) (hg : GlOk st.x.gl) : VRet Tryz.prog 32 [.str attrsS] st (.sl (namesB.map .str)) ⟨st.nx + 1, st.mem, (st.nx, ⟨9, 1, namesB.map .str, false, false⟩) :: st.arr, st.x⟩ := by
  refine .inl ⟨callable32, fun w A vs hw ha => ?_⟩
  obtain ⟨u, rfl, h1⟩ := ha.one
  have e1 := h1.str_inv
  subst e1
  obtain ⟨g, T, fz, g1, g2⟩ := hg.spc
  have htab : Lib.TabIs Tryz.prog w "strings.asciiSpace" .u8 Lib.asciiSpaceTab := by
    have := (hw.x.gl _ g2).1
    simp only [Lib.TabIs, World.var?, g1, Option.bind_some, this]
  refine (Tryz.strings_Fields ⟨attrsS.toArray⟩ w (by decide) (fun j b hj => by
    have := List.all_eq_true.1 (show attrsS.all (fun b => decide (b.toNat < 128)) = true from rfl) b (List.mem_of_getElem? hj)
    simpa using this) htab).mono fun e w' ⟨he, hb⟩ => ?_
  subst he; subst hb
  have hn : Lib.fields attrsS = namesB := attr_fields
  obtain ⟨A', q1, q2, q3⟩ := sl_new hw (namesB.map fun l => Value.string ⟨l.toArray⟩) (namesB.map .str) 9 rfl (by decide) (fun x hx => by
    obtain ⟨l, _, rfl⟩ := List.mem_map.1 hx; rfl) (fun i v x hi hx => by
    rw [List.getElem?_map] at hi hx
    cases hk : namesB[i]? with
    | none => rw [hk] at hi; cases hi
    | some l => rw [hk] at hi hx; cases hi; cases hx; exact ⟨rfl, .str _⟩)
  refine ⟨.ret (.sl (namesB.map .str)), A', _, ⟨rfl, rfl⟩, ?_, ?_, ?_⟩
  · show EndRel _ _ (.returned (.slice (some ⟨w.heap.size, 0, none⟩) (Lib.fields attrsS).length (Lib.fields attrsS).length)) _
    rw [hn]; exact q3
  · show Sim (w.alloc (.cells ((Lib.fields attrsS).map fun l => Value.string ⟨l.toArray⟩).toArray 9)) _ _
    rw [hn]; exact q1
  · show Ext _ _ (w.alloc (.cells ((Lib.fields attrsS).map fun l => Value.string ⟨l.toArray⟩).toArray 9)) _
    rw [hn]; exact q2
end Go.Proofs.YtnondemehfkalaaGreatDoor

set_option maxRecDepth 10000
namespace Go.Proofs.YtnondemehfkalaaGreatDoor
open Go.Sha Go.RowKit

theorem idxB_le {w : List UInt8} : ∀ {l : List (List UInt8)}, idxB w l ≤ l.length
  | [] => Nat.le_refl _
  | x :: r => by
    have := idxB_le (w := w) (l := r)
    simp only [idxB, List.length_cons]; split <;> omega
theorem idxB_drop {w : List UInt8} : ∀ {l : List (List UInt8)} {j : Nat}, j ≤ idxB w l → idxB w l = j + idxB w (l.drop j)
  | l, 0, _ => by simp
  | [], j + 1, h => by simp [idxB] at h
  | x :: r, j + 1, h => by
    simp only [idxB] at h ⊢
    split at h
    · omega
    · rename_i hx
      rw [if_neg hx, List.drop_succ_cons]
      have := idxB_drop (w := w) (l := r) (j := j) (by omega)
      omega
theorem idxB_get {w x : List UInt8} {l : List (List UInt8)} {j : Nat} (h : l[j]? = some x) : idxB w (l.drop j) = if (w == x) = true then 0 else idxB w (l.drop (j + 1)) + 1 := by
  obtain ⟨q1, q2⟩ := List.getElem?_eq_some_iff.1 h
  rw [List.drop_eq_getElem_cons q1, q2]
  simp only [idxB, Bool.beq_comm (a := x)]
theorem index_v (w : List UInt8) (l : List (List UInt8)) (st : St) (hl : l.length < 1000) : VRet Tryz.prog 31 [.sl (l.map .str), .str w] st (.int .i64 (if idxB w l < l.length then (idxB w l : Int) else -1)) st := by
  refine VCalls_of F31_ok mixed (Nat.le_of_ble_eq_true rfl) (fun hwf => ?_)
  have hbw : V.bdL st.nx (l.map V.str) = true := bdL_map fun _ _ => rfl
  (repeat' first | ((first | refine go rfl rfl ?_ | (refine Fk.by_ ?_ ?_ <;> intro hc <;> try simp only [hc]) | refine storeK_eq rfl ?_ | with_reducible refine And.intro ?_ ?_ | fail) <;> try simp only [push_cast, reduceIte, Nat.reduceEqDiff, reduceCtorEq, Nat.reduceAdd, Nat.reduceLeDiff, Nat.reduceBEq]))
  refine WT_loop rfl (fun n e z => ∃ j : Nat, n = l.length - j ∧ j ≤ l.length ∧ j ≤ idxB w l ∧ e = [(8, .int .i64 (j : Int)), (7, .int .i64 (l.length : Int)), (0, .sl (l.map .str)), (1, .str w)] ∧ st = z) st.nx (Nat.le_refl _) (by rintro _ _ _ ⟨j, _, _, _, _, rfl⟩; rfl)
    ⟨_, _, _, ⟨0, rfl, Nat.zero_le _, Nat.zero_le _, rfl, rfl⟩, (by repeat first | exact .nil | refine .cons (by first | rfl | (simp [V.bd, V.bdL]; try first | omega | assumption)) (by first | rfl | simp only [push_cast, reduceIte, Nat.reduceEqDiff, reduceCtorEq, Nat.reduceAdd, Nat.reduceLeDiff, Nat.reduceBEq]) ?_), .refl hwf⟩ ?_
  rintro n e z ⟨j, rfl, hj, hr, rfl, rfl⟩
  rcases Nat.lt_or_ge j l.length with hlt | hge
  · obtain ⟨x, hx⟩ : ∃ x, l[j]? = some x := ⟨_, List.getElem?_eq_getElem hlt⟩
    have h2 : decide ((j : Int) < (l.length : Int)) = true := decide_eq_true (by omega)
    have hwr : IntKind.i64.wrap ((j : Int) + 1) = (j : Int) + 1 := wrap64 (by omega) (by omega)
    have hd1 := idxB_drop hr
    have hd2 := idxB_get (w := w) hx
    (repeat' first | ((first | refine go rfl rfl ?_ | (refine Fk.by_ ?_ ?_ <;> intro hc <;> try simp only [hc]) | refine storeK_eq rfl ?_ | with_reducible refine And.intro ?_ ?_ | fail) <;> try simp only [h2, hwr, hx, V.cells, push_cast, reduceIte, Nat.reduceEqDiff, reduceCtorEq, Nat.reduceAdd, Nat.reduceLeDiff, Nat.reduceBEq]))
    · rw [hc, if_pos rfl] at hd2
      exact finRet0 hwf rfl (by rw [show idxB w l = j by omega, if_pos hlt]; rfl) rfl
    · rw [hc, if_neg Bool.false_ne_true] at hd2
      exact ⟨_, _, _, by omega, ⟨j + 1, rfl, by omega, by omega, rfl, rfl⟩, (by repeat first | exact .nil | refine .cons (by first | rfl | (simp [V.bd, V.bdL]; try first | omega | assumption)) (by first | rfl | simp only [push_cast, reduceIte, Nat.reduceEqDiff, reduceCtorEq, Nat.reduceAdd, Nat.reduceLeDiff, Nat.reduceBEq]) ?_), .refl hwf⟩
  · have h2 : decide ((j : Int) < (l.length : Int)) = false := decide_eq_false (by omega)
    have := idxB_le (w := w) (l := l)
    (repeat' first | ((first | refine go rfl rfl ?_ | (refine Fk.by_ ?_ ?_ <;> intro hc <;> try simp only [hc]) | refine storeK_eq rfl ?_ | with_reducible refine And.intro ?_ ?_ | fail) <;> try simp only [h2, push_cast, reduceIte, Nat.reduceEqDiff, reduceCtorEq, Nat.reduceAdd, Nat.reduceLeDiff, Nat.reduceBEq]))
    all_goals exact finRet0 hwf rfl (by rw [if_neg (by omega)]; rfl) rfl

theorem takeWhile_self {p : UInt8 → Bool} : ∀ {l : List UInt8}, (∀ b ∈ l, p b = true) → l.takeWhile p = l
  | [], _ => rfl
  | b :: l, h => by rw [List.takeWhile_cons, if_pos (h b List.mem_cons_self), takeWhile_self (fun c hc => h c (List.mem_cons_of_mem _ hc))]
theorem idx_none {c : UInt8} {s : List UInt8} (h : 0 ≤ Lib.indexByte s c) : c ∈ s := by
  rw [index_pos] at h
  split at h
  · rename_i hp
    unfold posB at hp
    by_cases hm : c ∈ s
    · exact hm
    · exfalso
      have : s.takeWhile (fun b => !(b == c)) = s := by
        refine takeWhile_self (fun b hb => ?_)
        have : b ≠ c := fun e => hm (e ▸ hb)
        simp [this]
      rw [this] at hp; omega
  · omega
theorem idxB_mem {w : List UInt8} : ∀ {l : List (List UInt8)}, idxB w l < l.length → w ∈ l
  | [], h => by simp at h
  | x :: r, h => by
    simp only [idxB, List.length_cons] at h
    split at h
    · rename_i hx; rw [beq_iff_eq] at hx; rw [hx]; exact List.mem_cons_self
    · exact List.mem_cons_of_mem _ (idxB_mem (by omega))
theorem attr_sp {w : List UInt8} (h : w = [] ∨ (32 : UInt8) ∈ w) : attrN w = (0, 8) := by
  have hne : ∀ x : List UInt8, x ≠ [] → (32 : UInt8) ∉ x → w ≠ x := by
    rintro x h1 h2 rfl
    rcases h with h | h
    · exact h1 h
    · exact h2 h
  have hidx : ¬ idxB w namesB < 15 := fun hlt => by
    have hm := idxB_mem (w := w) (l := namesB) hlt
    have hall : namesB.all (fun x => x != [] && !(x.contains 32)) = true := by decide
    have := List.all_eq_true.1 hall w hm
    simp at this
    exact (h.elim this.1 this.2)
  unfold attrN
  rw [if_neg hidx, if_neg (by simpa using hne _ (by decide) (by decide)), if_neg (by simpa using hne _ (by decide) (by decide)), if_neg (by simpa using hne _ (by decide) (by decide))]

theorem attr_v (w : List UInt8) (st : St) (hg : GlOk st.x.gl) : VRet Tryz.prog 13 [.str w] st (.tup [.int .i64 (attrN w).1, .int .i64 (attrN w).2]) st := by
  refine VCalls_of F13_ok mixed (Nat.le_of_ble_eq_true rfl) (fun hwf => ?_)
  by_cases he : (w == []) = true
  · (repeat' first | ((first | refine go rfl rfl ?_ | (refine Fk.by_ ?_ ?_ <;> intro hc <;> try simp only [hc]) | refine storeK_eq rfl ?_ | with_reducible refine And.intro ?_ ?_ | fail) <;> try simp only [he, push_cast, reduceIte, Nat.reduceEqDiff, reduceCtorEq, Nat.reduceAdd, Nat.reduceLeDiff, Nat.reduceBEq]))
    all_goals exact finRet0 hwf rfl (by rw [attr_sp (.inl (by simpa using he))]; rfl) rfl
  rw [Bool.not_eq_true] at he
  cases hs : decide (0 ≤ Lib.indexByte w 32) with
  | true =>
    (repeat' first | ((first | refine go rfl rfl ?_ | refine Cl.by_ (by (first | refine contains1_v _ _ _)) ?_ | (refine Fk.by_ ?_ ?_ <;> intro hc <;> try simp only [hc]) | refine storeK_eq rfl ?_ | with_reducible refine And.intro ?_ ?_ | fail) <;> try simp only [he, hs, push_cast, reduceIte, Nat.reduceEqDiff, reduceCtorEq, Nat.reduceAdd, Nat.reduceLeDiff, Nat.reduceBEq]))
    all_goals exact finRet0 hwf rfl (by rw [attr_sp (.inr (idx_none (by simpa using hs)))]; rfl) rfl
  | false =>
    have hi : ∀ st', VRet Tryz.prog 31 [.sl (namesB.map .str), .str w] st' (.int .i64 (if idxB w namesB < 15 then (idxB w namesB : Int) else -1)) st' := fun st' => index_v w namesB st' (by decide)
    have f1 : findV (.str [99, 111, 108, 111, 117, 114]) [(.str [112, 111, 115, 105, 116, 105, 111, 110], .int .i64 1)] 0 = some none := rfl
    have f2 : findV (.str [98, 101, 97, 109]) [(.str [112, 111, 115, 105, 116, 105, 111, 110], .int .i64 1), (.str [99, 111, 108, 111, 117, 114], .int .i64 2)] 0 = some none := rfl
    have f3 : findV (.str w) [(.str [112, 111, 115, 105, 116, 105, 111, 110], .int .i64 1), (.str [99, 111, 108, 111, 117, 114], .int .i64 2), (.str [98, 101, 97, 109], .int .i64 3)] 0 = some (luk w [([112, 111, 115, 105, 116, 105, 111, 110], .int .i64 1), ([99, 111, 108, 111, 117, 114], .int .i64 2), ([98, 101, 97, 109], .int .i64 3)] 0) := findV_strs w [([112, 111, 115, 105, 116, 105, 111, 110], .int .i64 1), ([99, 111, 108, 111, 117, 114], .int .i64 2), ([98, 101, 97, 109], .int .i64 3)] 0
    by_cases hx : idxB w namesB < 15
    · have h1 : decide (idxB w namesB < 15) = true := decide_eq_true hx
      have h2 : decide ((0 : Int) ≤ (idxB w namesB : Int)) = true := decide_eq_true (by omega)
      (repeat' first | ((first | refine go rfl rfl ?_ | refine Cl.by_ (by (first | refine contains1_v _ _ _ | refine fields_v _ hg | refine hi _)) ?_ | (refine Fk.by_ ?_ ?_ <;> intro hc <;> try simp only [hc]) | refine storeK_eq rfl ?_ | with_reducible refine And.intro ?_ ?_ | fail) <;> try simp only [he, hs, hx, h2, push_cast, reduceIte, Nat.reduceEqDiff, reduceCtorEq, Nat.reduceAdd, Nat.reduceLeDiff, Nat.reduceBEq]))
      have hA : attrN w = ((idxB w namesB : Int), 0) := if_pos hx
      rw [hA]
      all_goals refine finB (hwf) (by simp only [F13, push_cast, reduceIte, Nat.reduceEqDiff, reduceCtorEq, Nat.reduceAdd, Nat.reduceLeDiff, Nat.reduceBEq]; exact rfl) (by first | exact .inl rfl | (right; simp only [F13, push_cast, reduceIte, Nat.reduceEqDiff, reduceCtorEq, Nat.reduceAdd, Nat.reduceLeDiff, Nat.reduceBEq]; try rfl)) (by first | rfl | assumption) (by simp) (by simp) (by (repeat first | exact (hwf).subm | exact (hwf).suba | refine Sub.drop (by simp) ?_)) (by (repeat first | exact (hwf).subm | exact (hwf).suba | refine Sub.drop (by simp) ?_)) (by (repeat first | exact (hwf).subx | refine ExSub.dropt (by simp) ?_ | refine ExSub.drop (by simp) ?_))
    · have fin : ∀ (o : Option (Nat × V)) (r : Int × Int), luk w [([112, 111, 115, 105, 116, 105, 111, 110], .int .i64 1), ([99, 111, 108, 111, 117, 114], .int .i64 2), ([98, 101, 97, 109], .int .i64 3)] 0 = o → attrN w = r → (o = none ∧ r = (0, 8) ∨ ∃ i c, o = some (i, .int .i64 c) ∧ r = (15 + c, 0) ∧ 0 ≤ c ∧ c ≤ 3) := fun o r ho hr => by
        unfold attrN at hr
        rw [if_neg hx] at hr
        simp only [luk, beq_iff_eq] at ho hr
        by_cases h1 : w = [112, 111, 115, 105, 116, 105, 111, 110]
        · rw [if_pos h1] at ho hr; subst ho; subst hr; exact .inr ⟨_, _, rfl, rfl, by decide, by decide⟩
        rw [if_neg h1] at ho hr
        by_cases h2 : w = [99, 111, 108, 111, 117, 114]
        · rw [if_pos h2] at ho hr; subst ho; subst hr; exact .inr ⟨_, _, rfl, rfl, by decide, by decide⟩
        rw [if_neg h2] at ho hr
        by_cases h3 : w = [98, 101, 97, 109]
        · rw [if_pos h3] at ho hr; subst ho; subst hr; exact .inr ⟨_, _, rfl, rfl, by decide, by decide⟩
        rw [if_neg h3] at ho hr
        subst ho; subst hr; exact .inl ⟨rfl, rfl⟩
      rcases fin _ _ rfl rfl with ⟨h1, h2⟩ | ⟨i, c, h1, h2, h3, h4⟩
      · rw [h1] at f3
        rw [h2]
        (repeat' first | ((first | refine go rfl rfl ?_ | refine Cl.by_ (by (first | refine contains1_v _ _ _ | refine fields_v _ hg | refine hi _)) ?_ | (refine Fk.by_ ?_ ?_ <;> intro hc <;> try simp only [hc]) | refine storeK_eq rfl ?_ | with_reducible refine And.intro ?_ ?_ | fail) <;> try simp only [he, hs, hx, f1, f2, f3, push_cast, reduceIte, Nat.reduceEqDiff, reduceCtorEq, Nat.reduceAdd, Nat.reduceLeDiff, Nat.reduceBEq]))
        all_goals refine finB (hwf) (by simp only [F13, push_cast, reduceIte, Nat.reduceEqDiff, reduceCtorEq, Nat.reduceAdd, Nat.reduceLeDiff, Nat.reduceBEq]; exact rfl) (by first | exact .inl rfl | (right; simp only [F13, push_cast, reduceIte, Nat.reduceEqDiff, reduceCtorEq, Nat.reduceAdd, Nat.reduceLeDiff, Nat.reduceBEq]; try rfl)) (by first | rfl | assumption) (by simp) (by simp) (by (repeat first | exact (hwf).subm | exact (hwf).suba | refine Sub.drop (by simp) ?_)) (by (repeat first | exact (hwf).subm | exact (hwf).suba | refine Sub.drop (by simp) ?_)) (by (repeat first | exact (hwf).subx | refine ExSub.dropt (by simp) ?_ | refine ExSub.drop (by simp) ?_))
      · rw [h1] at f3
        rw [h2]
        have hw : IntKind.i64.wrap (15 + c) = 15 + c := wrap64 (by omega) (by omega)
        (repeat' first | ((first | refine go rfl rfl ?_ | refine Cl.by_ (by (first | refine contains1_v _ _ _ | refine fields_v _ hg | refine hi _)) ?_ | (refine Fk.by_ ?_ ?_ <;> intro hc <;> try simp only [hc]) | refine storeK_eq rfl ?_ | with_reducible refine And.intro ?_ ?_ | fail) <;> try simp only [he, hs, hx, f1, f2, f3, hw, push_cast, reduceIte, Nat.reduceEqDiff, reduceCtorEq, Nat.reduceAdd, Nat.reduceLeDiff, Nat.reduceBEq]))
        all_goals refine finB (hwf) (by simp only [F13, push_cast, reduceIte, Nat.reduceEqDiff, reduceCtorEq, Nat.reduceAdd, Nat.reduceLeDiff, Nat.reduceBEq]; exact rfl) (by first | exact .inl rfl | (right; simp only [F13, push_cast, reduceIte, Nat.reduceEqDiff, reduceCtorEq, Nat.reduceAdd, Nat.reduceLeDiff, Nat.reduceBEq]; try rfl)) (by first | rfl | assumption) (by simp) (by simp) (by (repeat first | exact (hwf).subm | exact (hwf).suba | refine Sub.drop (by simp) ?_)) (by (repeat first | exact (hwf).subm | exact (hwf).suba | refine Sub.drop (by simp) ?_)) (by (repeat first | exact (hwf).subx | refine ExSub.dropt (by simp) ?_ | refine ExSub.drop (by simp) ?_))
end Go.Proofs.YtnondemehfkalaaGreatDoor

namespace Go.Proofs.YtnondemehfkalaaGreatDoor
open Go.Sha
/-- luminaire/level.Percent -/
def F169 : FT := ⟨21, 1, [.tmp 2, .tmp 3],
  [.seq 1 2,
   .reg [⟨(some 2), .mv (.c (.int .i64 0)), none⟩,
      ⟨(some 3), .mv (.c (.int .i64 0)), none⟩],
   .seq 3 10,
   .seq 4 5,
   .reg [⟨(some 6), .mv (.t 0), none⟩,
      ⟨(some 7), .bin .eql (.t 6) (.c (.str [102, 117, 108, 108])), none⟩],
   .cond (.t 7) 6 9,
   .seq 7 8,
   .reg [⟨(some 2), .mv (.c (.int .i64 65535)), none⟩,
      ⟨(some 3), .mv (.c (.int .i64 0)), none⟩],
   .ret,
   .skip,
   .seq 11 12,
   .reg [⟨(some 9), .mv (.t 0), none⟩,
      ⟨(some 10), .call (.c (.fn (.func 205) [] [])) [(.t 9)], none⟩,
      ⟨(some 8), .mv (.t 10), none⟩,
      ⟨(some 11), .ext 0 (.t 8), none⟩,
      ⟨(some 12), .ext 1 (.t 8), none⟩,
      ⟨(some 4), .mv (.t 11), none⟩,
      ⟨(some 5), .mv (.t 12), none⟩],
   .seq 13 27,
   .block 0 14,
   .seq 15 16,
   .reg [⟨(some 14), .mv (.t 5), none⟩,
      ⟨(some 15), .un .not (.t 14), none⟩,
      ⟨(some 13), .mv (.t 15), none⟩],
   .cond (.t 13) 17 20,
   .seq 18 19,
   .reg [⟨(some 2), .mv (.c (.int .i64 0)), none⟩,
      ⟨(some 3), .mv (.c (.int .i64 3)), none⟩],
   .ret,
   .seq 21 22,
   .reg [⟨(some 17), .mv (.t 4), none⟩,
      ⟨(some 18), .bin .gtr (.t 17) (.c (.int .i64 100000)), none⟩,
      ⟨(some 16), .mv (.t 18), none⟩],
   .cond (.t 16) 23 26,
   .seq 24 25,
   .reg [⟨(some 2), .mv (.c (.int .i64 0)), none⟩,
      ⟨(some 3), .mv (.c (.int .i64 2)), none⟩],
   .ret,
   .skip,
   .seq 28 29,
   .reg [⟨(some 19), .mv (.t 4), none⟩,
      ⟨(some 20), .call (.c (.fn (.func 206) [] [])) [(.t 19)], none⟩,
      ⟨(some 2), .mv (.t 20), none⟩,
      ⟨(some 3), .mv (.c (.int .i64 0)), none⟩],
   .ret]⟩

/-- luminaire/level.thousandths -/
def F205 : FT := ⟨46, 1, [.tmp 2, .tmp 3],
  [.seq 1 2,
   .reg [⟨(some 2), .mv (.c (.int .i64 0)), none⟩,
      ⟨(some 3), .mv (.c (.bool false)), none⟩],
   .seq 3 4,
   .reg [⟨(some 10), .mv (.t 0), none⟩,
      ⟨(some 11), .call (.c (.fn (.func 35) [] [])) [(.t 10), (.c (.str [46]))], none⟩,
      ⟨(some 9), .mv (.t 11), none⟩,
      ⟨(some 12), .ext 0 (.t 9), none⟩,
      ⟨(some 13), .ext 1 (.t 9), none⟩,
      ⟨(some 14), .ext 2 (.t 9), none⟩,
      ⟨(some 4), .mv (.t 12), none⟩,
      ⟨(some 5), .mv (.t 13), none⟩,
      ⟨(some 6), .mv (.t 14), none⟩],
   .seq 5 12,
   .seq 6 7,
   .reg [⟨(some 15), .mv (.t 4), none⟩,
      ⟨(some 16), .call (.c (.fn (.func 219) [] [])) [(.t 15)], none⟩,
      ⟨(some 17), .un .not (.t 16), none⟩,
      ⟨(some 18), .mv (.t 17), none⟩,
      ⟨(some 19), .mv (.t 4), some (18, false)⟩,
      ⟨(some 20), .lens (.t 19), some (18, false)⟩,
      ⟨(some 21), .bin .gtr (.t 20) (.c (.int .i64 1)), some (18, false)⟩,
      ⟨(some 22), .mv (.t 21), some (18, false)⟩,
      ⟨(some 23), .mv (.t 4), some (22, true)⟩,
      ⟨(some 24), .ichr (.t 23) (.c (.int .i64 0)), some (22, true)⟩,
      ⟨(some 25), .bin .eql (.t 24) (.c (.int .u8 48)), some (22, true)⟩,
      ⟨(some 26), .pick (.t 22) (.t 25) (.c (.bool false)), some (18, false)⟩,
      ⟨(some 27), .pick (.t 18) (.c (.bool true)) (.t 26), none⟩,
      ⟨(some 28), .mv (.t 27), none⟩,
      ⟨(some 29), .mv (.t 6), some (28, false)⟩,
      ⟨(some 30), .mv (.t 29), some (28, false)⟩,
      ⟨(some 31), .mv (.t 5), some (30, true)⟩,
      ⟨(some 32), .call (.c (.fn (.func 219) [] [])) [(.t 31)], some (30, true)⟩,
      ⟨(some 33), .un .not (.t 32), some (30, true)⟩,
      ⟨(some 34), .pick (.t 30) (.t 33) (.c (.bool false)), some (28, false)⟩,
      ⟨(some 35), .pick (.t 28) (.c (.bool true)) (.t 34), none⟩],
   .cond (.t 35) 8 11,
   .seq 9 10,
   .reg [⟨(some 2), .mv (.c (.int .i64 0)), none⟩,
      ⟨(some 3), .mv (.c (.bool false)), none⟩],
   .ret,
   .skip,
   .seq 13 14,
   .reg [⟨(some 7), .alloc 3 [(.int .i64 0)], none⟩,
      ⟨none, .store 1 (.t 7) (.c (.int .i64 0)), none⟩],
   .seq 15 16,
   .reg [⟨(some 36), .mkfn (.func 220) [] [(.t 7)], none⟩,
      ⟨(some 8), .mv (.t 36), none⟩],
   .seq 17 18,
   .reg [⟨(some 37), .mv (.t 8), none⟩,
      ⟨(some 38), .mv (.t 4), none⟩,
      ⟨(some 39), .call (.t 37) [(.t 38)], none⟩],
   .seq 19 20,
   .reg [⟨(some 40), .mv (.t 8), none⟩,
      ⟨(some 41), .mv (.t 5), none⟩,
      ⟨(some 42), .bin .add (.t 41) (.c (.str [48, 48, 48])), none⟩,
      ⟨(some 43), .slices (.t 42) none (some (.c (.int .i64 3))), none⟩,
      ⟨(some 44), .call (.t 40) [(.t 43)], none⟩],
   .seq 21 22,
   .reg [⟨(some 45), .load none (.t 7), none⟩,
      ⟨(some 2), .mv (.t 45), none⟩,
      ⟨(some 3), .mv (.c (.bool true)), none⟩],
   .ret]⟩

/-- luminaire/level.of -/
def F206 : FT := ⟨7, 1, [.tmp 2],
  [.seq 1 2,
   .reg [⟨(some 2), .mv (.c (.int .i64 0)), none⟩],
   .seq 3 4,
   .reg [⟨(some 3), .mv (.t 0), none⟩,
      ⟨(some 4), .bin .mul (.c (.int .i64 65535)) (.t 3), none⟩,
      ⟨(some 5), .bin .add (.t 4) (.c (.int .i64 50000)), none⟩,
      ⟨(some 6), .bin .quo (.t 5) (.c (.int .i64 100000)), none⟩,
      ⟨(some 2), .mv (.t 6), none⟩],
   .ret]⟩

/-- luminaire/number.Check -/
def F208 : FT := ⟨44, 1, [.tmp 2],
  [.seq 1 2,
   .reg [⟨(some 2), .mv (.c (.int .i64 0)), none⟩],
   .seq 3 4,
   .reg [⟨(some 3), .alloc 221 [(.str []), (.str []), (.bool false)], none⟩],
   .seq 5 6,
   .reg [⟨(some 8), .mv (.t 0), none⟩,
      ⟨(some 9), .call (.c (.fn (.func 35) [] [])) [(.t 8), (.c (.str [46]))], none⟩,
      ⟨(some 7), .mv (.t 9), none⟩,
      ⟨(some 10), .ext 0 (.t 7), none⟩,
      ⟨(some 11), .ext 1 (.t 7), none⟩,
      ⟨(some 12), .ext 2 (.t 7), none⟩,
      ⟨(some 13), .fadr 0 (.t 3), none⟩,
      ⟨none, .store 1 (.t 13) (.t 10), none⟩,
      ⟨(some 14), .fadr 1 (.t 3), none⟩,
      ⟨none, .store 1 (.t 14) (.t 11), none⟩,
      ⟨(some 15), .fadr 2 (.t 3), none⟩,
      ⟨none, .store 1 (.t 15) (.t 12), none⟩],
   .seq 7 8,
   .reg [⟨(some 16), .mkfn (.func 222) [] [(.t 3)], none⟩,
      ⟨(some 17), .mkfn (.func 224) [] [(.t 3)], none⟩,
      ⟨(some 18), .mkfn (.func 226) [] [(.t 3)], none⟩,
      ⟨(some 19), .bslice 22 1 [(.t 16), (.t 17), (.t 18)], none⟩,
      ⟨(some 4), .mv (.t 19), none⟩],
   .seq 9 31,
   .seq 10 11,
   .reg [⟨(some 20), .mv (.t 4), none⟩,
      ⟨(some 21), .len (.t 20), none⟩,
      ⟨(some 22), .mv (.c (.int .i64 0)), none⟩],
   .block 0 12,
   .loop 13,
   .seq 14 15,
   .reg [⟨(some 23), .bin .lss (.t 22) (.t 21), none⟩],
   .seq 16 19,
   .cond (.t 23) 17 18,
   .skip,
   .exit 0,
   .seq 20 30,
   .block 1 21,
   .seq 22 23,
   .reg [⟨(some 24), .iadr 1 (.t 20) (.t 22), none⟩,
      ⟨(some 25), .load none (.t 24), none⟩,
      ⟨(some 6), .mv (.t 25), none⟩],
   .seq 24 25,
   .reg [⟨(some 26), .mv (.t 6), none⟩,
      ⟨(some 27), .call (.t 26) [], none⟩,
      ⟨(some 28), .un .not (.t 27), none⟩],
   .cond (.t 28) 26 29,
   .seq 27 28,
   .reg [⟨(some 2), .mv (.c (.int .i64 3)), none⟩],
   .ret,
   .skip,
   .reg [⟨(some 29), .bin .add (.t 22) (.c (.int .i64 1)), none⟩,
      ⟨(some 22), .mv (.t 29), none⟩],
   .seq 32 39,
   .seq 33 34,
   .reg [⟨(some 30), .mv (.t 0), none⟩,
      ⟨(some 31), .bin .eql (.t 30) (.c (.str [48])), none⟩,
      ⟨(some 32), .mv (.t 31), none⟩,
      ⟨(some 33), .fadr 0 (.t 3), some (32, false)⟩,
      ⟨(some 34), .load none (.t 33), some (32, false)⟩,
      ⟨(some 35), .lens (.t 34), some (32, false)⟩,
      ⟨(some 36), .bin .gtr (.t 35) (.c (.int .i64 4)), some (32, false)⟩,
      ⟨(some 37), .pick (.t 32) (.c (.bool true)) (.t 36), none⟩,
      ⟨(some 38), .mv (.t 37), none⟩,
      ⟨(some 39), .fadr 1 (.t 3), some (38, false)⟩,
      ⟨(some 40), .load none (.t 39), some (38, false)⟩,
      ⟨(some 41), .lens (.t 40), some (38, false)⟩,
      ⟨(some 42), .bin .gtr (.t 41) (.c (.int .i64 3)), some (38, false)⟩,
      ⟨(some 43), .pick (.t 38) (.c (.bool true)) (.t 42), none⟩],
   .cond (.t 43) 35 38,
   .seq 36 37,
   .reg [⟨(some 2), .mv (.c (.int .i64 2)), none⟩],
   .ret,
   .skip,
   .seq 40 41,
   .reg [⟨(some 2), .mv (.c (.int .i64 0)), none⟩],
   .ret]⟩

/-- luminaire/level.digits -/
def F219 : FT := ⟨18, 1, [.tmp 2],
  [.seq 1 2,
   .reg [⟨(some 2), .mv (.c (.bool false)), none⟩],
   .seq 3 4,
   .reg [⟨(some 3), .mv (.c (.fn (.func 229) [] [])), none⟩],
   .seq 5 6,
   .reg [⟨(some 4), .mv (.t 0), none⟩,
      ⟨(some 5), .lens (.t 4), none⟩,
      ⟨(some 6), .bin .geq (.t 5) (.c (.int .i64 1)), none⟩,
      ⟨(some 7), .mv (.t 6), none⟩,
      ⟨(some 8), .mv (.t 0), some (7, true)⟩,
      ⟨(some 9), .lens (.t 8), some (7, true)⟩,
      ⟨(some 10), .bin .leq (.t 9) (.c (.int .i64 3)), some (7, true)⟩,
      ⟨(some 11), .pick (.t 7) (.t 10) (.c (.bool false)), none⟩,
      ⟨(some 12), .mv (.t 11), none⟩,
      ⟨(some 13), .mv (.t 0), some (12, true)⟩,
      ⟨(some 14), .mv (.t 3), some (12, true)⟩,
      ⟨(some 15), .call (.c (.fn (.func 230) [] [])) [(.t 13), (.t 14)], some (12, true)⟩,
      ⟨(some 16), .bin .lss (.t 15) (.c (.int .i64 0)), some (12, true)⟩,
      ⟨(some 17), .pick (.t 12) (.t 16) (.c (.bool false)), none⟩,
      ⟨(some 2), .mv (.t 17), none⟩],
   .ret]⟩

/-- luminaire/level.thousandths$1 -/
def F220 : FT := ⟨19, 1, [],
  [.seq 1 2,
   .reg [⟨(some 5), .mv (.t 0), none⟩,
      ⟨(some 6), .cvsb 5 (.t 5), none⟩,
      ⟨(some 7), .len (.t 6), none⟩,
      ⟨(some 8), .mv (.c (.int .i64 0)), none⟩],
   .block 0 3,
   .loop 4,
   .seq 5 6,
   .reg [⟨(some 9), .bin .lss (.t 8) (.t 7), none⟩],
   .seq 7 10,
   .cond (.t 9) 8 9,
   .skip,
   .exit 0,
   .seq 11 15,
   .block 1 12,
   .seq 13 14,
   .reg [⟨(some 10), .iadr 1 (.t 6) (.t 8), none⟩,
      ⟨(some 11), .load none (.t 10), none⟩,
      ⟨(some 4), .mv (.t 11), none⟩],
   .reg [⟨(some 12), .load none (.t 1), none⟩,
      ⟨(some 13), .bin .mul (.c (.int .i64 10)) (.t 12), none⟩,
      ⟨(some 14), .mv (.t 4), none⟩,
      ⟨(some 15), .bin .sub (.t 14) (.c (.int .u8 48)), none⟩,
      ⟨(some 16), .cvi .i64 (.t 15), none⟩,
      ⟨(some 17), .bin .add (.t 13) (.t 16), none⟩,
      ⟨none, .store 1 (.t 1) (.t 17), none⟩],
   .reg [⟨(some 18), .bin .add (.t 8) (.c (.int .i64 1)), none⟩,
      ⟨(some 8), .mv (.t 18), none⟩]]⟩

/-- luminaire/number.Check$1 -/
def F222 : FT := ⟨5, 0, [.tmp 1],
  [.seq 1 2,
   .reg [⟨(some 1), .mv (.c (.bool false)), none⟩],
   .seq 3 4,
   .reg [⟨(some 2), .fadr 0 (.t 0), none⟩,
      ⟨(some 3), .load none (.t 2), none⟩,
      ⟨(some 4), .call (.c (.fn (.func 223) [] [])) [(.t 3)], none⟩,
      ⟨(some 1), .mv (.t 4), none⟩],
   .ret]⟩

/-- luminaire/number.digits -/
def F223 : FT := ⟨10, 1, [.tmp 2],
  [.seq 1 2,
   .reg [⟨(some 2), .mv (.c (.bool false)), none⟩],
   .seq 3 4,
   .reg [⟨(some 3), .mv (.t 0), none⟩,
      ⟨(some 4), .bin .neq (.t 3) (.c (.str [])), none⟩,
      ⟨(some 5), .mv (.t 4), none⟩,
      ⟨(some 6), .mv (.t 0), some (5, true)⟩,
      ⟨(some 7), .call (.c (.fn (.func 231) [] [])) [(.t 6), (.c (.fn (.func 232) [] []))], some (5, true)⟩,
      ⟨(some 8), .un .not (.t 7), some (5, true)⟩,
      ⟨(some 9), .pick (.t 5) (.t 8) (.c (.bool false)), none⟩,
      ⟨(some 2), .mv (.t 9), none⟩],
   .ret]⟩

/-- luminaire/number.Check$2 -/
def F224 : FT := ⟨16, 0, [.tmp 1],
  [.seq 1 2,
   .reg [⟨(some 1), .mv (.c (.bool false)), none⟩],
   .seq 3 4,
   .reg [⟨(some 2), .fadr 2 (.t 0), none⟩,
      ⟨(some 3), .load none (.t 2), none⟩,
      ⟨(some 4), .un .not (.t 3), none⟩,
      ⟨(some 5), .mv (.t 4), none⟩,
      ⟨(some 6), .fadr 1 (.t 0), some (5, false)⟩,
      ⟨(some 7), .load none (.t 6), some (5, false)⟩,
      ⟨(some 8), .call (.c (.fn (.func 223) [] [])) [(.t 7)], some (5, false)⟩,
      ⟨(some 9), .mv (.t 8), some (5, false)⟩,
      ⟨(some 10), .fadr 1 (.t 0), some (9, true)⟩,
      ⟨(some 11), .load none (.t 10), some (9, true)⟩,
      ⟨(some 12), .call (.c (.fn (.func 225) [] [])) [(.t 11), (.c (.str [48]))], some (9, true)⟩,
      ⟨(some 13), .un .not (.t 12), some (9, true)⟩,
      ⟨(some 14), .pick (.t 9) (.t 13) (.c (.bool false)), some (5, false)⟩,
      ⟨(some 15), .pick (.t 5) (.c (.bool true)) (.t 14), none⟩,
      ⟨(some 1), .mv (.t 15), none⟩],
   .ret]⟩

/-- luminaire/number.Check$3 -/
def F226 : FT := ⟨12, 0, [.tmp 1],
  [.seq 1 2,
   .reg [⟨(some 1), .mv (.c (.bool false)), none⟩],
   .seq 3 4,
   .reg [⟨(some 2), .fadr 0 (.t 0), none⟩,
      ⟨(some 3), .load none (.t 2), none⟩,
      ⟨(some 4), .lens (.t 3), none⟩,
      ⟨(some 5), .bin .eql (.t 4) (.c (.int .i64 1)), none⟩,
      ⟨(some 6), .mv (.t 5), none⟩,
      ⟨(some 7), .fadr 0 (.t 0), some (6, false)⟩,
      ⟨(some 8), .load none (.t 7), some (6, false)⟩,
      ⟨(some 9), .ichr (.t 8) (.c (.int .i64 0)), some (6, false)⟩,
      ⟨(some 10), .bin .neq (.t 9) (.c (.int .u8 48)), some (6, false)⟩,
      ⟨(some 11), .pick (.t 6) (.c (.bool true)) (.t 10), none⟩,
      ⟨(some 1), .mv (.t 11), none⟩],
   .ret]⟩

/-- strings.IndexFunc -/
def F230 : FT := ⟨8, 2, [.tmp 4],
  [.seq 1 2,
   .reg [⟨(some 4), .mv (.c (.int .i64 0)), none⟩],
   .seq 3 4,
   .reg [⟨(some 5), .mv (.t 0), none⟩,
      ⟨(some 6), .mv (.t 1), none⟩,
      ⟨(some 7), .call (.c (.fn (.func 233) [] [])) [(.t 5), (.t 6), (.c (.bool true))], none⟩,
      ⟨(some 4), .mv (.t 7), none⟩],
   .ret]⟩

/-- strings.ContainsFunc -/
def F231 : FT := ⟨9, 2, [.tmp 4],
  [.seq 1 2,
   .reg [⟨(some 4), .mv (.c (.bool false)), none⟩],
   .seq 3 4,
   .reg [⟨(some 5), .mv (.t 0), none⟩,
      ⟨(some 6), .mv (.t 1), none⟩,
      ⟨(some 7), .call (.c (.fn (.func 230) [] [])) [(.t 5), (.t 6)], none⟩,
      ⟨(some 8), .bin .geq (.t 7) (.c (.int .i64 0)), none⟩,
      ⟨(some 4), .mv (.t 8), none⟩],
   .ret]⟩

theorem F169_ok : compFn Tryz.prog 169 = some F169 := by kernel_rfl
theorem F205_ok : compFn Tryz.prog 205 = some F205 := by kernel_rfl
theorem F206_ok : compFn Tryz.prog 206 = some F206 := by kernel_rfl
theorem F208_ok : compFn Tryz.prog 208 = some F208 := by kernel_rfl
theorem F219_ok : compFn Tryz.prog 219 = some F219 := by kernel_rfl
theorem F220_ok : compFn Tryz.prog 220 = some F220 := by kernel_rfl
theorem F222_ok : compFn Tryz.prog 222 = some F222 := by kernel_rfl
theorem F223_ok : compFn Tryz.prog 223 = some F223 := by kernel_rfl
theorem F224_ok : compFn Tryz.prog 224 = some F224 := by kernel_rfl
theorem F226_ok : compFn Tryz.prog 226 = some F226 := by kernel_rfl
theorem F230_ok : compFn Tryz.prog 230 = some F230 := by kernel_rfl
theorem F231_ok : compFn Tryz.prog 231 = some F231 := by kernel_rfl
end Go.Proofs.YtnondemehfkalaaGreatDoor

set_option maxRecDepth 10000
namespace Go.Proofs.YtnondemehfkalaaGreatDoor
open Go.Sha Go.RowKit

def othR (r : Nat) : Bool := decide (r < 48) || decide (57 < r)
theorem pred229 (w : World) : PredAt Tryz.prog 229 #[] encR othR w := fun W r _ => by
  unfold FnGives
  by_cases h1 : r < 48 <;> by_cases h2 : 57 < r
  all_goals
    have z1 : (r : Int) < 48 ↔ r < 48 := by omega
    have z2 : (57 : Int) < (r : Int) ↔ 57 < r := by omega
    go_enter Tryz.func229, Tryz.ntmps229
    go_wp2
    all_goals first | (exfalso; omega) | (go_ret; exact ⟨by simp [othR, h1, h2], 0, rfl⟩)
theorem pred232 (w : World) : PredAt Tryz.prog 232 #[] encR othR w := fun W r _ => by
  unfold FnGives
  by_cases h1 : r < 48 <;> by_cases h2 : 57 < r
  all_goals
    have z1 : (r : Int) < 48 ↔ r < 48 := by omega
    have z2 : (57 : Int) < (r : Int) ↔ 57 < r := by omega
    go_enter Tryz.func232, Tryz.ntmps232
    go_wp2
    all_goals first | (exfalso; omega) | (go_ret; exact ⟨by simp [othR, h1, h2], 0, rfl⟩)

theorem oth_from (s : ByteArray) : ∀ (f pos : Nat), s.size ≤ pos + f → (decide (Lib.idxFuncFrom othR true s f pos < 0)) = (s.data.toList.drop pos).all digB
  | 0, pos, h => by
    rw [List.drop_eq_nil_of_le (by rw [Array.length_toList]; exact h)]; rfl
  | f + 1, pos, h => by
    unfold Lib.idxFuncFrom
    by_cases hp : pos < s.size
    · have hp' : pos < s.data.toList.length := by rw [Array.length_toList]; exact hp
      have hb : s.data.toList[pos]'hp' = s[pos]'hp := rfl
      rw [if_pos hp, List.drop_eq_getElem_cons hp', List.all_cons, hb]
      by_cases ha : (s[pos]'hp).toNat < 128
      · rw [decode_ascii s pos hp ha]
        have ih := oth_from s f (pos + 1) (by omega)
        cases hd : digB (s[pos]'hp) with
        | true =>
          have : ¬ othR (s[pos]'hp).toNat = true := by
            simp only [digB, isDig, Bool.and_eq_true, decide_eq_true_eq] at hd
            simp only [othR, Bool.or_eq_true, decide_eq_true_eq]; omega
          rw [if_neg this, ih]; rfl
        | false =>
          have : othR (s[pos]'hp).toNat = true := by
            simp only [digB, isDig, Bool.and_eq_false_iff, decide_eq_false_iff_not] at hd
            simp only [othR, Bool.or_eq_true, decide_eq_true_eq]; omega
          rw [if_pos this]
          simp
      · obtain ⟨h1, h2⟩ := decode_high s pos hp (by omega)
        have : othR (Utf8.decode s pos).1 = true := by
          simp only [othR, Bool.or_eq_true, decide_eq_true_eq]; omega
        have hd : digB (s[pos]'hp) = false := by
          simp only [digB, isDig, Bool.and_eq_false_iff, decide_eq_false_iff_not]; omega
        rw [if_pos this, hd]
        simp
    · rw [if_neg hp, List.drop_eq_nil_of_le (by rw [Array.length_toList]; exact Nat.le_of_not_lt hp)]; rfl
theorem oth_idx (s : List UInt8) : decide (Lib.idxFunc othR true ⟨s.toArray⟩ < 0) = s.all digB := by
  have := oth_from ⟨s.toArray⟩ s.length 0 (by simp [ByteArray.size])
  simpa [Lib.idxFunc, ByteArray.size] using this

theorem Reps_three {w : World} {A : Abs} {vs : List Value} {a b c : V} (h : Reps w A vs [a, b, c]) : ∃ u v x, vs = [u, v, x] ∧ Rep w A u a ∧ Rep w A v b ∧ Rep w A x c := by
  obtain ⟨h1, h2⟩ := h
  match vs, h1 with
  | [u, v, x], _ => exact ⟨u, v, x, rfl, h2 0 u a rfl rfl, h2 1 v b rfl rfl, h2 2 x c rfl rfl⟩
theorem callable233 : Callable Tryz.prog 233 := ⟨_, Tryz.func233, by kernel_rfl, by kernel_rfl⟩
theorem idxf_v (g : Nat) (eg : ∀ args w, (callFunc g args).run Tryz.prog w = .ok (.enter g args) w) (hp : ∀ w, PredAt Tryz.prog g #[] encR othR w) (s : List UInt8) (st : St) :
    VRet Tryz.prog 233 [.str s, .fn (.func g) [] [], .bool true] st (.int .i64 (Lib.idxFunc othR true ⟨s.toArray⟩)) st := by
  refine VRet_of_below callable233 (fun w A vs hw ha => ?_)
  obtain ⟨u, v, x, rfl, h1, h2, h3⟩ := Reps_three ha
  have e1 := h1.str_inv
  subst e1
  cases h3
  cases h2 with
  | fn f vs us cs ds hl hk hr hs =>
    have := List.eq_nil_of_length_eq_zero hl
    have := List.eq_nil_of_length_eq_zero hk
    subst_vars
    refine (Tryz.strings_indexFunc g #[] eg othR true ⟨s.toArray⟩ w (hp w)).mono fun e w' ⟨he, hb⟩ => ?_
    subst he
    exact ⟨_, rfl, fun w' A' => .int _ _, hb⟩
theorem eg229 : ∀ args w, (callFunc 229 args).run Tryz.prog w = .ok (.enter 229 args) w := enters_of Tryz.func229 (by kernel_rfl) rfl
theorem eg232 : ∀ args w, (callFunc 232 args).run Tryz.prog w = .ok (.enter 232 args) w := enters_of Tryz.func232 (by kernel_rfl) rfl
theorem indexfunc_v (s : List UInt8) (st : St) : VRet Tryz.prog 230 [.str s, .fn (.func 229) [] []] st (.int .i64 (Lib.idxFunc othR true ⟨s.toArray⟩)) st := by
  refine VCalls_of F230_ok mixed (Nat.le_of_ble_eq_true rfl) (fun hwf => ?_)
  (repeat' first | ((first | refine go rfl rfl ?_ | refine Cl.by_ (by (first | refine idxf_v 229 eg229 pred229 _ _)) ?_ | (refine Fk.by_ ?_ ?_ <;> intro hc <;> try simp only [hc]) | refine storeK_eq rfl ?_ | with_reducible refine And.intro ?_ ?_ | fail) <;> try simp only [push_cast, reduceIte, Nat.reduceEqDiff, reduceCtorEq, Nat.reduceAdd, Nat.reduceLeDiff, Nat.reduceBEq]))
  all_goals refine finB (hwf) (by simp only [F230, push_cast, reduceIte, Nat.reduceEqDiff, reduceCtorEq, Nat.reduceAdd, Nat.reduceLeDiff, Nat.reduceBEq]; exact rfl) (by first | exact .inl rfl | (right; simp only [F230, push_cast, reduceIte, Nat.reduceEqDiff, reduceCtorEq, Nat.reduceAdd, Nat.reduceLeDiff, Nat.reduceBEq]; try rfl)) (by first | rfl | assumption) (by simp) (by simp) (by (repeat first | exact (hwf).subm | exact (hwf).suba | refine Sub.drop (by simp) ?_)) (by (repeat first | exact (hwf).subm | exact (hwf).suba | refine Sub.drop (by simp) ?_)) (by (repeat first | exact (hwf).subx | refine ExSub.dropt (by simp) ?_ | refine ExSub.drop (by simp) ?_))
theorem indexfunc2_v (s : List UInt8) (st : St) : VRet Tryz.prog 230 [.str s, .fn (.func 232) [] []] st (.int .i64 (Lib.idxFunc othR true ⟨s.toArray⟩)) st := by
  refine VCalls_of F230_ok mixed (Nat.le_of_ble_eq_true rfl) (fun hwf => ?_)
  (repeat' first | ((first | refine go rfl rfl ?_ | refine Cl.by_ (by (first | refine idxf_v 232 eg232 pred232 _ _)) ?_ | (refine Fk.by_ ?_ ?_ <;> intro hc <;> try simp only [hc]) | refine storeK_eq rfl ?_ | with_reducible refine And.intro ?_ ?_ | fail) <;> try simp only [push_cast, reduceIte, Nat.reduceEqDiff, reduceCtorEq, Nat.reduceAdd, Nat.reduceLeDiff, Nat.reduceBEq]))
  all_goals refine finB (hwf) (by simp only [F230, push_cast, reduceIte, Nat.reduceEqDiff, reduceCtorEq, Nat.reduceAdd, Nat.reduceLeDiff, Nat.reduceBEq]; exact rfl) (by first | exact .inl rfl | (right; simp only [F230, push_cast, reduceIte, Nat.reduceEqDiff, reduceCtorEq, Nat.reduceAdd, Nat.reduceLeDiff, Nat.reduceBEq]; try rfl)) (by first | rfl | assumption) (by simp) (by simp) (by (repeat first | exact (hwf).subm | exact (hwf).suba | refine Sub.drop (by simp) ?_)) (by (repeat first | exact (hwf).subm | exact (hwf).suba | refine Sub.drop (by simp) ?_)) (by (repeat first | exact (hwf).subx | refine ExSub.dropt (by simp) ?_ | refine ExSub.drop (by simp) ?_))
theorem ldigits_v (s : List UInt8) (st : St) : VRet Tryz.prog 219 [.str s] st (.bool (dig3 s)) st := by
  have ho := oth_idx s
  have hR : dig3 s = ((decide ((1 : Int) ≤ (s.length : Int)) && decide ((s.length : Int) ≤ 3)) && decide (Lib.idxFunc othR true ⟨s.toArray⟩ < 0)) := by
    rw [ho]; unfold dig3
    congr 1; congr 1
    · rw [decide_eq_decide]; omega
    · rw [decide_eq_decide]; omega
  refine VCalls_of F219_ok mixed (Nat.le_of_ble_eq_true rfl) (fun hwf => ?_)
  (repeat' first | ((first | refine go rfl rfl ?_ | refine Cl.by_ (by (first | refine indexfunc_v _ _)) ?_ | (refine Fk.by_ ?_ ?_ <;> intro hc <;> try simp only [hc]) | refine storeK_eq rfl ?_ | with_reducible refine And.intro ?_ ?_ | fail) <;> try simp only [push_cast, reduceIte, Nat.reduceEqDiff, reduceCtorEq, Nat.reduceAdd, Nat.reduceLeDiff, Nat.reduceBEq]))
  all_goals exact finRet0 hwf rfl (by rw [hR]; simp [resOne, *]) rfl
theorem containsfunc_v (s : List UInt8) (st : St) : VRet Tryz.prog 231 [.str s, .fn (.func 232) [] []] st (.bool (decide (0 ≤ Lib.idxFunc othR true ⟨s.toArray⟩))) st := by
  refine VCalls_of F231_ok mixed (Nat.le_of_ble_eq_true rfl) (fun hwf => ?_)
  (repeat' first | ((first | refine go rfl rfl ?_ | refine Cl.by_ (by (first | refine indexfunc2_v _ _)) ?_ | (refine Fk.by_ ?_ ?_ <;> intro hc <;> try simp only [hc]) | refine storeK_eq rfl ?_ | with_reducible refine And.intro ?_ ?_ | fail) <;> try simp only [push_cast, reduceIte, Nat.reduceEqDiff, reduceCtorEq, Nat.reduceAdd, Nat.reduceLeDiff, Nat.reduceBEq]))
  all_goals refine finB (hwf) (by simp only [F231, push_cast, reduceIte, Nat.reduceEqDiff, reduceCtorEq, Nat.reduceAdd, Nat.reduceLeDiff, Nat.reduceBEq]; exact rfl) (by first | exact .inl rfl | (right; simp only [F231, push_cast, reduceIte, Nat.reduceEqDiff, reduceCtorEq, Nat.reduceAdd, Nat.reduceLeDiff, Nat.reduceBEq]; try rfl)) (by first | rfl | assumption) (by simp) (by simp) (by (repeat first | exact (hwf).subm | exact (hwf).suba | refine Sub.drop (by simp) ?_)) (by (repeat first | exact (hwf).subm | exact (hwf).suba | refine Sub.drop (by simp) ?_)) (by (repeat first | exact (hwf).subx | refine ExSub.dropt (by simp) ?_ | refine ExSub.drop (by simp) ?_))
theorem ndigits_v (s : List UInt8) (st : St) : VRet Tryz.prog 223 [.str s] st (.bool (digs1 s)) st := by
  have ho := oth_idx s
  have hR : digs1 s = ((s != []) && !decide (0 ≤ Lib.idxFunc othR true ⟨s.toArray⟩)) := by
    unfold digs1
    rw [← ho]; congr 1
    rw [Bool.eq_iff_iff]; simp
  refine VCalls_of F223_ok mixed (Nat.le_of_ble_eq_true rfl) (fun hwf => ?_)
  (repeat' first | ((first | refine go rfl rfl ?_ | refine Cl.by_ (by (first | refine containsfunc_v _ _)) ?_ | (refine Fk.by_ ?_ ?_ <;> intro hc <;> try simp only [hc]) | refine storeK_eq rfl ?_ | with_reducible refine And.intro ?_ ?_ | fail) <;> try simp only [push_cast, reduceIte, Nat.reduceEqDiff, reduceCtorEq, Nat.reduceAdd, Nat.reduceLeDiff, Nat.reduceBEq]))
  all_goals exact finRet0 hwf rfl (by rw [hR]; simp [resOne, *]) rfl
end Go.Proofs.YtnondemehfkalaaGreatDoor

set_option maxRecDepth 10000
namespace Go.Proofs.YtnondemehfkalaaGreatDoor
open Go.Sha Go.RowKit

def foldN (n : Nat) (s : List UInt8) : Nat := s.foldl (fun n b => 10 * n + (b.toNat - 48)) n
theorem foldN_snoc {n : Nat} {s : List UInt8} {b : UInt8} : foldN n (s ++ [b]) = 10 * foldN n s + (b.toNat - 48) := by simp [foldN]
theorem foldN_app {n : Nat} {s t : List UInt8} : foldN n (s ++ t) = foldN (foldN n s) t := by simp [foldN]
theorem foldN_le : ∀ (s : List UInt8) (n m : Nat), s.all digB = true → n ≤ m → foldN n s ≤ 10 ^ s.length * (m + 1) - 1
  | [], n, m, _, h => by simp [foldN]; omega
  | b :: s, n, m, h, hn => by
    simp only [List.all_cons, Bool.and_eq_true] at h
    have hb : 48 ≤ b.toNat ∧ b.toNat ≤ 57 := by have := h.1; simp only [digB, isDig, Bool.and_eq_true, decide_eq_true_eq] at this; omega
    have ih := foldN_le s (10 * n + (b.toNat - 48)) (10 * m + 9) h.2 (by omega)
    have e : foldN n (b :: s) = foldN (10 * n + (b.toNat - 48)) s := rfl
    rw [e, List.length_cons, Nat.pow_succ]
    have : 10 ^ s.length * (10 * m + 9 + 1) = 10 ^ s.length * 10 * (m + 1) := by rw [Nat.mul_assoc]; congr 1
    omega
theorem fold_v (s : List UInt8) (st : St) (id n : Nat) (h : Sha.look st.mem id = some [.int .i64 n]) (hd : s.all digB = true) (hl : s.length ≤ 3) (hn : n ≤ 999) :
    VRet Tryz.prog 220 [.str s, .ptr id 0] st (.tup []) ⟨st.nx, updM st.mem id [.int .i64 (foldN n s)], st.arr, st.x⟩ := by
  refine VCalls_of F220_ok mixed (Nat.le_of_ble_eq_true rfl) (fun hwf => ?_)
  have hid := (hwf.mem _ _ h).1
  have hlm : (s.map bV).length = s.length := by simp
  have hmx : s.length ≤ maxLen := by unfold maxLen; omega
  have hbV : ∀ m, V.bdL m (s.map bV) = true := fun m => bdL_map fun _ _ => rfl
  (repeat' first | ((first | refine go rfl rfl ?_ | (refine Fk.by_ ?_ ?_ <;> intro hc <;> try simp only [hc]) | refine storeK_eq rfl ?_ | with_reducible refine And.intro ?_ ?_ | fail) <;> try simp only [hlm, hmx, push_cast, reduceIte, Nat.reduceEqDiff, reduceCtorEq, Nat.reduceAdd, Nat.reduceLeDiff, Nat.reduceBEq]))
  have hW := hwf.put (id := id) (cs := [.int .i64 (foldN n s)]) rfl
  refine WT_loop rfl (fun m e z => ∃ j : Nat, m = s.length - j ∧ j ≤ s.length ∧ e = [(8, .int .i64 (j : Int)), (7, .int .i64 (s.length : Int)), (6, .osl st.nx s.length), (0, .str s), (1, .ptr id 0)] ∧ z = ⟨st.nx + 1, updM st.mem id [.int .i64 (foldN n (s.take j))], (st.nx, ⟨5, 1, s.map bV, true, true⟩) :: st.arr, st.x⟩) (st.nx + 1) (Nat.le_refl _) (by rintro _ _ _ ⟨j, _, _, _, rfl⟩; rfl)
    ⟨_, _, _, ⟨0, rfl, Nat.zero_le _, rfl, by rw [updM_self (by simpa [foldN] using h)]⟩, (by repeat first | exact .nil | refine .cons (by first | rfl | (simp [V.bd, V.bdL]; try first | omega | assumption)) (by first | rfl | simp only [push_cast, reduceIte, Nat.reduceEqDiff, reduceCtorEq, Nat.reduceAdd, Nat.reduceLeDiff, Nat.reduceBEq]) ?_), .refl (hwf.newA (hbV _))⟩ ?_
  rintro m e z ⟨j, rfl, hj, rfl, rfl⟩
  rcases Nat.lt_or_ge j s.length with hlt | hge
  · obtain ⟨b, hb⟩ : ∃ b, s[j]? = some b := ⟨_, List.getElem?_eq_getElem hlt⟩
    obtain ⟨q1, q2⟩ := List.getElem?_eq_some_iff.1 hb
    have hdb : 48 ≤ b.toNat ∧ b.toNat ≤ 57 := by
      have := List.all_eq_true.1 hd b (List.mem_of_getElem? hb)
      simp only [digB, isDig, Bool.and_eq_true, decide_eq_true_eq] at this; omega
    have hle := foldN_le (s.take j) n 999 (take_all hd) hn
    have hp : 10 ^ (s.take j).length * (999 + 1) - 1 ≤ 999999 := by
      have : (s.take j).length ≤ 3 := by rw [List.length_take]; omega
      have := Nat.pow_le_pow_right (n := 10) (by omega) this
      have := Nat.mul_le_mul_right 1000 this
      omega
    have h2 : decide ((j : Int) < (s.length : Int)) = true := decide_eq_true (by omega)
    have hwr : IntKind.i64.wrap ((j : Int) + 1) = (j : Int) + 1 := wrap64 (by omega) (by omega)
    have w1 : IntKind.u8.wrap ((b.toNat : Int) - 48) = (b.toNat : Int) - 48 := by
      show ((b.toNat : Int) - 48) % 256 = _
      omega
    have w2 : IntKind.i64.wrap ((b.toNat : Int) - 48) = (b.toNat : Int) - 48 := wrap64 (by omega) (by omega)
    have w3 : IntKind.i64.wrap (10 * (foldN n (s.take j) : Int)) = 10 * (foldN n (s.take j) : Int) := wrap64 (by omega) (by omega)
    have w4 : IntKind.i64.wrap (10 * (foldN n (s.take j) : Int) + ((b.toNat : Int) - 48)) = (foldN n (s.take (j + 1)) : Int) := by
      rw [wrap64 (by omega) (by omega), List.take_add_one, hb]
      simp only [Option.toList]
      rw [foldN_snoc]; omega
    have e1 : (st.nx = id) = False := eq_false (by omega)
    (repeat' first | ((first | refine go rfl rfl ?_ | (refine Fk.by_ ?_ ?_ <;> intro hc <;> try simp only [hc]) | refine storeK_eq rfl ?_ | with_reducible refine And.intro ?_ ?_ | fail) <;> try simp only [h2, hwr, hb, hlt, hlm, look_updM, updM_updM, h, w1, w2, w3, w4, e1, push_cast, reduceIte, Nat.reduceEqDiff, reduceCtorEq, Nat.reduceAdd, Nat.reduceLeDiff, Nat.reduceBEq]))
    exact ⟨_, _, _, by omega, ⟨j + 1, rfl, by omega, rfl, rfl⟩, (by repeat first | exact .nil | refine .cons (by first | rfl | (simp [V.bd, V.bdL]; try first | omega | assumption)) (by first | rfl | simp only [push_cast, reduceIte, Nat.reduceEqDiff, reduceCtorEq, Nat.reduceAdd, Nat.reduceLeDiff, Nat.reduceBEq]) ?_), .refl ((hwf.put (cs := [.int .i64 (foldN n (s.take (j + 1)))]) rfl).newA (hbV _))⟩
  · have h2 : decide ((j : Int) < (s.length : Int)) = false := decide_eq_false (by omega)
    have ej : j = s.length := by omega
    subst ej
    rw [List.take_length]
    (repeat' first | ((first | refine go rfl rfl ?_ | (refine Fk.by_ ?_ ?_ <;> intro hc <;> try simp only [hc]) | refine storeK_eq rfl ?_ | with_reducible refine And.intro ?_ ?_ | fail) <;> try simp only [h2, push_cast, reduceIte, Nat.reduceEqDiff, reduceCtorEq, Nat.reduceAdd, Nat.reduceLeDiff, Nat.reduceBEq]))
    refine finB (hW) (by simp only [F220, push_cast, reduceIte, Nat.reduceEqDiff, reduceCtorEq, Nat.reduceAdd, Nat.reduceLeDiff, Nat.reduceBEq]; exact rfl) (by first | exact .inl rfl | (right; simp only [F220, push_cast, reduceIte, Nat.reduceEqDiff, reduceCtorEq, Nat.reduceAdd, Nat.reduceLeDiff, Nat.reduceBEq]; try rfl)) (by first | rfl | assumption) (by simp) (by simp) (by (repeat first | exact (hW).subm | exact (hW).suba | refine Sub.drop (by simp) ?_)) (by (repeat first | exact (hW).subm | exact (hW).suba | refine Sub.drop (by simp) ?_)) (by (repeat first | exact (hW).subx | refine ExSub.dropt (by simp) ?_ | refine ExSub.drop (by simp) ?_))
theorem numD_app {s t : List UInt8} : numD (s ++ t) = foldN (foldN 0 s) t := by rw [← foldN_app]; rfl
theorem dig3_ok {s : List UInt8} (h : dig3 s = true) : s.length ≤ 3 ∧ s.all digB = true := by
  simp only [dig3, Bool.and_eq_true, decide_eq_true_eq] at h; exact ⟨h.1.2, h.2⟩
def thBad (s : List UInt8) : Bool := !(dig3 (cutW 46 s)) || (decide (1 < ((cutW 46 s).length : Int)) && (cutW 46 s)[0]? == some 48) || (cutP 46 s && !(dig3 (cutR 46 s)))
theorem thouN_eq (s : List UInt8) : thouN s = if thBad s = true then none else some (numD (cutW 46 s ++ (cutR 46 s ++ [48, 48, 48]).take 3)) := by
  unfold thouN thBad
  have : decide (1 < ((cutW 46 s).length : Int)) = decide (1 < (cutW 46 s).length) := by rw [decide_eq_decide]; omega
  rw [this]
theorem thou_v (s : List UInt8) (st : St) (hs : s.length < 140737488355328) : VRet Tryz.prog 205 [.str s] st (.tup [.int .i64 ((thouN s).getD 0), .bool (thouN s).isSome]) st := by
  have h1 : (cutW 46 s).length ≤ s.length := by unfold cutW; rw [List.length_take]; omega
  have h2 : (cutR 46 s).length ≤ s.length := by unfold cutR; rw [List.length_drop]; omega
  have hl4 : (cutR 46 s).length ≤ 9223372036854775804 := by omega
  have hok : thBad s = false → ((cutW 46 s).length ≤ 3 ∧ (cutW 46 s).all digB = true) ∧ (cutR 46 s).all digB = true := fun h => by
    simp only [thBad, Bool.or_eq_false_iff, Bool.not_eq_false'] at h
    refine ⟨dig3_ok h.1.1, ?_⟩
    cases hp : cutP 46 s with
    | false => rw [cutR_none hp]; rfl
    | true =>
      have := h.2
      rw [hp] at this
      simp only [Bool.true_and, Bool.not_eq_false'] at this
      exact (dig3_ok this).2
  have hv1 : thBad s = false → ∀ (st' : St) (id : Nat), Sha.look st'.mem id = some [.int .i64 0] → VRet Tryz.prog 220 [.str (cutW 46 s), .ptr id 0] st' (.tup []) ⟨st'.nx, updM st'.mem id [.int .i64 (foldN 0 (cutW 46 s))], st'.arr, st'.x⟩ := fun h st' id hm => fold_v _ _ _ 0 hm (hok h).1.2 (hok h).1.1 (by omega)
  have hT : ((cutR 46 s ++ [48, 48, 48]).take 3).length ≤ 3 := by rw [List.length_take]; omega
  have hv2 : thBad s = false → ∀ (st' : St) (id : Nat), Sha.look st'.mem id = some [.int .i64 (foldN 0 (cutW 46 s))] → VRet Tryz.prog 220 [.str ((cutR 46 s ++ [48, 48, 48]).take 3), .ptr id 0] st' (.tup []) ⟨st'.nx, updM st'.mem id [.int .i64 (numD (cutW 46 s ++ (cutR 46 s ++ [48, 48, 48]).take 3))], st'.arr, st'.x⟩ := fun h st' id hm => by
    rw [numD_app]
    have h3 : (cutR 46 s ++ [48, 48, 48]).all digB = true := by rw [List.all_append, (hok h).2]; rfl
    have hb := foldN_le (cutW 46 s) 0 0 (hok h).1.2 (by omega)
    have hp := Nat.pow_le_pow_right (n := 10) (by omega) (hok h).1.1
    exact fold_v _ _ _ _ hm (take_all h3) hT (by omega)
  have hT2 := thouN_eq s
  have hcut := cut_v s 46 st (by omega)
  refine VCalls_of F205_ok mixed (Nat.le_of_ble_eq_true rfl) (fun hwf => ?_)
  cases hb : thBad s with
  | true =>
    rw [hb, if_pos rfl] at hT2
    rw [hT2]
    unfold thBad at hb
    clear hv1 hv2 hT hT2 hok
    generalize cutW 46 s = W at *
    cases W with
    | nil =>
      have hd0 : dig3 [] = false := rfl
      (repeat' first | ((first | refine go rfl rfl ?_ | refine Cl.by_ (by (first | refine hcut | refine ldigits_v _ _)) ?_ | (refine Fk.by_ ?_ ?_ <;> intro hc <;> try simp only [hc]) | refine storeK_eq rfl ?_ | with_reducible refine And.intro ?_ ?_ | fail) <;> try simp only [hd0, push_cast, reduceIte, Nat.reduceEqDiff, reduceCtorEq, Nat.reduceAdd, Nat.reduceLeDiff, Nat.reduceBEq]))
      all_goals exact finRet0 hwf rfl rfl rfl
    | cons b t =>
      have h0' : (((b.toNat : Int)) == 48) = ((b :: t)[0]? == some 48) := by
        rw [Bool.eq_iff_iff]; simp only [beq_iff_eq, List.getElem?_cons_zero, Option.some.injEq]
        constructor
        · intro h; exact UInt8.toNat_inj.1 (by have : (48 : UInt8).toNat = 48 := rfl; omega)
        · rintro rfl; rfl
      have hl : decide (1 < ((b :: t).length : Int)) = decide (1 < (t.length : Int) + 1) := by rw [List.length_cons]; norm_cast
      rw [hl] at hb
      simp only [List.getElem?_cons_zero] at hb h0'
      (repeat' first | ((first | refine go rfl rfl ?_ | refine Cl.by_ (by (first | refine hcut | refine ldigits_v _ _)) ?_ | (refine Fk.by_ ?_ ?_ <;> intro hc <;> try simp only [hc]) | refine storeK_eq rfl ?_ | with_reducible refine And.intro ?_ ?_ | fail) <;> try simp only [h0', push_cast, reduceIte, Nat.reduceEqDiff, reduceCtorEq, Nat.reduceAdd, Nat.reduceLeDiff, Nat.reduceBEq]))
      all_goals first | exact finRet0 hwf rfl rfl rfl | (exfalso; simp [*] at hb; done)
  | false =>
    rw [hb, if_neg Bool.false_ne_true] at hT2
    rw [hT2]
    have hv1' := hv1 hb
    have hv2' := hv2 hb
    unfold thBad at hb
    clear hv1 hv2 hT hT2 hok
    generalize cutW 46 s = W at *
    cases W with
    | nil => simp [dig3] at hb
    | cons b t =>
      have h0' : (((b.toNat : Int)) == 48) = ((b :: t)[0]? == some 48) := by
        rw [Bool.eq_iff_iff]; simp only [beq_iff_eq, List.getElem?_cons_zero, Option.some.injEq]
        constructor
        · intro h; exact UInt8.toNat_inj.1 (by have : (48 : UInt8).toNat = 48 := rfl; omega)
        · rintro rfl; rfl
      have hl : decide (1 < ((b :: t).length : Int)) = decide (1 < (t.length : Int) + 1) := by rw [List.length_cons]; norm_cast
      rw [hl] at hb
      simp only [List.getElem?_cons_zero] at hb h0'
      (repeat' first | ((first | refine go rfl rfl ?_ | refine Cl.by_ (by (first | refine hcut | refine ldigits_v _ _ | refine hv1' _ _ (by simp [Sha.look]) | refine hv2' _ _ (by simp [Sha.look, look_updM, updM]))) ?_ | (refine Fk.by_ ?_ ?_ <;> intro hc <;> try simp only [hc]) | refine storeK_eq rfl ?_ | with_reducible refine And.intro ?_ ?_ | fail) <;> try simp only [hl4, sl3, h0', push_cast, reduceIte, Nat.reduceEqDiff, reduceCtorEq, Nat.reduceAdd, Nat.reduceLeDiff, Nat.reduceBEq]))
      all_goals first | (exfalso; simp [*] at hb; done) | refine finB (hwf) (by simp only [F205, push_cast, reduceIte, Nat.reduceEqDiff, reduceCtorEq, Nat.reduceAdd, Nat.reduceLeDiff, Nat.reduceBEq]; exact rfl) (by first | exact .inl rfl | (right; simp only [F205, push_cast, reduceIte, Nat.reduceEqDiff, reduceCtorEq, Nat.reduceAdd, Nat.reduceLeDiff, Nat.reduceBEq]; try rfl)) (by first | rfl | assumption) (by simp) (by simp) (by (repeat first | exact (hwf).subm | exact (hwf).suba | refine Sub.drop (by simp) ?_)) (by (repeat first | exact (hwf).subm | exact (hwf).suba | refine Sub.drop (by simp) ?_)) (by (repeat first | exact (hwf).subx | refine ExSub.dropt (by simp) ?_ | refine ExSub.drop (by simp) ?_))
theorem of_v (n : Nat) (st : St) (hn : n < 1000000) : VRet Tryz.prog 206 [.int .i64 n] st (.int .i64 (ofN n)) st := by
  have w1 : IntKind.i64.wrap (65535 * (n : Int)) = 65535 * (n : Int) := wrap64 (by omega) (by omega)
  have w2 : IntKind.i64.wrap (65535 * (n : Int) + 50000) = 65535 * (n : Int) + 50000 := wrap64 (by omega) (by omega)
  have w3 : IntKind.i64.wrap ((65535 * (n : Int) + 50000).tdiv 100000) = ofN n := by
    have : (65535 * (n : Int) + 50000).tdiv 100000 = ((ofN n : Nat) : Int) := by
      rw [Int.tdiv_eq_ediv_of_nonneg (by omega)]; unfold ofN; omega
    rw [this]
    exact wrap64 (by unfold ofN; omega) (by unfold ofN; omega)
  refine VCalls_of F206_ok mixed (Nat.le_of_ble_eq_true rfl) (fun hwf => ?_)
  (repeat' first | ((first | refine go rfl rfl ?_ | (refine Fk.by_ ?_ ?_ <;> intro hc <;> try simp only [hc]) | refine storeK_eq rfl ?_ | with_reducible refine And.intro ?_ ?_ | fail) <;> try simp only [w1, w2, w3, push_cast, reduceIte, Nat.reduceEqDiff, reduceCtorEq, Nat.reduceAdd, Nat.reduceLeDiff, Nat.reduceBEq]))
  all_goals first | refine finB (hwf) (by simp only [F206, push_cast, reduceIte, Nat.reduceEqDiff, reduceCtorEq, Nat.reduceAdd, Nat.reduceLeDiff, Nat.reduceBEq]; exact rfl) (by first | exact .inl rfl | (right; simp only [F206, push_cast, reduceIte, Nat.reduceEqDiff, reduceCtorEq, Nat.reduceAdd, Nat.reduceLeDiff, Nat.reduceBEq]; try rfl)) (by first | rfl | assumption) (by simp) (by simp) (by (repeat first | exact (hwf).subm | exact (hwf).suba | refine Sub.drop (by simp) ?_)) (by (repeat first | exact (hwf).subm | exact (hwf).suba | refine Sub.drop (by simp) ?_)) (by (repeat first | exact (hwf).subx | refine ExSub.dropt (by simp) ?_ | refine ExSub.drop (by simp) ?_))
theorem thouN_lt {s : List UInt8} {n : Nat} (h : thouN s = some n) : n < 1000000 := by
  rw [thouN_eq] at h
  split at h
  · cases h
  · rename_i hb
    rw [Bool.not_eq_true] at hb
    simp only [thBad, Bool.or_eq_false_iff, Bool.not_eq_false'] at hb
    obtain ⟨q1, q2⟩ := dig3_ok hb.1.1
    have hr : (cutR 46 s).all digB = true := by
      cases hp : cutP 46 s with
      | false => rw [cutR_none hp]; rfl
      | true =>
        have := hb.2
        rw [hp] at this
        simp only [Bool.true_and, Bool.not_eq_false'] at this
        exact (dig3_ok this).2
    have h3 : (cutR 46 s ++ [48, 48, 48]).all digB = true := by rw [List.all_append, hr]; rfl
    have hb := foldN_le (cutW 46 s ++ (cutR 46 s ++ [48, 48, 48]).take 3) 0 0 (by rw [List.all_append, q2, take_all h3]; rfl) (by omega)
    have hlen : (cutW 46 s ++ (cutR 46 s ++ [48, 48, 48]).take 3).length ≤ 6 := by rw [List.length_append, List.length_take]; omega
    have := Nat.pow_le_pow_right (n := 10) (by omega) hlen
    have e : foldN 0 (cutW 46 s ++ (cutR 46 s ++ [48, 48, 48]).take 3) = n := by injection h
    omega
theorem percent_v (s : List UInt8) (st : St) (hs : s.length < 140737488355328) : VRet Tryz.prog 169 [.str s] st (.tup [.int .i64 (pctN s).1, .int .i64 (pctN s).2]) st := by
  have ht := thou_v s st hs
  refine VCalls_of F169_ok mixed (Nat.le_of_ble_eq_true rfl) (fun hwf => ?_)
  cases hN : thouN s with
  | none =>
    rw [hN] at ht
    (repeat' first | ((first | refine go rfl rfl ?_ | refine Cl.by_ (by (first | refine ht)) ?_ | (refine Fk.by_ ?_ ?_ <;> intro hc <;> try simp only [hc]) | refine storeK_eq rfl ?_ | with_reducible refine And.intro ?_ ?_ | fail) <;> try simp only [push_cast, reduceIte, Nat.reduceEqDiff, reduceCtorEq, Nat.reduceAdd, Nat.reduceLeDiff, Nat.reduceBEq]))
    all_goals exact finRet0 hwf rfl (by simp [resOne, pctN, *]) rfl
  | some n =>
    have hlt := thouN_lt hN
    rw [hN] at ht
    have ho := of_v n st hlt
    (repeat' first | ((first | refine go rfl rfl ?_ | refine Cl.by_ (by (first | refine ht | refine ho)) ?_ | (refine Fk.by_ ?_ ?_ <;> intro hc <;> try simp only [hc]) | refine storeK_eq rfl ?_ | with_reducible refine And.intro ?_ ?_ | fail) <;> try simp only [Option.getD_some, push_cast, reduceIte, Nat.reduceEqDiff, reduceCtorEq, Nat.reduceAdd, Nat.reduceLeDiff, Nat.reduceBEq]))
    all_goals exact finRet0 hwf rfl (by simp [resOne, pctN, *]) rfl
end Go.Proofs.YtnondemehfkalaaGreatDoor

set_option maxRecDepth 10000
namespace Go.Proofs.YtnondemehfkalaaGreatDoor
open Go.Sha Go.RowKit

theorem callable225 : Callable Tryz.prog 225 := ⟨_, Tryz.func225, by kernel_rfl, by kernel_rfl⟩
theorem suf_v (s p : List UInt8) (st : St) (hs : s.length < 140737488355328) : VRet Tryz.prog 225 [.str s, .str p] st (.bool (Lib.hasSuffix s p)) st := by
  refine VRet_of_below callable225 (fun w A vs hw ha => ?_)
  obtain ⟨u, v, rfl, h1, h2⟩ := ha.two
  have e1 := h1.str_inv
  have e2 := h2.str_inv
  subst e1; subst e2
  refine (Tryz.strings_HasSuffix ⟨s.toArray⟩ ⟨p.toArray⟩ w (by simp [ByteArray.size]; omega)).mono fun e w' ⟨he, hb⟩ => ?_
  subst he; subst hb
  exact ⟨_, rfl, fun w' A' => .bool _, Below.refl _ _⟩
theorem suf_last (s : List UInt8) (c : UInt8) : Lib.hasSuffix s [c] = (s.getLast? == some c) := by
  unfold Lib.hasSuffix
  rcases List.eq_nil_or_concat s with rfl | ⟨t, b, rfl⟩
  · rfl
  · rw [Bool.eq_iff_iff]
    simp only [List.isSuffixOf_iff_suffix, List.concat_eq_append, List.getLast?_append, List.getLast?_singleton, Option.some_or, beq_iff_eq, Option.some.injEq]
    constructor
    · rintro ⟨l, h⟩
      exact ((List.append_inj' h rfl).2 |> List.cons.inj |>.1).symm
    · rintro rfl; exact ⟨t, rfl⟩
variable {W R : List UInt8} {P : Bool}
theorem chk1_v (st : St) (id : Nat) (h : Sha.look st.mem id = some [.str W, .str R, .bool P]) : VRet Tryz.prog 222 [.ptr id 0] st (.bool (digs1 W)) st := by
  refine VCalls_of F222_ok mixed (Nat.le_of_ble_eq_true rfl) (fun hwf => ?_)
  (repeat' first | ((first | refine go rfl rfl ?_ | refine Cl.by_ (by (first | refine ndigits_v _ _)) ?_ | (refine Fk.by_ ?_ ?_ <;> intro hc <;> try simp only [hc]) | refine storeK_eq rfl ?_ | with_reducible refine And.intro ?_ ?_ | fail) <;> try simp only [h, push_cast, reduceIte, Nat.reduceEqDiff, reduceCtorEq, Nat.reduceAdd, Nat.reduceLeDiff, Nat.reduceBEq]))
  all_goals refine finB (hwf) (by simp only [F222, push_cast, reduceIte, Nat.reduceEqDiff, reduceCtorEq, Nat.reduceAdd, Nat.reduceLeDiff, Nat.reduceBEq]; exact rfl) (by first | exact .inl rfl | (right; simp only [F222, push_cast, reduceIte, Nat.reduceEqDiff, reduceCtorEq, Nat.reduceAdd, Nat.reduceLeDiff, Nat.reduceBEq]; try rfl)) (by first | rfl | assumption) (by simp) (by simp) (by (repeat first | exact (hwf).subm | exact (hwf).suba | refine Sub.drop (by simp) ?_)) (by (repeat first | exact (hwf).subm | exact (hwf).suba | refine Sub.drop (by simp) ?_)) (by (repeat first | exact (hwf).subx | refine ExSub.dropt (by simp) ?_ | refine ExSub.drop (by simp) ?_))
theorem chk2_v (st : St) (id : Nat) (h : Sha.look st.mem id = some [.str W, .str R, .bool P]) (hR : R.length < 140737488355328) : VRet Tryz.prog 224 [.ptr id 0] st (.bool (!P || (digs1 R && !(R.getLast? == some 48)))) st := by
  refine VCalls_of F224_ok mixed (Nat.le_of_ble_eq_true rfl) (fun hwf => ?_)
  (repeat' first | ((first | refine go rfl rfl ?_ | refine Cl.by_ (by (first | refine ndigits_v _ _ | refine suf_v _ _ _ hR)) ?_ | (refine Fk.by_ ?_ ?_ <;> intro hc <;> try simp only [hc]) | refine storeK_eq rfl ?_ | with_reducible refine And.intro ?_ ?_ | fail) <;> try simp only [h, suf_last, push_cast, reduceIte, Nat.reduceEqDiff, reduceCtorEq, Nat.reduceAdd, Nat.reduceLeDiff, Nat.reduceBEq]))
  all_goals exact finRet0 hwf rfl (by simp [resOne, *]) rfl
theorem chk3_v (st : St) (id : Nat) (h : Sha.look st.mem id = some [.str W, .str R, .bool P]) (hW : W ≠ []) : VRet Tryz.prog 226 [.ptr id 0] st (.bool (W.length == 1 || !(W[0]? == some 48))) st := by
  cases W with
  | nil => exact absurd rfl hW
  | cons b t =>
    have h0 : (((b.toNat : Int)) != 48) = !((b :: t)[0]? == some 48) := by
      rw [Bool.eq_iff_iff]; simp only [bne_iff_ne, List.getElem?_cons_zero, Bool.not_eq_true', beq_eq_false_iff_ne, ne_eq, Option.some.injEq]
      constructor
      · rintro h rfl; exact h rfl
      · intro h e; exact h (UInt8.toNat_inj.1 (by have : (48 : UInt8).toNat = 48 := rfl; omega))
    have hl : ((t.length : Int) + 1 == 1) = ((b :: t).length == 1) := by
      rw [Bool.eq_iff_iff]; simp only [beq_iff_eq, List.length_cons]; omega
    rw [← h0, ← hl]
    refine VCalls_of F226_ok mixed (Nat.le_of_ble_eq_true rfl) (fun hwf => ?_)
    (repeat' first | ((first | refine go rfl rfl ?_ | (refine Fk.by_ ?_ ?_ <;> intro hc <;> try simp only [hc]) | refine storeK_eq rfl ?_ | with_reducible refine And.intro ?_ ?_ | fail) <;> try simp only [h, push_cast, reduceIte, Nat.reduceEqDiff, reduceCtorEq, Nat.reduceAdd, Nat.reduceLeDiff, Nat.reduceBEq]))
    all_goals exact finRet0 hwf rfl (by simp [resOne, *]) rfl

theorem check_v (s : List UInt8) (st : St) (hs : s.length < 140737488355328) : VRet Tryz.prog 208 [.str s] st (.int .i64 (chkN s)) st := by
  have h2 : (cutR 46 s).length ≤ s.length := by unfold cutR; rw [List.length_drop]; omega
  refine VCalls_of F208_ok mixed (Nat.le_of_ble_eq_true rfl) (fun hwf => ?_)
  (repeat' first | ((first | refine go rfl rfl ?_ | refine Cl.by_ (by (first | refine cut_v _ _ _ (by omega))) ?_ | (refine Fk.by_ ?_ ?_ <;> intro hc <;> try simp only [hc]) | refine storeK_eq rfl ?_ | with_reducible refine And.intro ?_ ?_ | fail) <;> try simp only [push_cast, reduceIte, Nat.reduceEqDiff, reduceCtorEq, Nat.reduceAdd, Nat.reduceLeDiff, Nat.reduceBEq]))
  have hW := (hwf.new (cs := [.str (cutW 46 s), .str (cutR 46 s), .bool (cutP 46 s)]) (by rfl))
  have hW2 := hW.newA (a := { e := 22, es := 1, xs := [V.fn (Fn.func 222) [] [V.ptr st.nx 0], V.fn (Fn.func 224) [] [V.ptr st.nx 0], V.fn (Fn.func 226) [] [V.ptr st.nx 0]], wr := false, fz := false }) (by simp [V.bdL, V.bd]; omega)
  refine WT_loop rfl (fun m e z => ∃ j : Nat, m = 3 - j ∧ j ≤ 3 ∧ (1 ≤ j → digs1 (cutW 46 s) = true) ∧ (2 ≤ j → (!(cutP 46 s) || (digs1 (cutR 46 s) && !((cutR 46 s).getLast? == some 48))) = true) ∧ (3 ≤ j → ((cutW 46 s).length == 1 || !((cutW 46 s)[0]? == some 48)) = true) ∧ e = [(22, V.int IntKind.i64 (j : Int)), (21, V.int IntKind.i64 3), (20, V.osl (st.nx + 1) 3),
      (4, V.osl (st.nx + 1) 3), (3, V.ptr st.nx 0), (2, V.int IntKind.i64 0), (0, V.str s)] ∧ z = ⟨st.nx + 2, (st.nx, [V.str (cutW 46 s), V.str (cutR 46 s), V.bool (cutP 46 s)]) :: st.mem, (st.nx + 1, ⟨22, 1, [V.fn (Fn.func 222) [] [V.ptr st.nx 0], V.fn (Fn.func 224) [] [V.ptr st.nx 0], V.fn (Fn.func 226) [] [V.ptr st.nx 0]], false, false⟩) :: st.arr, st.x⟩) (st.nx + 2) (Nat.le_refl _) (by rintro _ _ _ ⟨j, _, _, _, _, _, _, rfl⟩; rfl)
    ⟨_, _, _, ⟨0, rfl, Nat.zero_le _, by omega, by omega, by omega, rfl, rfl⟩, (by repeat first | exact .nil | refine .cons (by first | rfl | (simp [V.bd, V.bdL]; try first | omega | assumption)) (by first | rfl | simp only [push_cast, reduceIte, Nat.reduceEqDiff, reduceCtorEq, Nat.reduceAdd, Nat.reduceLeDiff, Nat.reduceBEq]) ?_), .refl hW2⟩ ?_
  rintro m e z ⟨j, rfl, hj, p1, p2, p3, rfl, rfl⟩
  have k0 : ((0 : Nat) < 3) = True := eq_true (by decide)
  have k1 : ((1 : Nat) < 3) = True := eq_true (by decide)
  have k2 : ((2 : Nat) < 3) = True := eq_true (by decide)
  have hbad : chkBad s = !(digs1 (cutW 46 s) && (!(cutP 46 s) || (digs1 (cutR 46 s) && !((cutR 46 s).getLast? == some 48))) && ((cutW 46 s).length == 1 || !((cutW 46 s)[0]? == some 48))) := by
    unfold chkBad
    simp only [Bool.not_and, Bool.not_or, Bool.not_not, bne, Bool.or_assoc]
  rcases (show j = 0 ∨ j = 1 ∨ j = 2 ∨ j = 3 by omega) with rfl | rfl | rfl | rfl
  · have w : IntKind.i64.wrap (0 + 1) = 1 := by decide
    (repeat' first | ((first | refine go rfl rfl ?_ | refine Cl.by_ (by (first | refine chk1_v (W := cutW 46 s) (R := cutR 46 s) (P := cutP 46 s) _ _ (by simp [Sha.look]))) ?_ | (refine Fk.by_ ?_ ?_ <;> intro hc <;> try simp only [hc]) | refine storeK_eq rfl ?_ | with_reducible refine And.intro ?_ ?_ | fail) <;> try simp only [V.cells, k0, w, push_cast, reduceIte, Nat.reduceEqDiff, reduceCtorEq, Nat.reduceAdd, Nat.reduceLeDiff, Nat.reduceBEq]))
    · exact ⟨_, _, _, by omega, ⟨1, rfl, by omega, fun _ => by first | trivial | assumption, by omega, by omega, rfl, rfl⟩, (by repeat first | exact .nil | refine .cons (by first | rfl | (simp [V.bd, V.bdL]; try first | omega | assumption)) (by first | rfl | simp only [push_cast, reduceIte, Nat.reduceEqDiff, reduceCtorEq, Nat.reduceAdd, Nat.reduceLeDiff, Nat.reduceBEq]) ?_), .refl hW2⟩
    · have e : chkN s = 3 := by unfold chkN; rw [if_pos (by rw [hbad, hc]; rfl)]
      rw [e]
      all_goals refine finB (hwf) (by simp only [F208, push_cast, reduceIte, Nat.reduceEqDiff, reduceCtorEq, Nat.reduceAdd, Nat.reduceLeDiff, Nat.reduceBEq]; exact rfl) (by first | exact .inl rfl | (right; simp only [F208, push_cast, reduceIte, Nat.reduceEqDiff, reduceCtorEq, Nat.reduceAdd, Nat.reduceLeDiff, Nat.reduceBEq]; try rfl)) (by first | rfl | assumption) (by simp) (by simp) (by (repeat first | exact (hwf).subm | exact (hwf).suba | refine Sub.drop (by simp) ?_)) (by (repeat first | exact (hwf).subm | exact (hwf).suba | refine Sub.drop (by simp) ?_)) (by (repeat first | exact (hwf).subx | refine ExSub.dropt (by simp) ?_ | refine ExSub.drop (by simp) ?_))
  · have w : IntKind.i64.wrap (1 + 1) = 2 := by decide
    rw [show ((1 : Nat) : Int) = 1 from rfl]
    (repeat' first | ((first | refine go rfl rfl ?_ | refine Cl.by_ (by (first | refine chk2_v (W := cutW 46 s) (R := cutR 46 s) (P := cutP 46 s) _ _ (by simp [Sha.look]) (by omega))) ?_ | (refine Fk.by_ ?_ ?_ <;> intro hc <;> try simp only [hc]) | refine storeK_eq rfl ?_ | with_reducible refine And.intro ?_ ?_ | fail) <;> try simp only [V.cells, k1, w, push_cast, reduceIte, Nat.reduceEqDiff, reduceCtorEq, Nat.reduceAdd, Nat.reduceLeDiff, Nat.reduceBEq]))
    · exact ⟨_, _, _, by omega, ⟨2, rfl, by omega, fun _ => by first | trivial | exact p1 (by omega), fun _ => by first | trivial | assumption, by omega, rfl, rfl⟩, (by repeat first | exact .nil | refine .cons (by first | rfl | (simp [V.bd, V.bdL]; try first | omega | assumption)) (by first | rfl | simp only [push_cast, reduceIte, Nat.reduceEqDiff, reduceCtorEq, Nat.reduceAdd, Nat.reduceLeDiff, Nat.reduceBEq]) ?_), .refl hW2⟩
    · have e : chkN s = 3 := by unfold chkN; rw [if_pos (by rw [hbad, hc, Bool.and_false]; rfl)]
      rw [e]
      all_goals refine finB (hwf) (by simp only [F208, push_cast, reduceIte, Nat.reduceEqDiff, reduceCtorEq, Nat.reduceAdd, Nat.reduceLeDiff, Nat.reduceBEq]; exact rfl) (by first | exact .inl rfl | (right; simp only [F208, push_cast, reduceIte, Nat.reduceEqDiff, reduceCtorEq, Nat.reduceAdd, Nat.reduceLeDiff, Nat.reduceBEq]; try rfl)) (by first | rfl | assumption) (by simp) (by simp) (by (repeat first | exact (hwf).subm | exact (hwf).suba | refine Sub.drop (by simp) ?_)) (by (repeat first | exact (hwf).subm | exact (hwf).suba | refine Sub.drop (by simp) ?_)) (by (repeat first | exact (hwf).subx | refine ExSub.dropt (by simp) ?_ | refine ExSub.drop (by simp) ?_))
  · have w : IntKind.i64.wrap (2 + 1) = 3 := by decide
    have hne : cutW 46 s ≠ [] := fun e => by have := p1 (by omega); rw [e] at this; cases this
    rw [show ((2 : Nat) : Int) = 2 from rfl]
    have nv : natV (.int .i64 2) = some 2 := by rfl
    (repeat' first | ((first | refine go rfl rfl ?_ | refine Cl.by_ (by (first | refine chk3_v (W := cutW 46 s) (R := cutR 46 s) (P := cutP 46 s) _ _ (by simp [Sha.look]) hne)) ?_ | (refine Fk.by_ ?_ ?_ <;> intro hc <;> try simp only [hc]) | refine storeK_eq rfl ?_ | with_reducible refine And.intro ?_ ?_ | fail) <;> try simp only [V.cells, k2, w, nv, push_cast, reduceIte, Nat.reduceEqDiff, reduceCtorEq, Nat.reduceAdd, Nat.reduceLeDiff, Nat.reduceBEq]))
    · exact ⟨_, _, _, by omega, ⟨3, rfl, by omega, fun _ => by first | trivial | exact p1 (by omega), fun _ => by first | trivial | exact p2 (by omega), fun _ => by first | trivial | assumption, rfl, rfl⟩, (by repeat first | exact .nil | refine .cons (by first | rfl | (simp [V.bd, V.bdL]; try first | omega | assumption)) (by first | rfl | simp only [push_cast, reduceIte, Nat.reduceEqDiff, reduceCtorEq, Nat.reduceAdd, Nat.reduceLeDiff, Nat.reduceBEq]) ?_), .refl hW2⟩
    · have e : chkN s = 3 := by unfold chkN; rw [if_pos (by rw [hbad, hc, Bool.and_false]; rfl)]
      rw [e]
      all_goals refine finB (hwf) (by simp only [F208, push_cast, reduceIte, Nat.reduceEqDiff, reduceCtorEq, Nat.reduceAdd, Nat.reduceLeDiff, Nat.reduceBEq]; exact rfl) (by first | exact .inl rfl | (right; simp only [F208, push_cast, reduceIte, Nat.reduceEqDiff, reduceCtorEq, Nat.reduceAdd, Nat.reduceLeDiff, Nat.reduceBEq]; try rfl)) (by first | rfl | assumption) (by simp) (by simp) (by (repeat first | exact (hwf).subm | exact (hwf).suba | refine Sub.drop (by simp) ?_)) (by (repeat first | exact (hwf).subm | exact (hwf).suba | refine Sub.drop (by simp) ?_)) (by (repeat first | exact (hwf).subx | refine ExSub.dropt (by simp) ?_ | refine ExSub.drop (by simp) ?_))
  · have hb : chkBad s = false := by rw [hbad, p1 (by omega), p2 (by omega), p3 (by omega)]; rfl
    have c1 : decide (4 < (cutW 46 s).length) = decide (4 < ((cutW 46 s).length : Int)) := by rw [decide_eq_decide]; omega
    have c2 : decide (3 < (cutR 46 s).length) = decide (3 < ((cutR 46 s).length : Int)) := by rw [decide_eq_decide]; omega
    have e : chkN s = if (s == [48] || decide (4 < ((cutW 46 s).length : Int)) || decide (3 < ((cutR 46 s).length : Int))) = true then 2 else 0 := by
      unfold chkN; rw [if_neg (by rw [hb]; decide), c1, c2]
    rw [e]
    rw [show ((3 : Nat) : Int) = 3 from rfl]
    (repeat' first | ((first | refine go rfl rfl ?_ | (refine Fk.by_ ?_ ?_ <;> intro hc <;> try simp only [hc]) | refine storeK_eq rfl ?_ | with_reducible refine And.intro ?_ ?_ | fail) <;> try simp only [V.cells, push_cast, reduceIte, Nat.reduceEqDiff, reduceCtorEq, Nat.reduceAdd, Nat.reduceLeDiff, Nat.reduceBEq]))
    all_goals simp only [Bool.or_true, Bool.true_or, Bool.or_false, if_true, Bool.false_eq_true, if_false]
    all_goals refine finB (hwf) (by simp only [F208, push_cast, reduceIte, Nat.reduceEqDiff, reduceCtorEq, Nat.reduceAdd, Nat.reduceLeDiff, Nat.reduceBEq]; exact rfl) (by first | exact .inl rfl | (right; simp only [F208, push_cast, reduceIte, Nat.reduceEqDiff, reduceCtorEq, Nat.reduceAdd, Nat.reduceLeDiff, Nat.reduceBEq]; try rfl)) (by first | rfl | assumption) (by simp) (by simp) (by (repeat first | exact (hwf).subm | exact (hwf).suba | refine Sub.drop (by simp) ?_)) (by (repeat first | exact (hwf).subm | exact (hwf).suba | refine Sub.drop (by simp) ?_)) (by (repeat first | exact (hwf).subx | refine ExSub.dropt (by simp) ?_ | refine ExSub.drop (by simp) ?_))
end Go.Proofs.YtnondemehfkalaaGreatDoor

set_option maxRecDepth 10000
namespace Go.Proofs.YtnondemehfkalaaGreatDoor
open Go.Sha

theorem number_fail {st : St} {rid : Nat} {ts : List Tok} {K : VRes → St → Prop} (hk : ((hd ts).k != 1) = true) (hG : GlOk st.x.gl) (hw : WfT ts) (hm : Sha.look st.mem rid = some [.sl (ts.map tkV)]) (h : ∀ ts', K (.pan (failV (hd ts).a 4)) (stR st rid ts')) : VCalls Tryz.prog 168 [.ptr rid 0] st K := by
  refine VCalls.mono (gnumber_v st rid ts hG hw hm) (fun r s hr => ?_)
  unfold rdPost rNumber at hr
  rw [if_pos hk] at hr
  obtain ⟨rfl, ts', rfl⟩ := hr
  exact h ts'
theorem number_ok {st : St} {rid : Nat} {ts : List Tok} (hk : ((hd ts).k != 1) = false) (hG : GlOk st.x.gl) (hw : WfT ts) (hm : Sha.look st.mem rid = some [.sl (ts.map tkV)]) : VRet Tryz.prog 168 [.ptr rid 0] st (.str (hd ts).t) st := by
  refine VCalls.mono (gnumber_v st rid ts hG hw hm) (fun r s hr => ?_)
  unfold rdPost rNumber at hr
  rw [if_neg (by rw [hk]; decide)] at hr
  obtain ⟨rfl, rfl, _⟩ := hr
  exact ⟨rfl, stR_same hm⟩
theorem k1_ne {ts : List Tok} (hk : ((hd ts).k != 1) = false) : (hd ts).k ≠ 3 := by
  simp at hk; omega
theorem rNum_err {α : Type} {f : List UInt8 → Rd α} {ts : List Tok} (hk : ((hd ts).k != 1) = true) : rNext rNumber f ts = .error ((hd ts).a, 4) := by
  simp only [rNext, rNumber, hk, if_true]
theorem rNum_ok {α : Type} {f : List UInt8 → Rd α} {ts : List Tok} (hk : ((hd ts).k != 1) = false) : rNext rNumber f ts = f (hd ts).t ts := by
  simp only [rNext, rNumber, hk, Bool.false_eq_true, if_false]

theorem rint_v (most : Int) : RdC 141 [.int .i64 most] (rInt most) (fun n => .int .i64 n) := by
  intro st rid ts hG hw hm
  have ht := hw.txt
  refine VCalls_of F141_ok mixed (Nat.le_of_ble_eq_true rfl) (fun hwf => ?_)
  cases hk : (hd ts).k != 1 with
  | true =>
    have hE : rInt most ts = _ := rNum_err hk
    (repeat' first | (with_reducible intro x1 x2 hE hW <;> (try (have hI := rNumber_inv hE; obtain ⟨rfl, rfl, hK⟩ := hI)) <;> (try (have hI := rMust_inv hE; obtain ⟨rfl, -⟩ := hI)) <;> (try (have hI := rUnit_inv hE; obtain ⟨u1, u2, rfl⟩ := hI; dsimp only)) <;> try simp only [stR_eq, lookR, Option.map_some, push_cast, reduceIte, Nat.reduceEqDiff, reduceCtorEq, Nat.reduceAdd, Nat.reduceLeDiff, Nat.reduceBEq]) | (with_reducible intro x1 x2 x3 hE <;> try simp only [stR_eq, lookR, Option.map_some, push_cast, reduceIte, Nat.reduceEqDiff, reduceCtorEq, Nat.reduceAdd, Nat.reduceLeDiff, Nat.reduceBEq]) | ((first | refine go rfl rfl ?_ | refine number_fail hk hG hw hm (fun ts' => ?_) | refine RdK.c (by first | assumption | (simp only [stR_eq, lookR, Option.map_some, push_cast, reduceIte, Nat.reduceEqDiff, reduceCtorEq, Nat.reduceAdd, Nat.reduceLeDiff, Nat.reduceBEq] <;> exact rfl)) (by assumption) (by assumption) ?_ | refine snap_two (by simp only [stR_eq, lookR, Option.map_some, push_cast, reduceIte, Nat.reduceEqDiff, reduceCtorEq, Nat.reduceAdd, Nat.reduceLeDiff, Nat.reduceBEq] <;> exact rfl) ?_ | (refine Fk.by_ ?_ ?_ <;> intro hc <;> try simp only [hc]) | refine storeK_eq rfl ?_ | with_reducible refine And.intro ?_ ?_ | fail) <;> try simp only [stR_eq, lookR, Option.map_some, push_cast, reduceIte, Nat.reduceEqDiff, reduceCtorEq, Nat.reduceAdd, Nat.reduceLeDiff, Nat.reduceBEq]))
    all_goals first | (first | exact finRo hwf (by first | exact .inl rfl | exact .inr rfl) (by first | rfl | (simp only [push_cast, reduceIte, Nat.reduceEqDiff, reduceCtorEq, Nat.reduceAdd, Nat.reduceLeDiff, Nat.reduceBEq]; exact rfl)) (by first | exact .inl rfl | (right; simp only [push_cast, reduceIte, Nat.reduceEqDiff, reduceCtorEq, Nat.reduceAdd, Nat.reduceLeDiff, Nat.reduceBEq]; try rfl)) (by first | rfl | assumption | exact bd_cmd | (simp [V.bd, V.bdL]; done)) (by simp) (by (repeat first | exact (wfR hwf _).subm | exact subR hm hwf | refine Sub.drop (by simp) ?_)) (by (repeat first | exact (hwf).suba | refine Sub.drop (by simp) ?_)) ((hwf).subx) (by first | assumption | (simp [*]; done) | (simp only [if_true, if_false, Bool.false_eq_true, *]; done) | fail) (by first | assumption | (simp [*]; done) | fail) | exact finRe hwf (by first | (simp [*]; done) | (simp only [if_true, if_false, Bool.false_eq_true, *]; done)) (by simp) (by (repeat first | exact (wfR hwf _).subm | exact subR hm hwf | refine Sub.drop (by simp) ?_)) (by (repeat first | exact (hwf).suba | refine Sub.drop (by simp) ?_)) ((hwf).subx))
  | false =>
    have hn := number_ok hk hG hw hm
    have hR : rInt most ts = _ := rNum_ok hk
    cases hd' : digsB (hd ts).t with
    | false =>
      (repeat' first | (with_reducible intro x1 x2 hE hW <;> (try (have hI := rNumber_inv hE; obtain ⟨rfl, rfl, hK⟩ := hI)) <;> (try (have hI := rMust_inv hE; obtain ⟨rfl, -⟩ := hI)) <;> (try (have hI := rUnit_inv hE; obtain ⟨u1, u2, rfl⟩ := hI; dsimp only)) <;> try simp only [stR_eq, lookR, Option.map_some, hm, hd', push_cast, reduceIte, Nat.reduceEqDiff, reduceCtorEq, Nat.reduceAdd, Nat.reduceLeDiff, Nat.reduceBEq]) | (with_reducible intro x1 x2 x3 hE <;> try simp only [stR_eq, lookR, Option.map_some, hm, hd', push_cast, reduceIte, Nat.reduceEqDiff, reduceCtorEq, Nat.reduceAdd, Nat.reduceLeDiff, Nat.reduceBEq]) | ((first | refine go rfl rfl ?_ | refine Cl.by_ (by (first | refine hn | refine digits_v _ _ (by omega))) ?_ | refine RdK.c (by first | assumption | (simp only [stR_eq, lookR, Option.map_some, hm, hd', push_cast, reduceIte, Nat.reduceEqDiff, reduceCtorEq, Nat.reduceAdd, Nat.reduceLeDiff, Nat.reduceBEq] <;> exact rfl)) (by assumption) (by assumption) ?_ | refine snap_two (by simp only [stR_eq, lookR, Option.map_some, hm, hd', push_cast, reduceIte, Nat.reduceEqDiff, reduceCtorEq, Nat.reduceAdd, Nat.reduceLeDiff, Nat.reduceBEq] <;> exact rfl) ?_ | (refine Fk.by_ ?_ ?_ <;> intro hc <;> try simp only [hc]) | refine storeK_eq rfl ?_ | with_reducible refine And.intro ?_ ?_ | fail) <;> try simp only [stR_eq, lookR, Option.map_some, hm, hd', push_cast, reduceIte, Nat.reduceEqDiff, reduceCtorEq, Nat.reduceAdd, Nat.reduceLeDiff, Nat.reduceBEq]))
      all_goals (first | exact finRo hwf (by first | exact .inl rfl | exact .inr rfl) (by first | rfl | (simp only [push_cast, reduceIte, Nat.reduceEqDiff, reduceCtorEq, Nat.reduceAdd, Nat.reduceLeDiff, Nat.reduceBEq]; exact rfl)) (by first | exact .inl rfl | (right; simp only [push_cast, reduceIte, Nat.reduceEqDiff, reduceCtorEq, Nat.reduceAdd, Nat.reduceLeDiff, Nat.reduceBEq]; try rfl)) (by first | rfl | assumption | exact bd_cmd | (simp [V.bd, V.bdL]; done)) (by simp) (by (repeat first | exact (wfR hwf _).subm | exact subR hm hwf | refine Sub.drop (by simp) ?_)) (by (repeat first | exact (hwf).suba | refine Sub.drop (by simp) ?_)) ((hwf).subx) (by first | assumption | (simp [*]; done) | (simp only [if_true, if_false, Bool.false_eq_true, *]; done) | fail) (by first | assumption | (simp [*]; done) | fail) | exact finRe hwf (by first | (simp [*]; done) | (simp only [if_true, if_false, Bool.false_eq_true, *]; done)) (by simp) (by (repeat first | exact (wfR hwf _).subm | exact subR hm hwf | refine Sub.drop (by simp) ?_)) (by (repeat first | exact (hwf).suba | refine Sub.drop (by simp) ?_)) ((hwf).subx))
    | true =>
      have hv := value_v _ st hG ht (digsB_ok hd').1 (digsB_ok hd').2
      (repeat' first | (with_reducible intro x1 x2 hE hW <;> (try (have hI := rNumber_inv hE; obtain ⟨rfl, rfl, hK⟩ := hI)) <;> (try (have hI := rMust_inv hE; obtain ⟨rfl, -⟩ := hI)) <;> (try (have hI := rUnit_inv hE; obtain ⟨u1, u2, rfl⟩ := hI; dsimp only)) <;> try simp only [stR_eq, lookR, Option.map_some, hm, hd', push_cast, reduceIte, Nat.reduceEqDiff, reduceCtorEq, Nat.reduceAdd, Nat.reduceLeDiff, Nat.reduceBEq]) | (with_reducible intro x1 x2 x3 hE <;> try simp only [stR_eq, lookR, Option.map_some, hm, hd', push_cast, reduceIte, Nat.reduceEqDiff, reduceCtorEq, Nat.reduceAdd, Nat.reduceLeDiff, Nat.reduceBEq]) | ((first | refine go rfl rfl ?_ | refine Cl.by_ (by (first | refine hn | refine digits_v _ _ (by omega) | refine hv)) ?_ | refine RdK.c (by first | assumption | (simp only [stR_eq, lookR, Option.map_some, hm, hd', push_cast, reduceIte, Nat.reduceEqDiff, reduceCtorEq, Nat.reduceAdd, Nat.reduceLeDiff, Nat.reduceBEq] <;> exact rfl)) (by assumption) (by assumption) ?_ | refine snap_two (by simp only [stR_eq, lookR, Option.map_some, hm, hd', push_cast, reduceIte, Nat.reduceEqDiff, reduceCtorEq, Nat.reduceAdd, Nat.reduceLeDiff, Nat.reduceBEq] <;> exact rfl) ?_ | (refine Fk.by_ ?_ ?_ <;> intro hc <;> try simp only [hc]) | refine storeK_eq rfl ?_ | with_reducible refine And.intro ?_ ?_ | fail) <;> try simp only [stR_eq, lookR, Option.map_some, hm, hd', push_cast, reduceIte, Nat.reduceEqDiff, reduceCtorEq, Nat.reduceAdd, Nat.reduceLeDiff, Nat.reduceBEq]))
      all_goals have hw' := hw.tail (k1_ne hk)
      all_goals first | (first | exact finRo hwf (by first | exact .inl rfl | exact .inr rfl) (by first | rfl | (simp only [push_cast, reduceIte, Nat.reduceEqDiff, reduceCtorEq, Nat.reduceAdd, Nat.reduceLeDiff, Nat.reduceBEq]; exact rfl)) (by first | exact .inl rfl | (right; simp only [push_cast, reduceIte, Nat.reduceEqDiff, reduceCtorEq, Nat.reduceAdd, Nat.reduceLeDiff, Nat.reduceBEq]; try rfl)) (by first | rfl | assumption | exact bd_cmd | (simp [V.bd, V.bdL]; done)) (by simp) (by (repeat first | exact (wfR hwf _).subm | exact subR hm hwf | refine Sub.drop (by simp) ?_)) (by (repeat first | exact (hwf).suba | refine Sub.drop (by simp) ?_)) ((hwf).subx) (by first | assumption | (simp [*]; done) | (simp only [if_true, if_false, Bool.false_eq_true, *]; done) | fail) (by first | assumption | (simp [*]; done) | fail) | exact finRe hwf (by first | (simp [*]; done) | (simp only [if_true, if_false, Bool.false_eq_true, *]; done)) (by simp) (by (repeat first | exact (wfR hwf _).subm | exact subR hm hwf | refine Sub.drop (by simp) ?_)) (by (repeat first | exact (hwf).suba | refine Sub.drop (by simp) ?_)) ((hwf).subx))
instance {most : Int} : RdK 141 [.int .i64 most] (RdP (rInt most) (fun n => .int .i64 n)) := (rint_v most).k
theorem rlist_v : RdC 111 [] (rInt 1048576) (fun n => .int .i64 n) := by
  intro st rid ts hG hw hm
  refine VCalls_of F111_ok mixed (Nat.le_of_ble_eq_true rfl) (fun hwf => ?_)
  (repeat' first | (with_reducible intro x1 x2 hE hW <;> (try (have hI := rNumber_inv hE; obtain ⟨rfl, rfl, hK⟩ := hI)) <;> (try (have hI := rMust_inv hE; obtain ⟨rfl, -⟩ := hI)) <;> (try (have hI := rUnit_inv hE; obtain ⟨u1, u2, rfl⟩ := hI; dsimp only)) <;> try simp only [stR_eq, lookR, Option.map_some, hm, push_cast, reduceIte, Nat.reduceEqDiff, reduceCtorEq, Nat.reduceAdd, Nat.reduceLeDiff, Nat.reduceBEq]) | (with_reducible intro x1 x2 x3 hE <;> try simp only [stR_eq, lookR, Option.map_some, hm, push_cast, reduceIte, Nat.reduceEqDiff, reduceCtorEq, Nat.reduceAdd, Nat.reduceLeDiff, Nat.reduceBEq]) | ((first | refine go rfl rfl ?_ | refine RdK.c (by first | assumption | (simp only [stR_eq, lookR, Option.map_some, hm, push_cast, reduceIte, Nat.reduceEqDiff, reduceCtorEq, Nat.reduceAdd, Nat.reduceLeDiff, Nat.reduceBEq] <;> exact rfl)) (by assumption) (by assumption) ?_ | refine snap_two (by simp only [stR_eq, lookR, Option.map_some, hm, push_cast, reduceIte, Nat.reduceEqDiff, reduceCtorEq, Nat.reduceAdd, Nat.reduceLeDiff, Nat.reduceBEq] <;> exact rfl) ?_ | (refine Fk.by_ ?_ ?_ <;> intro hc <;> try simp only [hc]) | refine storeK_eq rfl ?_ | with_reducible refine And.intro ?_ ?_ | fail) <;> try simp only [stR_eq, lookR, Option.map_some, hm, push_cast, reduceIte, Nat.reduceEqDiff, reduceCtorEq, Nat.reduceAdd, Nat.reduceLeDiff, Nat.reduceBEq]))
  all_goals first | (first | exact finRo hwf (by first | exact .inl rfl | exact .inr rfl) (by first | rfl | (simp only [push_cast, reduceIte, Nat.reduceEqDiff, reduceCtorEq, Nat.reduceAdd, Nat.reduceLeDiff, Nat.reduceBEq]; exact rfl)) (by first | exact .inl rfl | (right; simp only [push_cast, reduceIte, Nat.reduceEqDiff, reduceCtorEq, Nat.reduceAdd, Nat.reduceLeDiff, Nat.reduceBEq]; try rfl)) (by first | rfl | assumption | exact bd_cmd | (simp [V.bd, V.bdL]; done)) (by simp) (by (repeat first | exact (wfR hwf _).subm | exact subR hm hwf | refine Sub.drop (by simp) ?_)) (by (repeat first | exact (hwf).suba | refine Sub.drop (by simp) ?_)) ((hwf).subx) (by first | assumption | (simp [*]; done) | (simp only [if_true, if_false, Bool.false_eq_true, *]; done) | fail) (by first | assumption | (simp [*]; done) | fail) | exact finRe hwf (by first | (simp [*]; done) | (simp only [if_true, if_false, Bool.false_eq_true, *]; done)) (by simp) (by (repeat first | exact (wfR hwf _).subm | exact subR hm hwf | refine Sub.drop (by simp) ?_)) (by (repeat first | exact (hwf).suba | refine Sub.drop (by simp) ?_)) ((hwf).subx))
def mustE (e : Int) : Int := if (e == 3) = true then 4 else e
instance : RdK 111 [] (RdP (rInt 1048576) (fun n => .int .i64 n)) := (rlist_v).k
theorem rMust_err {α : Type} {e : Int} {f : Unit → Rd α} {ts : List Tok} (he : (e == 0) = false) : rNext (rMust e) f ts = .error ((hd ts).a, mustE e) := by
  simp only [rNext, rMust, he, Bool.false_eq_true, if_false, mustE]
  cases e == 3 <;> rfl
theorem rMust_ok {α : Type} {e : Int} {f : Unit → Rd α} {ts : List Tok} (he : (e == 0) = true) : rNext (rMust e) f ts = f () ts := by
  simp only [rNext, rMust, he, if_true]
theorem must_fail {st : St} {rid : Nat} {ts : List Tok} {e : Int} {K : VRes → St → Prop} (he : (e == 0) = false) (hG : GlOk st.x.gl) (hw : WfT ts) (hm : Sha.look st.mem rid = some [.sl (ts.map tkV)]) (h : ∀ ts', K (.pan (failV (hd ts).a (mustE e))) (stR st rid ts')) : VCalls Tryz.prog 170 [.ptr rid 0, .int .i64 e] st K := by
  refine VCalls.mono (gmust_v e st rid ts hG hw hm) (fun r s hr => ?_)
  unfold rdPost rMust at hr
  rw [if_neg (by rw [he]; decide)] at hr
  unfold mustE at h
  split at hr <;> rename_i h1
  · split at h1 <;> cases h1
  · split at h1 <;> rename_i h2
    · rw [if_pos h2] at h
      cases h1
      obtain ⟨rfl, ts', rfl⟩ := hr
      exact h ts'
    · rw [if_neg h2] at h
      cases h1
      obtain ⟨rfl, ts', rfl⟩ := hr
      exact h ts'
theorem must_ok {st : St} {rid : Nat} {ts : List Tok} {e : Int} (he : (e == 0) = true) (hG : GlOk st.x.gl) (hw : WfT ts) (hm : Sha.look st.mem rid = some [.sl (ts.map tkV)]) : VRet Tryz.prog 170 [.ptr rid 0, .int .i64 e] st (.tup []) st := by
  refine VCalls.mono (gmust_v e st rid ts hG hw hm) (fun r s hr => ?_)
  unfold rdPost rMust at hr
  rw [if_pos he] at hr
  obtain ⟨rfl, rfl, _⟩ := hr
  exact ⟨rfl, stR_same hm⟩

theorem rcue_v : RdC 175 [] rCue .str := by
  intro st rid ts hG hw hm
  have ht := hw.txt
  refine VCalls_of F175_ok mixed (Nat.le_of_ble_eq_true rfl) (fun hwf => ?_)
  cases hk : (hd ts).k != 1 with
  | true =>
    have hE : rCue ts = _ := rNum_err hk
    (repeat' first | (with_reducible intro x1 x2 hE hW <;> (try (have hI := rNumber_inv hE; obtain ⟨rfl, rfl, hK⟩ := hI)) <;> (try (have hI := rMust_inv hE; obtain ⟨rfl, -⟩ := hI)) <;> (try (have hI := rUnit_inv hE; obtain ⟨u1, u2, rfl⟩ := hI; dsimp only)) <;> try simp only [stR_eq, lookR, Option.map_some, push_cast, reduceIte, Nat.reduceEqDiff, reduceCtorEq, Nat.reduceAdd, Nat.reduceLeDiff, Nat.reduceBEq]) | (with_reducible intro x1 x2 x3 hE <;> try simp only [stR_eq, lookR, Option.map_some, push_cast, reduceIte, Nat.reduceEqDiff, reduceCtorEq, Nat.reduceAdd, Nat.reduceLeDiff, Nat.reduceBEq]) | ((first | refine go rfl rfl ?_ | refine number_fail hk hG hw hm (fun ts' => ?_) | refine RdK.c (by first | assumption | (simp only [stR_eq, lookR, Option.map_some, push_cast, reduceIte, Nat.reduceEqDiff, reduceCtorEq, Nat.reduceAdd, Nat.reduceLeDiff, Nat.reduceBEq] <;> exact rfl)) (by assumption) (by assumption) ?_ | refine snap_two (by simp only [stR_eq, lookR, Option.map_some, push_cast, reduceIte, Nat.reduceEqDiff, reduceCtorEq, Nat.reduceAdd, Nat.reduceLeDiff, Nat.reduceBEq] <;> exact rfl) ?_ | (refine Fk.by_ ?_ ?_ <;> intro hc <;> try simp only [hc]) | refine storeK_eq rfl ?_ | with_reducible refine And.intro ?_ ?_ | fail) <;> try simp only [stR_eq, lookR, Option.map_some, push_cast, reduceIte, Nat.reduceEqDiff, reduceCtorEq, Nat.reduceAdd, Nat.reduceLeDiff, Nat.reduceBEq]))
    all_goals first | (first | exact finRo hwf (by first | exact .inl rfl | exact .inr rfl) (by first | rfl | (simp only [push_cast, reduceIte, Nat.reduceEqDiff, reduceCtorEq, Nat.reduceAdd, Nat.reduceLeDiff, Nat.reduceBEq]; exact rfl)) (by first | exact .inl rfl | (right; simp only [push_cast, reduceIte, Nat.reduceEqDiff, reduceCtorEq, Nat.reduceAdd, Nat.reduceLeDiff, Nat.reduceBEq]; try rfl)) (by first | rfl | assumption | exact bd_cmd | (simp [V.bd, V.bdL]; done)) (by simp) (by (repeat first | exact (wfR hwf _).subm | exact subR hm hwf | refine Sub.drop (by simp) ?_)) (by (repeat first | exact (hwf).suba | refine Sub.drop (by simp) ?_)) ((hwf).subx) (by first | assumption | (simp [*]; done) | (simp only [if_true, if_false, Bool.false_eq_true, *]; done) | fail) (by first | assumption | (simp [*]; done) | fail) | exact finRe hwf (by first | (simp [*]; done) | (simp only [if_true, if_false, Bool.false_eq_true, *]; done)) (by simp) (by (repeat first | exact (wfR hwf _).subm | exact subR hm hwf | refine Sub.drop (by simp) ?_)) (by (repeat first | exact (hwf).suba | refine Sub.drop (by simp) ?_)) ((hwf).subx))
  | false =>
    have hn := number_ok hk hG hw hm
    have hR : rCue ts = _ := rNum_ok hk
    cases he : chkN (hd ts).t == 0 with
    | false =>
      rw [rMust_err he] at hR
      (repeat' first | (with_reducible intro x1 x2 hE hW <;> (try (have hI := rNumber_inv hE; obtain ⟨rfl, rfl, hK⟩ := hI)) <;> (try (have hI := rMust_inv hE; obtain ⟨rfl, -⟩ := hI)) <;> (try (have hI := rUnit_inv hE; obtain ⟨u1, u2, rfl⟩ := hI; dsimp only)) <;> try simp only [stR_eq, lookR, Option.map_some, hm, push_cast, reduceIte, Nat.reduceEqDiff, reduceCtorEq, Nat.reduceAdd, Nat.reduceLeDiff, Nat.reduceBEq]) | (with_reducible intro x1 x2 x3 hE <;> try simp only [stR_eq, lookR, Option.map_some, hm, push_cast, reduceIte, Nat.reduceEqDiff, reduceCtorEq, Nat.reduceAdd, Nat.reduceLeDiff, Nat.reduceBEq]) | ((first | refine go rfl rfl ?_ | refine must_fail he hG hw hm (fun ts' => ?_) | refine Cl.by_ (by (first | refine hn | refine check_v _ _ ht)) ?_ | refine RdK.c (by first | assumption | (simp only [stR_eq, lookR, Option.map_some, hm, push_cast, reduceIte, Nat.reduceEqDiff, reduceCtorEq, Nat.reduceAdd, Nat.reduceLeDiff, Nat.reduceBEq] <;> exact rfl)) (by assumption) (by assumption) ?_ | refine snap_two (by simp only [stR_eq, lookR, Option.map_some, hm, push_cast, reduceIte, Nat.reduceEqDiff, reduceCtorEq, Nat.reduceAdd, Nat.reduceLeDiff, Nat.reduceBEq] <;> exact rfl) ?_ | (refine Fk.by_ ?_ ?_ <;> intro hc <;> try simp only [hc]) | refine storeK_eq rfl ?_ | with_reducible refine And.intro ?_ ?_ | fail) <;> try simp only [stR_eq, lookR, Option.map_some, hm, push_cast, reduceIte, Nat.reduceEqDiff, reduceCtorEq, Nat.reduceAdd, Nat.reduceLeDiff, Nat.reduceBEq]))
      all_goals first | (first | exact finRo hwf (by first | exact .inl rfl | exact .inr rfl) (by first | rfl | (simp only [push_cast, reduceIte, Nat.reduceEqDiff, reduceCtorEq, Nat.reduceAdd, Nat.reduceLeDiff, Nat.reduceBEq]; exact rfl)) (by first | exact .inl rfl | (right; simp only [push_cast, reduceIte, Nat.reduceEqDiff, reduceCtorEq, Nat.reduceAdd, Nat.reduceLeDiff, Nat.reduceBEq]; try rfl)) (by first | rfl | assumption | exact bd_cmd | (simp [V.bd, V.bdL]; done)) (by simp) (by (repeat first | exact (wfR hwf _).subm | exact subR hm hwf | refine Sub.drop (by simp) ?_)) (by (repeat first | exact (hwf).suba | refine Sub.drop (by simp) ?_)) ((hwf).subx) (by first | assumption | (simp [*]; done) | (simp only [if_true, if_false, Bool.false_eq_true, *]; done) | fail) (by first | assumption | (simp [*]; done) | fail) | exact finRe hwf (by first | (simp [*]; done) | (simp only [if_true, if_false, Bool.false_eq_true, *]; done)) (by simp) (by (repeat first | exact (wfR hwf _).subm | exact subR hm hwf | refine Sub.drop (by simp) ?_)) (by (repeat first | exact (hwf).suba | refine Sub.drop (by simp) ?_)) ((hwf).subx))
    | true =>
      rw [rMust_ok he] at hR
      (repeat' first | (with_reducible intro x1 x2 hE hW <;> (try (have hI := rNumber_inv hE; obtain ⟨rfl, rfl, hK⟩ := hI)) <;> (try (have hI := rMust_inv hE; obtain ⟨rfl, -⟩ := hI)) <;> (try (have hI := rUnit_inv hE; obtain ⟨u1, u2, rfl⟩ := hI; dsimp only)) <;> try simp only [stR_eq, lookR, Option.map_some, hm, tkV, push_cast, reduceIte, Nat.reduceEqDiff, reduceCtorEq, Nat.reduceAdd, Nat.reduceLeDiff, Nat.reduceBEq]) | (with_reducible intro x1 x2 x3 hE <;> try simp only [stR_eq, lookR, Option.map_some, hm, tkV, push_cast, reduceIte, Nat.reduceEqDiff, reduceCtorEq, Nat.reduceAdd, Nat.reduceLeDiff, Nat.reduceBEq]) | ((first | refine go rfl rfl ?_ | refine Cl.by_ (by (first | refine hn | refine check_v _ _ ht | refine must_ok he hG hw hm)) ?_ | refine RdK.c (by first | assumption | (simp only [stR_eq, lookR, Option.map_some, hm, tkV, push_cast, reduceIte, Nat.reduceEqDiff, reduceCtorEq, Nat.reduceAdd, Nat.reduceLeDiff, Nat.reduceBEq] <;> exact rfl)) (by assumption) (by assumption) ?_ | refine snap_two (by simp only [stR_eq, lookR, Option.map_some, hm, tkV, push_cast, reduceIte, Nat.reduceEqDiff, reduceCtorEq, Nat.reduceAdd, Nat.reduceLeDiff, Nat.reduceBEq] <;> exact rfl) ?_ | (refine Fk.by_ ?_ ?_ <;> intro hc <;> try simp only [hc]) | refine storeK_eq rfl ?_ | with_reducible refine And.intro ?_ ?_ | fail) <;> try simp only [stR_eq, lookR, Option.map_some, hm, tkV, push_cast, reduceIte, Nat.reduceEqDiff, reduceCtorEq, Nat.reduceAdd, Nat.reduceLeDiff, Nat.reduceBEq]))
      all_goals have hw' := hw.tail (k1_ne hk)
      all_goals first | (first | exact finRo hwf (by first | exact .inl rfl | exact .inr rfl) (by first | rfl | (simp only [push_cast, reduceIte, Nat.reduceEqDiff, reduceCtorEq, Nat.reduceAdd, Nat.reduceLeDiff, Nat.reduceBEq]; exact rfl)) (by first | exact .inl rfl | (right; simp only [push_cast, reduceIte, Nat.reduceEqDiff, reduceCtorEq, Nat.reduceAdd, Nat.reduceLeDiff, Nat.reduceBEq]; try rfl)) (by first | rfl | assumption | exact bd_cmd | (simp [V.bd, V.bdL]; done)) (by simp) (by (repeat first | exact (wfR hwf _).subm | exact subR hm hwf | refine Sub.drop (by simp) ?_)) (by (repeat first | exact (hwf).suba | refine Sub.drop (by simp) ?_)) ((hwf).subx) (by first | assumption | (simp [*]; done) | (simp only [if_true, if_false, Bool.false_eq_true, *]; done) | fail) (by first | assumption | (simp [*]; done) | fail) | exact finRe hwf (by first | (simp [*]; done) | (simp only [if_true, if_false, Bool.false_eq_true, *]; done)) (by simp) (by (repeat first | exact (wfR hwf _).subm | exact subR hm hwf | refine Sub.drop (by simp) ?_)) (by (repeat first | exact (hwf).suba | refine Sub.drop (by simp) ?_)) ((hwf).subx))
instance : RdK 175 [] (RdP rCue .str) := (rcue_v).k
theorem hdIs_full {ts : List Tok} {t : List UInt8} (h : hdIs 0 t ts = true) : (hd ts).t = t ∧ (hd ts).k ≠ 3 := by
  simp only [hdIs, Bool.and_eq_true, beq_iff_eq] at h
  exact ⟨h.2, by omega⟩
theorem rlevel_v : RdC 112 [] rLevel (fun n => .int .i64 n) := by
  intro st rid ts hG hw hm
  have ht := hw.txt
  refine VCalls_of F112_ok mixed (Nat.le_of_ble_eq_true rfl) (fun hwf => ?_)
  cases hf : hdIs 0 [102, 117, 108, 108] ts with
  | true =>
    have hk3 := (hdIs_full hf).2
    have hR : rLevel ts = rNext (rMust (pctN (hd ts).t).2) (fun _ ts => .ok ((pctN (hd ts).t).1, ts.tail)) ts := by
      simp only [rLevel, hf, if_true]
      show rNext (rMust (pctN (hd ts).t).2) (fun _ ts' => .ok ((pctN (hd ts).t).1, ts'.tail)) ts = _
      cases he : (pctN (hd ts).t).2 == 0
      · rw [rMust_err he, rMust_err he]
      · rw [rMust_ok he, rMust_ok he]
    cases he : (pctN (hd ts).t).2 == 0 with
    | false =>
      rw [rMust_err he] at hR
      (repeat' first | (with_reducible intro x1 x2 hE hW <;> (try (have hI := rNumber_inv hE; obtain ⟨rfl, rfl, hK⟩ := hI)) <;> (try (have hI := rMust_inv hE; obtain ⟨rfl, -⟩ := hI)) <;> (try (have hI := rUnit_inv hE; obtain ⟨u1, u2, rfl⟩ := hI; dsimp only)) <;> try simp only [stR_eq, lookR, Option.map_some, hm, hf, tkV, push_cast, reduceIte, Nat.reduceEqDiff, reduceCtorEq, Nat.reduceAdd, Nat.reduceLeDiff, Nat.reduceBEq]) | (with_reducible intro x1 x2 x3 hE <;> try simp only [stR_eq, lookR, Option.map_some, hm, hf, tkV, push_cast, reduceIte, Nat.reduceEqDiff, reduceCtorEq, Nat.reduceAdd, Nat.reduceLeDiff, Nat.reduceBEq]) | ((first | refine go rfl rfl ?_ | refine must_fail he hG hw hm (fun ts' => ?_) | refine Cl.by_ (by (first | refine percent_v _ _ ht)) ?_ | refine RdK.c (by first | assumption | (simp only [stR_eq, lookR, Option.map_some, hm, hf, tkV, push_cast, reduceIte, Nat.reduceEqDiff, reduceCtorEq, Nat.reduceAdd, Nat.reduceLeDiff, Nat.reduceBEq] <;> exact rfl)) (by assumption) (by assumption) ?_ | refine snap_two (by simp only [stR_eq, lookR, Option.map_some, hm, hf, tkV, push_cast, reduceIte, Nat.reduceEqDiff, reduceCtorEq, Nat.reduceAdd, Nat.reduceLeDiff, Nat.reduceBEq] <;> exact rfl) ?_ | (refine Fk.by_ ?_ ?_ <;> intro hc <;> try simp only [hc]) | refine storeK_eq rfl ?_ | with_reducible refine And.intro ?_ ?_ | fail) <;> try simp only [stR_eq, lookR, Option.map_some, hm, hf, tkV, push_cast, reduceIte, Nat.reduceEqDiff, reduceCtorEq, Nat.reduceAdd, Nat.reduceLeDiff, Nat.reduceBEq]))
      all_goals first | (first | exact finRo hwf (by first | exact .inl rfl | exact .inr rfl) (by first | rfl | (simp only [push_cast, reduceIte, Nat.reduceEqDiff, reduceCtorEq, Nat.reduceAdd, Nat.reduceLeDiff, Nat.reduceBEq]; exact rfl)) (by first | exact .inl rfl | (right; simp only [push_cast, reduceIte, Nat.reduceEqDiff, reduceCtorEq, Nat.reduceAdd, Nat.reduceLeDiff, Nat.reduceBEq]; try rfl)) (by first | rfl | assumption | exact bd_cmd | (simp [V.bd, V.bdL]; done)) (by simp) (by (repeat first | exact (wfR hwf _).subm | exact subR hm hwf | refine Sub.drop (by simp) ?_)) (by (repeat first | exact (hwf).suba | refine Sub.drop (by simp) ?_)) ((hwf).subx) (by first | assumption | (simp [*]; done) | (simp only [if_true, if_false, Bool.false_eq_true, *]; done) | fail) (by first | assumption | (simp [*]; done) | fail) | exact finRe hwf (by first | (simp [*]; done) | (simp only [if_true, if_false, Bool.false_eq_true, *]; done)) (by simp) (by (repeat first | exact (wfR hwf _).subm | exact subR hm hwf | refine Sub.drop (by simp) ?_)) (by (repeat first | exact (hwf).suba | refine Sub.drop (by simp) ?_)) ((hwf).subx))
    | true =>
      rw [rMust_ok he] at hR
      (repeat' first | (with_reducible intro x1 x2 hE hW <;> (try (have hI := rNumber_inv hE; obtain ⟨rfl, rfl, hK⟩ := hI)) <;> (try (have hI := rMust_inv hE; obtain ⟨rfl, -⟩ := hI)) <;> (try (have hI := rUnit_inv hE; obtain ⟨u1, u2, rfl⟩ := hI; dsimp only)) <;> try simp only [stR_eq, lookR, Option.map_some, hm, hf, tkV, push_cast, reduceIte, Nat.reduceEqDiff, reduceCtorEq, Nat.reduceAdd, Nat.reduceLeDiff, Nat.reduceBEq]) | (with_reducible intro x1 x2 x3 hE <;> try simp only [stR_eq, lookR, Option.map_some, hm, hf, tkV, push_cast, reduceIte, Nat.reduceEqDiff, reduceCtorEq, Nat.reduceAdd, Nat.reduceLeDiff, Nat.reduceBEq]) | ((first | refine go rfl rfl ?_ | refine Cl.by_ (by (first | refine percent_v _ _ ht | refine must_ok he hG hw hm)) ?_ | refine RdK.c (by first | assumption | (simp only [stR_eq, lookR, Option.map_some, hm, hf, tkV, push_cast, reduceIte, Nat.reduceEqDiff, reduceCtorEq, Nat.reduceAdd, Nat.reduceLeDiff, Nat.reduceBEq] <;> exact rfl)) (by assumption) (by assumption) ?_ | refine snap_two (by simp only [stR_eq, lookR, Option.map_some, hm, hf, tkV, push_cast, reduceIte, Nat.reduceEqDiff, reduceCtorEq, Nat.reduceAdd, Nat.reduceLeDiff, Nat.reduceBEq] <;> exact rfl) ?_ | (refine Fk.by_ ?_ ?_ <;> intro hc <;> try simp only [hc]) | refine storeK_eq rfl ?_ | with_reducible refine And.intro ?_ ?_ | fail) <;> try simp only [stR_eq, lookR, Option.map_some, hm, hf, tkV, push_cast, reduceIte, Nat.reduceEqDiff, reduceCtorEq, Nat.reduceAdd, Nat.reduceLeDiff, Nat.reduceBEq]))
      all_goals have hw' := hw.tail hk3
      all_goals first | (first | exact finRo hwf (by first | exact .inl rfl | exact .inr rfl) (by first | rfl | (simp only [push_cast, reduceIte, Nat.reduceEqDiff, reduceCtorEq, Nat.reduceAdd, Nat.reduceLeDiff, Nat.reduceBEq]; exact rfl)) (by first | exact .inl rfl | (right; simp only [push_cast, reduceIte, Nat.reduceEqDiff, reduceCtorEq, Nat.reduceAdd, Nat.reduceLeDiff, Nat.reduceBEq]; try rfl)) (by first | rfl | assumption | exact bd_cmd | (simp [V.bd, V.bdL]; done)) (by simp) (by (repeat first | exact (wfR hwf _).subm | exact subR hm hwf | refine Sub.drop (by simp) ?_)) (by (repeat first | exact (hwf).suba | refine Sub.drop (by simp) ?_)) ((hwf).subx) (by first | assumption | (simp [*]; done) | (simp only [if_true, if_false, Bool.false_eq_true, *]; done) | fail) (by first | assumption | (simp [*]; done) | fail) | exact finRe hwf (by first | (simp [*]; done) | (simp only [if_true, if_false, Bool.false_eq_true, *]; done)) (by simp) (by (repeat first | exact (wfR hwf _).subm | exact subR hm hwf | refine Sub.drop (by simp) ?_)) (by (repeat first | exact (hwf).suba | refine Sub.drop (by simp) ?_)) ((hwf).subx))
  | false =>
    cases hk : (hd ts).k != 1 with
    | true =>
      have hE : rLevel ts = .error ((hd ts).a, 4) := by simp only [rLevel, hf, Bool.false_eq_true, if_false]; exact rNum_err hk
      (repeat' first | (with_reducible intro x1 x2 hE hW <;> (try (have hI := rNumber_inv hE; obtain ⟨rfl, rfl, hK⟩ := hI)) <;> (try (have hI := rMust_inv hE; obtain ⟨rfl, -⟩ := hI)) <;> (try (have hI := rUnit_inv hE; obtain ⟨u1, u2, rfl⟩ := hI; dsimp only)) <;> try simp only [stR_eq, lookR, Option.map_some, hf, push_cast, reduceIte, Nat.reduceEqDiff, reduceCtorEq, Nat.reduceAdd, Nat.reduceLeDiff, Nat.reduceBEq]) | (with_reducible intro x1 x2 x3 hE <;> try simp only [stR_eq, lookR, Option.map_some, hf, push_cast, reduceIte, Nat.reduceEqDiff, reduceCtorEq, Nat.reduceAdd, Nat.reduceLeDiff, Nat.reduceBEq]) | ((first | refine go rfl rfl ?_ | refine number_fail hk hG hw hm (fun ts' => ?_) | refine RdK.c (by first | assumption | (simp only [stR_eq, lookR, Option.map_some, hf, push_cast, reduceIte, Nat.reduceEqDiff, reduceCtorEq, Nat.reduceAdd, Nat.reduceLeDiff, Nat.reduceBEq] <;> exact rfl)) (by assumption) (by assumption) ?_ | refine snap_two (by simp only [stR_eq, lookR, Option.map_some, hf, push_cast, reduceIte, Nat.reduceEqDiff, reduceCtorEq, Nat.reduceAdd, Nat.reduceLeDiff, Nat.reduceBEq] <;> exact rfl) ?_ | (refine Fk.by_ ?_ ?_ <;> intro hc <;> try simp only [hc]) | refine storeK_eq rfl ?_ | with_reducible refine And.intro ?_ ?_ | fail) <;> try simp only [stR_eq, lookR, Option.map_some, hf, push_cast, reduceIte, Nat.reduceEqDiff, reduceCtorEq, Nat.reduceAdd, Nat.reduceLeDiff, Nat.reduceBEq]))
      all_goals first | (first | exact finRo hwf (by first | exact .inl rfl | exact .inr rfl) (by first | rfl | (simp only [push_cast, reduceIte, Nat.reduceEqDiff, reduceCtorEq, Nat.reduceAdd, Nat.reduceLeDiff, Nat.reduceBEq]; exact rfl)) (by first | exact .inl rfl | (right; simp only [push_cast, reduceIte, Nat.reduceEqDiff, reduceCtorEq, Nat.reduceAdd, Nat.reduceLeDiff, Nat.reduceBEq]; try rfl)) (by first | rfl | assumption | exact bd_cmd | (simp [V.bd, V.bdL]; done)) (by simp) (by (repeat first | exact (wfR hwf _).subm | exact subR hm hwf | refine Sub.drop (by simp) ?_)) (by (repeat first | exact (hwf).suba | refine Sub.drop (by simp) ?_)) ((hwf).subx) (by first | assumption | (simp [*]; done) | (simp only [if_true, if_false, Bool.false_eq_true, *]; done) | fail) (by first | assumption | (simp [*]; done) | fail) | exact finRe hwf (by first | (simp [*]; done) | (simp only [if_true, if_false, Bool.false_eq_true, *]; done)) (by simp) (by (repeat first | exact (wfR hwf _).subm | exact subR hm hwf | refine Sub.drop (by simp) ?_)) (by (repeat first | exact (hwf).suba | refine Sub.drop (by simp) ?_)) ((hwf).subx))
    | false =>
      have hn := number_ok hk hG hw hm
      have hR : rLevel ts = rNext (rMust (pctN (hd ts).t).2) (fun _ ts => .ok ((pctN (hd ts).t).1, ts.tail)) ts := by
        simp only [rLevel, hf, Bool.false_eq_true, if_false]
        rw [rNum_ok hk]
        cases he : (pctN (hd ts).t).2 == 0
        · rw [rMust_err he, rMust_err he]
        · rw [rMust_ok he, rMust_ok he]
      cases he : (pctN (hd ts).t).2 == 0 with
      | false =>
        rw [rMust_err he] at hR
        (repeat' first | (with_reducible intro x1 x2 hE hW <;> (try (have hI := rNumber_inv hE; obtain ⟨rfl, rfl, hK⟩ := hI)) <;> (try (have hI := rMust_inv hE; obtain ⟨rfl, -⟩ := hI)) <;> (try (have hI := rUnit_inv hE; obtain ⟨u1, u2, rfl⟩ := hI; dsimp only)) <;> try simp only [stR_eq, lookR, Option.map_some, hm, hf, tkV, push_cast, reduceIte, Nat.reduceEqDiff, reduceCtorEq, Nat.reduceAdd, Nat.reduceLeDiff, Nat.reduceBEq]) | (with_reducible intro x1 x2 x3 hE <;> try simp only [stR_eq, lookR, Option.map_some, hm, hf, tkV, push_cast, reduceIte, Nat.reduceEqDiff, reduceCtorEq, Nat.reduceAdd, Nat.reduceLeDiff, Nat.reduceBEq]) | ((first | refine go rfl rfl ?_ | refine must_fail he hG hw hm (fun ts' => ?_) | refine Cl.by_ (by (first | refine hn | refine percent_v _ _ ht)) ?_ | refine RdK.c (by first | assumption | (simp only [stR_eq, lookR, Option.map_some, hm, hf, tkV, push_cast, reduceIte, Nat.reduceEqDiff, reduceCtorEq, Nat.reduceAdd, Nat.reduceLeDiff, Nat.reduceBEq] <;> exact rfl)) (by assumption) (by assumption) ?_ | refine snap_two (by simp only [stR_eq, lookR, Option.map_some, hm, hf, tkV, push_cast, reduceIte, Nat.reduceEqDiff, reduceCtorEq, Nat.reduceAdd, Nat.reduceLeDiff, Nat.reduceBEq] <;> exact rfl) ?_ | (refine Fk.by_ ?_ ?_ <;> intro hc <;> try simp only [hc]) | refine storeK_eq rfl ?_ | with_reducible refine And.intro ?_ ?_ | fail) <;> try simp only [stR_eq, lookR, Option.map_some, hm, hf, tkV, push_cast, reduceIte, Nat.reduceEqDiff, reduceCtorEq, Nat.reduceAdd, Nat.reduceLeDiff, Nat.reduceBEq]))
        all_goals first | (first | exact finRo hwf (by first | exact .inl rfl | exact .inr rfl) (by first | rfl | (simp only [push_cast, reduceIte, Nat.reduceEqDiff, reduceCtorEq, Nat.reduceAdd, Nat.reduceLeDiff, Nat.reduceBEq]; exact rfl)) (by first | exact .inl rfl | (right; simp only [push_cast, reduceIte, Nat.reduceEqDiff, reduceCtorEq, Nat.reduceAdd, Nat.reduceLeDiff, Nat.reduceBEq]; try rfl)) (by first | rfl | assumption | exact bd_cmd | (simp [V.bd, V.bdL]; done)) (by simp) (by (repeat first | exact (wfR hwf _).subm | exact subR hm hwf | refine Sub.drop (by simp) ?_)) (by (repeat first | exact (hwf).suba | refine Sub.drop (by simp) ?_)) ((hwf).subx) (by first | assumption | (simp [*]; done) | (simp only [if_true, if_false, Bool.false_eq_true, *]; done) | fail) (by first | assumption | (simp [*]; done) | fail) | exact finRe hwf (by first | (simp [*]; done) | (simp only [if_true, if_false, Bool.false_eq_true, *]; done)) (by simp) (by (repeat first | exact (wfR hwf _).subm | exact subR hm hwf | refine Sub.drop (by simp) ?_)) (by (repeat first | exact (hwf).suba | refine Sub.drop (by simp) ?_)) ((hwf).subx))
      | true =>
        rw [rMust_ok he] at hR
        (repeat' first | (with_reducible intro x1 x2 hE hW <;> (try (have hI := rNumber_inv hE; obtain ⟨rfl, rfl, hK⟩ := hI)) <;> (try (have hI := rMust_inv hE; obtain ⟨rfl, -⟩ := hI)) <;> (try (have hI := rUnit_inv hE; obtain ⟨u1, u2, rfl⟩ := hI; dsimp only)) <;> try simp only [stR_eq, lookR, Option.map_some, hm, hf, tkV, push_cast, reduceIte, Nat.reduceEqDiff, reduceCtorEq, Nat.reduceAdd, Nat.reduceLeDiff, Nat.reduceBEq]) | (with_reducible intro x1 x2 x3 hE <;> try simp only [stR_eq, lookR, Option.map_some, hm, hf, tkV, push_cast, reduceIte, Nat.reduceEqDiff, reduceCtorEq, Nat.reduceAdd, Nat.reduceLeDiff, Nat.reduceBEq]) | ((first | refine go rfl rfl ?_ | refine Cl.by_ (by (first | refine hn | refine percent_v _ _ ht | refine must_ok he hG hw hm)) ?_ | refine RdK.c (by first | assumption | (simp only [stR_eq, lookR, Option.map_some, hm, hf, tkV, push_cast, reduceIte, Nat.reduceEqDiff, reduceCtorEq, Nat.reduceAdd, Nat.reduceLeDiff, Nat.reduceBEq] <;> exact rfl)) (by assumption) (by assumption) ?_ | refine snap_two (by simp only [stR_eq, lookR, Option.map_some, hm, hf, tkV, push_cast, reduceIte, Nat.reduceEqDiff, reduceCtorEq, Nat.reduceAdd, Nat.reduceLeDiff, Nat.reduceBEq] <;> exact rfl) ?_ | (refine Fk.by_ ?_ ?_ <;> intro hc <;> try simp only [hc]) | refine storeK_eq rfl ?_ | with_reducible refine And.intro ?_ ?_ | fail) <;> try simp only [stR_eq, lookR, Option.map_some, hm, hf, tkV, push_cast, reduceIte, Nat.reduceEqDiff, reduceCtorEq, Nat.reduceAdd, Nat.reduceLeDiff, Nat.reduceBEq]))
        all_goals have hw' := hw.tail (k1_ne hk)
        all_goals first | (first | exact finRo hwf (by first | exact .inl rfl | exact .inr rfl) (by first | rfl | (simp only [push_cast, reduceIte, Nat.reduceEqDiff, reduceCtorEq, Nat.reduceAdd, Nat.reduceLeDiff, Nat.reduceBEq]; exact rfl)) (by first | exact .inl rfl | (right; simp only [push_cast, reduceIte, Nat.reduceEqDiff, reduceCtorEq, Nat.reduceAdd, Nat.reduceLeDiff, Nat.reduceBEq]; try rfl)) (by first | rfl | assumption | exact bd_cmd | (simp [V.bd, V.bdL]; done)) (by simp) (by (repeat first | exact (wfR hwf _).subm | exact subR hm hwf | refine Sub.drop (by simp) ?_)) (by (repeat first | exact (hwf).suba | refine Sub.drop (by simp) ?_)) ((hwf).subx) (by first | assumption | (simp [*]; done) | (simp only [if_true, if_false, Bool.false_eq_true, *]; done) | fail) (by first | assumption | (simp [*]; done) | fail) | exact finRe hwf (by first | (simp [*]; done) | (simp only [if_true, if_false, Bool.false_eq_true, *]; done)) (by simp) (by (repeat first | exact (wfR hwf _).subm | exact subR hm hwf | refine Sub.drop (by simp) ?_)) (by (repeat first | exact (hwf).suba | refine Sub.drop (by simp) ?_)) ((hwf).subx))
instance : RdK 112 [] (RdP rLevel (fun n => .int .i64 n)) := (rlevel_v).k
theorem rNumber_inv {ts ts' : List Tok} {a : List UInt8} (h : rNumber ts = .ok (a, ts')) : (hd ts).t = a ∧ ts = ts' ∧ (hd ts).k ≠ 3 := by
  unfold rNumber at h
  split at h
  · cases h
  · rename_i hk
    injection h with h; injection h with h1 h2
    exact ⟨h1, h2, by simp at hk; omega⟩
theorem rMust_inv {ts ts' : List Tok} {e : Int} {a : Unit} (h : rMust e ts = .ok (a, ts')) : ts = ts' ∧ e = 0 := by
  unfold rMust at h
  split at h
  · rename_i hk
    injection h with h; injection h with h1 h2
    exact ⟨h2, by simpa using hk⟩
  · split at h <;> cases h
theorem rtime_v : RdC 113 [] rTime (fun n => .int .i64 n) := by
  intro st rid ts hG hw hm
  refine VCalls_of F113_ok mixed (Nat.le_of_ble_eq_true rfl) (fun hwf => ?_)
  have hrid := (hwf.mem _ _ hm).1
  (repeat' first | (with_reducible intro x1 x2 hE hW <;> (try (have hI := rNumber_inv hE; obtain ⟨rfl, rfl, hK⟩ := hI)) <;> (try (have hI := rMust_inv hE; obtain ⟨rfl, -⟩ := hI)) <;> (try (have hI := rUnit_inv hE; obtain ⟨u1, u2, rfl⟩ := hI; dsimp only)) <;> try simp only [stR_eq, lookR, Option.map_some, hm, push_cast, reduceIte, Nat.reduceEqDiff, reduceCtorEq, Nat.reduceAdd, Nat.reduceLeDiff, Nat.reduceBEq]) | (with_reducible intro x1 x2 x3 hE <;> try simp only [stR_eq, lookR, Option.map_some, hm, push_cast, reduceIte, Nat.reduceEqDiff, reduceCtorEq, Nat.reduceAdd, Nat.reduceLeDiff, Nat.reduceBEq]) | ((first | refine go rfl rfl ?_ | refine Cl.by_ (by (first | refine seconds_v _ _ hG (WfT.txt (by assumption)))) ?_ | refine RdK.c (by first | assumption | (simp only [stR_eq, lookR, Option.map_some, hm, push_cast, reduceIte, Nat.reduceEqDiff, reduceCtorEq, Nat.reduceAdd, Nat.reduceLeDiff, Nat.reduceBEq] <;> exact rfl)) (by assumption) (by assumption) ?_ | refine snap_two (by simp only [stR_eq, lookR, Option.map_some, hm, push_cast, reduceIte, Nat.reduceEqDiff, reduceCtorEq, Nat.reduceAdd, Nat.reduceLeDiff, Nat.reduceBEq] <;> exact rfl) ?_ | (refine Fk.by_ ?_ ?_ <;> intro hc <;> try simp only [hc]) | refine storeK_eq rfl ?_ | with_reducible refine And.intro ?_ ?_ | fail) <;> try simp only [stR_eq, lookR, Option.map_some, hm, push_cast, reduceIte, Nat.reduceEqDiff, reduceCtorEq, Nat.reduceAdd, Nat.reduceLeDiff, Nat.reduceBEq]))
  all_goals try have hw' := WfT.tail hW hK
  all_goals first | (first | exact finRo hwf (by first | exact .inl rfl | exact .inr rfl) (by first | rfl | (simp only [rTime, rNext, rOk, push_cast, reduceIte, Nat.reduceEqDiff, reduceCtorEq, Nat.reduceAdd, Nat.reduceLeDiff, Nat.reduceBEq]; exact rfl)) (by first | exact .inl rfl | (right; simp only [push_cast, reduceIte, Nat.reduceEqDiff, reduceCtorEq, Nat.reduceAdd, Nat.reduceLeDiff, Nat.reduceBEq]; try rfl)) (by first | rfl | assumption | exact bd_cmd | (simp [V.bd, V.bdL]; done)) (by simp) (by (repeat first | exact (wfR hwf _).subm | exact subR hm hwf | refine Sub.drop (by simp) ?_)) (by (repeat first | exact (hwf).suba | refine Sub.drop (by simp) ?_)) ((hwf).subx) (by first | assumption | (simp [rTime, rNext, rOk, *]; done) | (simp only [rTime, rNext, rOk, if_true, if_false, Bool.false_eq_true, *]; done) | fail) (by first | assumption | (simp [rTime, rNext, rOk, *]; done) | fail) | exact finRe hwf (by first | (simp [rTime, rNext, rOk, *]; done) | (simp only [rTime, rNext, rOk, if_true, if_false, Bool.false_eq_true, *]; done)) (by simp) (by (repeat first | exact (wfR hwf _).subm | exact subR hm hwf | refine Sub.drop (by simp) ?_)) (by (repeat first | exact (hwf).suba | refine Sub.drop (by simp) ?_)) ((hwf).subx))
instance : RdK 113 [] (RdP rTime (fun n => .int .i64 n)) := (rtime_v).k
end Go.Proofs.YtnondemehfkalaaGreatDoor

set_option maxRecDepth 10000
namespace Go.Proofs.YtnondemehfkalaaGreatDoor
open Go.Sha

theorem cutW_len {c : UInt8} {s : List UInt8} {n : Nat} (h : s.length < n) : (cutW c s).length < n := by unfold cutW; rw [List.length_take]; omega
theorem cutR_len {c : UInt8} {s : List UInt8} {n : Nat} (h : s.length < n) : (cutR c s).length < n := by unfold cutR; rw [List.length_drop]; omega
theorem dg1 {s : List UInt8} (h : (!digsB s) = false) : s ≠ [] := (digsB_ok (by simpa using h)).1
theorem dg2 {s : List UInt8} (h : (!digsB s) = false) : s.all digB = true := (digsB_ok (by simpa using h)).2
theorem lt62 {n : Nat} (h : n < 140737488355328) : n < 4611686018427387904 := by omega

theorem k0_ne {ts : List Tok} (hk : ((hd ts).k != 0) = false) : (hd ts).k ≠ 3 := by
  simp at hk; omega
set_option maxHeartbeats 1000000 in
theorem runit_v : RdC 172 [] rUnit fixV := by
  intro st rid ts hG hw hm
  refine VCalls_of F172_ok mixed (Nat.le_of_ble_eq_true rfl) (fun hwf => ?_)
  have hrid := (hwf.mem _ _ hm).1
  have e1 : (st.nx = rid) = False := eq_false (by omega)
  have e2 : (st.nx + 1 = rid) = False := eq_false (by omega)
  have e3 : (st.nx + 2 = rid) = False := eq_false (by omega)
  have d49 : digsB [49] = true := rfl
  have c49 : capV (numD [49]) = 1 := rfl
  (repeat' first | (with_reducible intro x1 x2 hE hW <;> (try (have hI := rNumber_inv hE; obtain ⟨rfl, rfl, hK⟩ := hI)) <;> (try (have hI := rMust_inv hE; obtain ⟨rfl, -⟩ := hI)) <;> (try (have hI := rUnit_inv hE; obtain ⟨u1, u2, rfl⟩ := hI; dsimp only)) <;> try simp only [stR_eq, lookR, Option.map_some, hm, e1, e2, e3, d49, push_cast, reduceIte, Nat.reduceEqDiff, reduceCtorEq, Nat.reduceAdd, Nat.reduceLeDiff, Nat.reduceBEq]) | (with_reducible intro x1 x2 x3 hE <;> try simp only [stR_eq, lookR, Option.map_some, hm, e1, e2, e3, d49, push_cast, reduceIte, Nat.reduceEqDiff, reduceCtorEq, Nat.reduceAdd, Nat.reduceLeDiff, Nat.reduceBEq]) | ((first | refine go rfl rfl ?_ | refine Cl.by_ (by (first | refine cut_v _ _ _ (lt62 (WfT.txt (by assumption))) | refine digits_v _ _ (lt62 (cutW_len (WfT.txt (by assumption)))) | refine digits_v _ _ (lt62 (cutR_len (WfT.txt (by assumption)))) | refine digits_v [49] _ (by decide) | refine value_v _ _ hG (cutW_len (WfT.txt (by assumption))) (dg1 (by first | assumption | (simp only [Bool.not_eq_false']; assumption))) (dg2 (by first | assumption | (simp only [Bool.not_eq_false']; assumption))) | refine value_v _ _ hG (cutR_len (WfT.txt (by assumption))) (dg1 (by first | assumption | (simp only [Bool.not_eq_false']; assumption))) (dg2 (by first | assumption | (simp only [Bool.not_eq_false']; assumption))) | refine value_v [49] _ hG (by decide) (by decide) (by decide))) ?_ | refine RdK.c (by first | assumption | (simp only [stR_eq, lookR, Option.map_some, hm, e1, e2, e3, d49, push_cast, reduceIte, Nat.reduceEqDiff, reduceCtorEq, Nat.reduceAdd, Nat.reduceLeDiff, Nat.reduceBEq] <;> exact rfl)) (by assumption) (by assumption) ?_ | refine snap_two (by simp only [stR_eq, lookR, Option.map_some, hm, e1, e2, e3, d49, push_cast, reduceIte, Nat.reduceEqDiff, reduceCtorEq, Nat.reduceAdd, Nat.reduceLeDiff, Nat.reduceBEq] <;> exact rfl) ?_ | (refine Fk.by_ ?_ ?_ <;> intro hc <;> try simp only [hc]) | refine storeK_eq rfl ?_ | with_reducible refine And.intro ?_ ?_ | fail) <;> try simp only [stR_eq, lookR, Option.map_some, hm, e1, e2, e3, d49, push_cast, reduceIte, Nat.reduceEqDiff, reduceCtorEq, Nat.reduceAdd, Nat.reduceLeDiff, Nat.reduceBEq]))
  all_goals try have hw' := WfT.tail hW hK
  all_goals first | (exfalso; simp [c49] at hc; done) | (first | exact finRo (a := ⟨_, _, _, _, _, _⟩) hwf (by first | exact .inl rfl | exact .inr rfl) (by first | rfl | (simp only [F172, rUnit, rNext, rOk, push_cast, reduceIte, Nat.reduceEqDiff, reduceCtorEq, Nat.reduceAdd, Nat.reduceLeDiff, Nat.reduceBEq]; exact rfl)) (by first | exact .inl rfl | (right; simp only [push_cast, reduceIte, Nat.reduceEqDiff, reduceCtorEq, Nat.reduceAdd, Nat.reduceLeDiff, Nat.reduceBEq]; try rfl)) (by first | rfl | assumption | exact bd_cmd | (simp [V.bd, V.bdL]; done)) (by simp) (by (repeat first | exact (wfR hwf _).subm | exact subR hm hwf | refine Sub.drop (by simp) ?_)) (by (repeat first | exact (hwf).suba | refine Sub.drop (by simp) ?_)) ((hwf).subx) (by first | assumption | (simp [F172, rUnit, rNext, rOk, *]; done) | (simp only [F172, rUnit, rNext, rOk, if_true, if_false, Bool.false_eq_true, *]; done) | fail) (by first | assumption | (simp [F172, rUnit, rNext, rOk, *]; done) | fail) | exact finRe hwf (by first | (simp [F172, rUnit, rNext, rOk, *]; done) | (simp only [F172, rUnit, rNext, rOk, if_true, if_false, Bool.false_eq_true, *]; done)) (by simp) (by (repeat first | exact (wfR hwf _).subm | exact subR hm hwf | refine Sub.drop (by simp) ?_)) (by (repeat first | exact (hwf).suba | refine Sub.drop (by simp) ?_)) ((hwf).subx))

instance : RdK 172 [] (RdP rUnit fixV) := (runit_v).k
theorem rprofile_v : RdC 173 [] rProfile .str := by
  intro st rid ts hG hw hm
  refine VCalls_of F173_ok mixed (Nat.le_of_ble_eq_true rfl) (fun hwf => ?_)
  have hrid := (hwf.mem _ _ hm).1
  have e1 : (st.nx = rid) = False := eq_false (by omega)
  have e2 : (st.nx + 1 = rid) = False := eq_false (by omega)
  have e3 : (st.nx + 2 = rid) = False := eq_false (by omega)
  (repeat' first | (with_reducible intro x1 x2 hE hW <;> (try (have hI := rNumber_inv hE; obtain ⟨rfl, rfl, hK⟩ := hI)) <;> (try (have hI := rMust_inv hE; obtain ⟨rfl, -⟩ := hI)) <;> (try (have hI := rUnit_inv hE; obtain ⟨u1, u2, rfl⟩ := hI; dsimp only)) <;> try simp only [stR_eq, lookR, Option.map_some, hm, e1, e2, e3, tkV, push_cast, reduceIte, Nat.reduceEqDiff, reduceCtorEq, Nat.reduceAdd, Nat.reduceLeDiff, Nat.reduceBEq]) | (with_reducible intro x1 x2 x3 hE <;> try simp only [stR_eq, lookR, Option.map_some, hm, e1, e2, e3, tkV, push_cast, reduceIte, Nat.reduceEqDiff, reduceCtorEq, Nat.reduceAdd, Nat.reduceLeDiff, Nat.reduceBEq]) | ((first | refine go rfl rfl ?_ | refine Cl.by_ (by (first | refine Word_v _ _ (WfT.txt (by assumption)))) ?_ | refine RdK.c (by first | assumption | (simp only [stR_eq, lookR, Option.map_some, hm, e1, e2, e3, tkV, push_cast, reduceIte, Nat.reduceEqDiff, reduceCtorEq, Nat.reduceAdd, Nat.reduceLeDiff, Nat.reduceBEq] <;> exact rfl)) (by assumption) (by assumption) ?_ | refine snap_two (by simp only [stR_eq, lookR, Option.map_some, hm, e1, e2, e3, tkV, push_cast, reduceIte, Nat.reduceEqDiff, reduceCtorEq, Nat.reduceAdd, Nat.reduceLeDiff, Nat.reduceBEq] <;> exact rfl) ?_ | (refine Fk.by_ ?_ ?_ <;> intro hc <;> try simp only [hc]) | refine storeK_eq rfl ?_ | with_reducible refine And.intro ?_ ?_ | fail) <;> try simp only [stR_eq, lookR, Option.map_some, hm, e1, e2, e3, tkV, push_cast, reduceIte, Nat.reduceEqDiff, reduceCtorEq, Nat.reduceAdd, Nat.reduceLeDiff, Nat.reduceBEq]))
  all_goals try have hw' := hw.tail (k0_ne (by assumption))
  all_goals first | (first | exact finRo hwf (by first | exact .inl rfl | exact .inr rfl) (by first | rfl | (simp only [rProfile, rNext, rOk, push_cast, reduceIte, Nat.reduceEqDiff, reduceCtorEq, Nat.reduceAdd, Nat.reduceLeDiff, Nat.reduceBEq]; exact rfl)) (by first | exact .inl rfl | (right; simp only [push_cast, reduceIte, Nat.reduceEqDiff, reduceCtorEq, Nat.reduceAdd, Nat.reduceLeDiff, Nat.reduceBEq]; try rfl)) (by first | rfl | assumption | exact bd_cmd | (simp [V.bd, V.bdL]; done)) (by simp) (by (repeat first | exact (wfR hwf _).subm | exact subR hm hwf | refine Sub.drop (by simp) ?_)) (by (repeat first | exact (hwf).suba | refine Sub.drop (by simp) ?_)) ((hwf).subx) (by first | assumption | (simp [rProfile, rNext, rOk, *]; done) | (simp only [rProfile, rNext, rOk, if_true, if_false, Bool.false_eq_true, *]; done) | fail) (by first | assumption | (simp [rProfile, rNext, rOk, *]; done) | fail) | exact finRe hwf (by first | (simp [rProfile, rNext, rOk, *]; done) | (simp only [rProfile, rNext, rOk, if_true, if_false, Bool.false_eq_true, *]; done)) (by simp) (by (repeat first | exact (wfR hwf _).subm | exact subR hm hwf | refine Sub.drop (by simp) ?_)) (by (repeat first | exact (hwf).suba | refine Sub.drop (by simp) ?_)) ((hwf).subx))

instance : RdK 173 [] (RdP rProfile .str) := (rprofile_v).k
theorem rkind_v (none : Int) : RdC 108 [.int .i64 none] (rKind none) (fun n => .int .i64 n) := by
  intro st rid ts hG hw hm
  refine VCalls_of F108_ok mixed (Nat.le_of_ble_eq_true rfl) (fun hwf => ?_)
  have hrid := (hwf.mem _ _ hm).1
  have e1 : (st.nx = rid) = False := eq_false (by omega)
  have e2 : (st.nx + 1 = rid) = False := eq_false (by omega)
  have e3 : (st.nx + 2 = rid) = False := eq_false (by omega)
  (repeat' first | (with_reducible intro x1 x2 hE hW <;> (try (have hI := rNumber_inv hE; obtain ⟨rfl, rfl, hK⟩ := hI)) <;> (try (have hI := rMust_inv hE; obtain ⟨rfl, -⟩ := hI)) <;> (try (have hI := rUnit_inv hE; obtain ⟨u1, u2, rfl⟩ := hI; dsimp only)) <;> try simp only [stR_eq, lookR, Option.map_some, hm, e1, e2, e3, tkV, push_cast, reduceIte, Nat.reduceEqDiff, reduceCtorEq, Nat.reduceAdd, Nat.reduceLeDiff, Nat.reduceBEq]) | (with_reducible intro x1 x2 x3 hE <;> try simp only [stR_eq, lookR, Option.map_some, hm, e1, e2, e3, tkV, push_cast, reduceIte, Nat.reduceEqDiff, reduceCtorEq, Nat.reduceAdd, Nat.reduceLeDiff, Nat.reduceBEq]) | ((first | refine go rfl rfl ?_ | refine Cl.by_ (by (first | refine attr_v _ _ hG)) ?_ | refine RdK.c (by first | assumption | (simp only [stR_eq, lookR, Option.map_some, hm, e1, e2, e3, tkV, push_cast, reduceIte, Nat.reduceEqDiff, reduceCtorEq, Nat.reduceAdd, Nat.reduceLeDiff, Nat.reduceBEq] <;> exact rfl)) (by assumption) (by assumption) ?_ | refine snap_two (by simp only [stR_eq, lookR, Option.map_some, hm, e1, e2, e3, tkV, push_cast, reduceIte, Nat.reduceEqDiff, reduceCtorEq, Nat.reduceAdd, Nat.reduceLeDiff, Nat.reduceBEq] <;> exact rfl) ?_ | (refine Fk.by_ ?_ ?_ <;> intro hc <;> try simp only [hc]) | refine storeK_eq rfl ?_ | with_reducible refine And.intro ?_ ?_ | fail) <;> try simp only [stR_eq, lookR, Option.map_some, hm, e1, e2, e3, tkV, push_cast, reduceIte, Nat.reduceEqDiff, reduceCtorEq, Nat.reduceAdd, Nat.reduceLeDiff, Nat.reduceBEq]))
  all_goals try have hw' := hw.tail (k0_ne (by assumption))
  all_goals first | (first | exact finRo hwf (by first | exact .inl rfl | exact .inr rfl) (by first | rfl | (simp only [rKind, rNext, rOk, push_cast, reduceIte, Nat.reduceEqDiff, reduceCtorEq, Nat.reduceAdd, Nat.reduceLeDiff, Nat.reduceBEq]; exact rfl)) (by first | exact .inl rfl | (right; simp only [push_cast, reduceIte, Nat.reduceEqDiff, reduceCtorEq, Nat.reduceAdd, Nat.reduceLeDiff, Nat.reduceBEq]; try rfl)) (by first | rfl | assumption | exact bd_cmd | (simp [V.bd, V.bdL]; done)) (by simp) (by (repeat first | exact (wfR hwf _).subm | exact subR hm hwf | refine Sub.drop (by simp) ?_)) (by (repeat first | exact (hwf).suba | refine Sub.drop (by simp) ?_)) ((hwf).subx) (by first | assumption | (simp [rKind, rNext, rOk, *]; done) | (simp only [rKind, rNext, rOk, if_true, if_false, Bool.false_eq_true, *]; done) | fail) (by first | assumption | (simp [rKind, rNext, rOk, *]; done) | fail) | exact finRe hwf (by first | (simp [rKind, rNext, rOk, *]; done) | (simp only [rKind, rNext, rOk, if_true, if_false, Bool.false_eq_true, *]; done)) (by simp) (by (repeat first | exact (wfR hwf _).subm | exact subR hm hwf | refine Sub.drop (by simp) ?_)) (by (repeat first | exact (hwf).suba | refine Sub.drop (by simp) ?_)) ((hwf).subx))

instance {none : Int} : RdK 108 [.int .i64 none] (RdP (rKind none) (fun n => .int .i64 n)) := (rkind_v none).k
theorem rterm_v (op : Int) : RdC 90 [.int .i64 op] (rTerm op) selV := by
  intro st rid ts hG hw hm
  refine VCalls_of F90_ok mixed (Nat.le_of_ble_eq_true rfl) (fun hwf => ?_)
  have hrid := (hwf.mem _ _ hm).1
  have e1 : (st.nx = rid) = False := eq_false (by omega)
  have e2 : (st.nx + 1 = rid) = False := eq_false (by omega)
  have e3 : (st.nx + 2 = rid) = False := eq_false (by omega)
  (repeat' first | (with_reducible intro x1 x2 hE hW <;> (try (have hI := rNumber_inv hE; obtain ⟨rfl, rfl, hK⟩ := hI)) <;> (try (have hI := rMust_inv hE; obtain ⟨rfl, -⟩ := hI)) <;> (try (have hI := rUnit_inv hE; obtain ⟨u1, u2, rfl⟩ := hI; dsimp only)) <;> try simp only [stR_eq, lookR, Option.map_some, hm, e1, e2, e3, tkV, push_cast, reduceIte, Nat.reduceEqDiff, reduceCtorEq, Nat.reduceAdd, Nat.reduceLeDiff, Nat.reduceBEq]) | (with_reducible intro x1 x2 x3 hE <;> try simp only [stR_eq, lookR, Option.map_some, hm, e1, e2, e3, tkV, push_cast, reduceIte, Nat.reduceEqDiff, reduceCtorEq, Nat.reduceAdd, Nat.reduceLeDiff, Nat.reduceBEq]) | ((first | refine go rfl rfl ?_ | refine RdK.c (by first | assumption | (simp only [stR_eq, lookR, Option.map_some, hm, e1, e2, e3, tkV, push_cast, reduceIte, Nat.reduceEqDiff, reduceCtorEq, Nat.reduceAdd, Nat.reduceLeDiff, Nat.reduceBEq] <;> exact rfl)) (by assumption) (by assumption) ?_ | refine snap_two (by simp only [stR_eq, lookR, Option.map_some, hm, e1, e2, e3, tkV, push_cast, reduceIte, Nat.reduceEqDiff, reduceCtorEq, Nat.reduceAdd, Nat.reduceLeDiff, Nat.reduceBEq] <;> exact rfl) ?_ | (refine Fk.by_ ?_ ?_ <;> intro hc <;> try simp only [hc]) | refine storeK_eq rfl ?_ | with_reducible refine And.intro ?_ ?_ | fail) <;> try simp only [stR_eq, lookR, Option.map_some, hm, e1, e2, e3, tkV, push_cast, reduceIte, Nat.reduceEqDiff, reduceCtorEq, Nat.reduceAdd, Nat.reduceLeDiff, Nat.reduceBEq]))
  all_goals first | (first | exact finRo (a := ⟨_, _, _, _⟩) hwf (by first | exact .inl rfl | exact .inr rfl) (by first | rfl | (simp only [F90, rTerm, rNext, rOk, push_cast, reduceIte, Nat.reduceEqDiff, reduceCtorEq, Nat.reduceAdd, Nat.reduceLeDiff, Nat.reduceBEq]; exact rfl)) (by first | exact .inl rfl | (right; simp only [push_cast, reduceIte, Nat.reduceEqDiff, reduceCtorEq, Nat.reduceAdd, Nat.reduceLeDiff, Nat.reduceBEq]; try rfl)) (by first | rfl | assumption | exact bd_cmd | (simp [V.bd, V.bdL]; done)) (by simp) (by (repeat first | exact (wfR hwf _).subm | exact subR hm hwf | refine Sub.drop (by simp) ?_)) (by (repeat first | exact (hwf).suba | refine Sub.drop (by simp) ?_)) ((hwf).subx) (by first | assumption | (simp [F90, rTerm, rNext, rOk, *]; done) | (simp only [F90, rTerm, rNext, rOk, if_true, if_false, Bool.false_eq_true, *]; done) | fail) (by first | assumption | (simp [F90, rTerm, rNext, rOk, *]; done) | fail) | exact finRe hwf (by first | (simp [F90, rTerm, rNext, rOk, *]; done) | (simp only [F90, rTerm, rNext, rOk, if_true, if_false, Bool.false_eq_true, *]; done)) (by simp) (by (repeat first | exact (wfR hwf _).subm | exact subR hm hwf | refine Sub.drop (by simp) ?_)) (by (repeat first | exact (hwf).suba | refine Sub.drop (by simp) ?_)) ((hwf).subx))
instance {op : Int} : RdK 90 [.int .i64 op] (RdP (rTerm op) selV) := (rterm_v op).k
end Go.Proofs.YtnondemehfkalaaGreatDoor
