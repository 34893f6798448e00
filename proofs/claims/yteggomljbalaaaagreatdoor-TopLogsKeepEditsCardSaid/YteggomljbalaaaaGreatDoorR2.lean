/- The compiled code of functions of this seat, printed by a program, and that it is the translation's: checked by the kernel. DERIVED: THE SHELF's CONTRACTS AT THIS DUMP,IN PLAIN WORDS (tools/lay-plain. .. -/
import Derived.Test.YteggomljbalaaaaGreatDoorRShbYB
import Derived.Test.YteggomljbalaaaaGreatDoorProg
import Derived.KernelRfl
import Derived.Shelf.Small.Utf8
import Derived.Shelf.Small.Bits
import Derived.Shelf.Small.Strs
import Derived.Shelf.Strconv.Atoi
import Derived.Shelf.Strconv.Itoa0
import Derived.Shelf.Strconv.Itoa1
import Derived.Shelf.LaysM
import Derived.Shelf.Strconv.Itoa2
import Derived.Shelf.Strconv.Itoa3
import Derived.Shelf.Strconv.AtoiErrFast
import Derived.Shelf.Strconv.ParseIntEmpty
import Derived.Shelf.Strconv.AtoiFail
import Derived.Shelf.Strconv.Clone
import Derived.Shelf.Strconv.SyntaxError
import Derived.Shelf.LaysC
import Derived.Shelf.Strconv.ToError
import Derived.Shelf.Strconv.Lower
import Derived.Shelf.Strconv.ParseUint10
import Derived.Shelf.Strconv.ParseUint10Empty
import Derived.Shelf.Strconv.ParseUint10Any
import Derived.Shelf.Strconv.ParseInt10
import Derived.Shelf.Strconv.AtoiLong
import Derived.Shelf.Strconv.AtoiInnerAll
import Derived.Shelf.Strconv.RangeError
import Derived.Shelf.Strconv.ToErrorRange
import Derived.Shelf.Strconv.AtoiAll
import Derived.Shelf.Strings.Search1
import Derived.Shelf.Strings.Search2
import Derived.Shelf.Strings.Cut
import Derived.Shelf.Strings.Shaped
import Derived.Shelf.GgClosure.StringsIndexFunc
import Derived.Ground.GgwProg
import Derived.Shelf.GgClosure.StringsIndexFuncTop
import Derived.Shelf.Strings.Prefix
import Derived.Shelf.Strings.Runes
import Derived.Shelf.Strings.AsciiSet
import Derived.Shelf.Unicode.DecodeSlow
import Derived.Test.YteggomljbalaaaaGreatDoorR1
import Derived.Test.YteggomljbalaaaaGreatDoorRShbT
import Derived.Lib.AtoiAllCases
import Derived.Laws.RangeAny
import Derived.Test.YteggomljbalaaaaGreatDoorCards
import Derived.Test.YteggomljbalaaaaGreatDoorRShbAC
import Derived.SizedLaws
import Derived.WalkKit
import Derived.ProofKit
import Derived.OpenShut
import Derived.ChangeMaps5
import Derived.LaidLaws
import Derived.LaidHandle
import Derived.Lay
import Derived.SevenTiedAt
set_option linter.unusedSimpArgs false
set_option linter.unusedVariables false
namespace Go.Proofs.YteggomljbalaaaaGreatDoor
open Go.Sha
set_option maxRecDepth 10000
theorem F106:compF Tryz.prog 106=some ⟨13,[.tmp 4,.tmp 5,.tmp 6],(.g [.s 4 (.mv (.w [])),.s 5 (.mv (.w [])),.k 6 false] (.g [.m 7 0,.m 8 1,.g' 9 160 7 8,.j 10 0 9,.j 11 1 9,.j 12 2 9,.m 4 10,.m 5 11,.m 6 12] (.ret [4,5,6])))⟩:=by kernel_rfl
theorem F110:compF Tryz.prog 110=some ⟨8,[.tmp 4],(.g [.k 4 false] (.g [.m 5 0,.m 6 1,.g' 7 163 5 6,.m 4 7] (.ret [4])))⟩:=by kernel_rfl
theorem F161:compF Tryz.prog 161=some ⟨9,[.tmp 4],(.g [.k 4 false] (.g [.m 5 0,.m 6 1,.g' 7 228 5 6,.v 8 .geq 7 0,.m 4 8] (.ret [4])))⟩:=by kernel_rfl
theorem F160:compF Tryz.prog 160=some ⟨23,[.tmp 4,.tmp 5,.tmp 6],(.g [.s 4 (.mv (.w [])),.s 5 (.mv (.w [])),.k 6 false] (.join [0] (.g [.m 8 0,.m 9 1,.g' 10 227 8 9,.m 7 10] (.g [.m 11 7,.v 12 .geq 11 0] (.i 12 (.q (.dreg 12 [.m 13 0,.m 14 7,.s 15 (.slices (.t 13) none (some (.t 14))),.m 16 0,.m 17 7,.m 18 1,.s 19 (.lens (.t 18)),.b 20 .add 17 19,.s 21 (.slices (.t 16) (some (.t 20)) none),.m 4 15,.m 5 21,.k 6 true]) (.ret [4,5,6])) .skip))) (.g [.m 22 0,.m 4 22,.s 5 (.mv (.w [])),.k 6 false] (.ret [4,5,6]))))⟩:=by kernel_rfl
theorem F163:compF Tryz.prog 163=some ⟨21,[.tmp 4],(.g [.k 4 false] (.join [4] (.reg [.m 5 0,.s 6 (.lens (.t 5)),.m 7 1,.s 8 (.lens (.t 7)),.b 9 .geq 6 8,.m 10 9,.my 11 0 10,.my 12 0 10,.y 13 (.lens (.t 12)) 10,.my 14 1 10,.y 15 (.lens (.t 14)) 10,.by' 16 .sub 13 15 10,.y 17 (.slices (.t 11) (some (.t 16)) none) 10,.my 18 1 10,.by' 19 .eql 17 18 10,.e 20 10 19,.m 4 20]) (.ret [4])))⟩:=by kernel_rfl
theorem F228:compF Tryz.prog 228=some ⟨8,[.tmp 4],(.g [.c 4 0] (.g [.m 5 0,.m 6 1,.s 7 (.f 288 [.t 5,.t 6,(.c (.bool true))]),.m 4 7] (.ret [4])))⟩:=by kernel_rfl
theorem F289:compF Tryz.prog 289=some ⟨43,[.tmp 4],(.g [.s 4 (.mv (.w []))] (.join [0,1] (.join [0,1,12] (.reg [.m 7 0,.s 8 (.bin .eql (.t 7) (.w [])),.m 9 8,.mx 10 1 9,.x 11 (.bin .eql (.t 10) (.w [])) 9,.o 12 9 11]) (.i 12 (.g [.m 13 0,.m 4 13] (.ret [4])) .skip)) (.join [0,1] (.join [0,1,21] (.reg [.m 14 1,.s 15 (.lens (.t 14)),.v 16 .eql 15 1,.m 17 16,.my 18 1 17,.y 19 (.ichr (.t 18) (.i 0)) 17,.y 20 (.bin .lss (.t 19) (.c (.int .u8 128))) 17,.e 21 17 20]) (.i 21 (.q (.dreg 8 [.m 22 0,.m 23 1,.s 24 (.ichr (.t 23) (.i 0)),.g' 25 326 22 24,.m 26 1,.s 27 (.ichr (.t 26) (.i 0)),.g' 28 325 25 27,.m 4 28]) (.ret [4])) .skip)) (.join [0,1] (.g [.m 30 1,.f 31 327 30,.m 29 31,.j 32 0 29,.j 33 1 29,.s 5 (.alloc 358 (List.replicate 256 (.bool false))),.w 256 5 32,.m 6 33] (.z [5] (.g [.m 34 6] (.i 34 (.g [.m 35 0,.g' 36 329 35 5,.g' 37 328 36 5,.m 4 37] (.ret [4])) .skip)))) (.g [.m 38 0,.m 39 1,.g' 40 331 38 39,.m 41 1,.g' 42 330 40 41,.m 4 42] (.ret [4]))))))⟩:=by kernel_rfl
def B328_0:Cd:=(.join [0,1] (.g [.m 5 0,.s 6 (.lens (.t 5)),.v 7 .gtr 6 0] (.i 7 .skip (.exit [0] 0))) (.block 1 (.join [0,1] (.g [.m 8 1,.m 9 0,.s 10 (.ichr (.t 9) (.i 0)),.g' 11 352 8 10,.z 12 11] (.i 12 (.exit [0] 0) .skip)) (.reg [.m 13 0,.s 14 (.slices (.t 13) (some (.i 1)) none),.m 0 14]))))
theorem F328:compF Tryz.prog 328=some ⟨16,[.tmp 4],(.g [.s 4 (.mv (.w []))] (.join [0] (.block 0 (.loop [0,1] [] B328_0)) (.g [.m 15 0,.m 4 15] (.ret [4]))))⟩:=by kernel_rfl
def B329_0:Cd:=(.join [0,1] (.g [.m 5 0,.s 6 (.lens (.t 5)),.v 7 .gtr 6 0] (.i 7 .skip (.exit [0] 0))) (.block 1 (.join [0,1] (.g [.m 8 1,.m 9 0,.m 10 0,.s 11 (.lens (.t 10)),.v 12 .sub 11 1,.s 13 (.ichr (.t 9) (.t 12)),.g' 14 352 8 13,.z 15 14] (.i 15 (.exit [0] 0) .skip)) (.reg [.m 16 0,.m 17 0,.s 18 (.lens (.t 17)),.v 19 .sub 18 1,.s 20 (.slices (.t 16) none (some (.t 19))),.m 0 20]))))
theorem F329:compF Tryz.prog 329=some ⟨22,[.tmp 4],(.g [.s 4 (.mv (.w []))] (.join [0] (.block 0 (.loop [0,1] [] B329_0)) (.g [.m 21 0,.m 4 21] (.ret [4]))))⟩:=by kernel_rfl
theorem F352:compF Tryz.prog 352=some ⟨10,[.tmp 4],(.g [.k 4 false] (.g [.m 5 0,.m 6 1,.s 7 (.k 5),.s 8 (.iadra 256 1 (.t 7) (.t 6)),.l 9 8,.m 4 9] (.ret [4])))⟩:=by kernel_rfl
end Go.Proofs.YteggomljbalaaaaGreatDoor

namespace Go.Proofs
open Go.Shelf
def Tryz.laysC172_ren:Go.Shelf.Ren:=⟨fun|172=>380|244=>381|245=>382|247=>383|279=>384|280=>385|281=>386|282=>387|287=>388|316=>389|171=>391|205=>390|321=>392|322=>393|243=>394|246=>395|283=>396|284=>397|285=>398|286=>399|129=>348|317=>400|318=>401|319=>402|320=>403|337=>404|338=>405|n=>n,fun|9=>9|3=>3|75=>409|76=>410|4=>4|5=>5|167=>413|37=>233|0=>0|85=>414|2=>2|168=>416|53=>379|175=>419|46=>257|210=>423|127=>427|145=>430|143=>428|21=>21|171=>432|173=>434|212=>437|51=>353|20=>20|213=>438|232=>439|233=>440|80=>441|n=>n,fun|15=>3|16=>4|17=>5|18=>6|19=>7|n=>n⟩
theorem Tryz.laysC172:Go.Proofs.LaysC.n172 Tryz.prog Tryz.laysC172_ren:={
 mixed:=by kernel_rfl
 f129:=Tryz.func348.trans (congrArg some (by kernel_rfl))
 f171:=Tryz.func391.trans (congrArg some (by kernel_rfl))
 f172:=Tryz.func380.trans (congrArg some (by kernel_rfl))
 f205:=Tryz.func390.trans (congrArg some (by kernel_rfl))
 f243:=Tryz.func394.trans (congrArg some (by kernel_rfl))
 f244:=Tryz.func381.trans (congrArg some (by kernel_rfl))
 f245:=Tryz.func382.trans (congrArg some (by kernel_rfl))
 f246:=Tryz.func395.trans (congrArg some (by kernel_rfl))
 f247:=Tryz.func383.trans (congrArg some (by kernel_rfl))
 f279:=Tryz.func384.trans (congrArg some (by kernel_rfl))
 f280:=Tryz.func385.trans (congrArg some (by kernel_rfl))
 f281:=Tryz.func386.trans (congrArg some (by kernel_rfl))
 f282:=Tryz.func387.trans (congrArg some (by kernel_rfl))
 f283:=Tryz.func396.trans (congrArg some (by kernel_rfl))
 f284:=Tryz.func397.trans (congrArg some (by kernel_rfl))
 f285:=Tryz.func398.trans (congrArg some (by kernel_rfl))
 f286:=Tryz.func399.trans (congrArg some (by kernel_rfl))
 f287:=Tryz.func388.trans (congrArg some (by kernel_rfl))
 f316:=Tryz.func389.trans (congrArg some (by kernel_rfl))
 f317:=Tryz.func400.trans (congrArg some (by kernel_rfl))
 f318:=Tryz.func401.trans (congrArg some (by kernel_rfl))
 f319:=Tryz.func402.trans (congrArg some (by kernel_rfl))
 f320:=Tryz.func403.trans (congrArg some (by kernel_rfl))
 f321:=Tryz.func392.trans (congrArg some (by kernel_rfl))
 f322:=Tryz.func393.trans (congrArg some (by kernel_rfl))
 f337:=Tryz.func404.trans (congrArg some (by kernel_rfl))
 f338:=Tryz.func405.trans (congrArg some (by kernel_rfl))
 t0:=Tryz.underlying0
 a0:=Tryz.isAgg0
 z0:=Tryz.sizeOf0
 v0:=Tryz.zeroValue0
 t2:=Tryz.underlying2
 a2:=Tryz.isAgg2
 z2:=Tryz.sizeOf2
 v2:=Tryz.zeroValue2
 t3:=Tryz.underlying3
 a3:=Tryz.isAgg3
 z3:=Tryz.sizeOf3
 v3:=Tryz.zeroValue3
 t4:=Tryz.underlying4
 a4:=Tryz.isAgg4
 z4:=Tryz.sizeOf4
 v4:=Tryz.zeroValue4
 t5:=Tryz.underlying5
 a5:=Tryz.isAgg5
 z5:=Tryz.sizeOf5
 v5:=Tryz.zeroValue5
 t9:=Tryz.underlying9
 a9:=Tryz.isAgg9
 z9:=Tryz.sizeOf9
 v9:=Tryz.zeroValue9
 t20:=Tryz.underlying20
 a20:=Tryz.isAgg20
 z20:=Tryz.sizeOf20
 v20:=Tryz.zeroValue20
 t21:=Tryz.underlying21
 a21:=Tryz.isAgg21
 z21:=Tryz.sizeOf21
 v21:=Tryz.zeroValue21
 t37:=Tryz.underlying233
 a37:=Tryz.isAgg233
 z37:=Tryz.sizeOf233
 v37:=Tryz.zeroValue233
 t46:=Tryz.underlying257
 a46:=Tryz.isAgg257
 z46:=Tryz.sizeOf257
 v46:=Tryz.zeroValue257
 t51:=Tryz.underlying353
 a51:=Tryz.isAgg353
 z51:=Tryz.sizeOf353
 v51:=Tryz.zeroValue353
 t53:=Tryz.underlying379
 a53:=Tryz.isAgg379
 z53:=Tryz.sizeOf379
 v53:=Tryz.zeroValue379
 t75:=Tryz.underlying409
 a75:=Tryz.isAgg409
 z75:=Tryz.sizeOf409
 v75:=Tryz.zeroValue409
 t76:=Tryz.underlying410
 a76:=Tryz.isAgg410
 z76:=Tryz.sizeOf410
 v76:=Tryz.zeroValue410
 t85:=Tryz.underlying414
 a85:=Tryz.isAgg414
 z85:=Tryz.sizeOf414
 v85:=Tryz.zeroValue414
 t127:=Tryz.underlying427
 a127:=Tryz.isAgg427
 z127:=Tryz.sizeOf427
 v127:=Tryz.zeroValue427
 t143:=Tryz.underlying428
 a143:=Tryz.isAgg428
 z143:=Tryz.sizeOf428
 v143:=Tryz.zeroValue428
 t145:=Tryz.underlying430
 a145:=Tryz.isAgg430
 z145:=Tryz.sizeOf430
 v145:=Tryz.zeroValue430
 t167:=Tryz.underlying413
 a167:=Tryz.isAgg413
 z167:=Tryz.sizeOf413
 v167:=Tryz.zeroValue413
 t168:=Tryz.underlying416
 a168:=Tryz.isAgg416
 z168:=Tryz.sizeOf416
 v168:=Tryz.zeroValue416
 t171:=Tryz.underlying432
 a171:=Tryz.isAgg432
 z171:=Tryz.sizeOf432
 v171:=Tryz.zeroValue432
 t173:=Tryz.underlying434
 a173:=Tryz.isAgg434
 z173:=Tryz.sizeOf434
 v173:=Tryz.zeroValue434
 t175:=Tryz.underlying419
 a175:=Tryz.isAgg419
 z175:=Tryz.sizeOf419
 v175:=Tryz.zeroValue419
 t210:=Tryz.underlying423
 a210:=Tryz.isAgg423
 z210:=Tryz.sizeOf423
 v210:=Tryz.zeroValue423
 t212:=Tryz.underlying437
 a212:=Tryz.isAgg437
 z212:=Tryz.sizeOf437
 v212:=Tryz.zeroValue437
 t213:=Tryz.underlying438
 a213:=Tryz.isAgg438
 z213:=Tryz.sizeOf438
 t232:=Tryz.underlying439
 a232:=Tryz.isAgg439
 z232:=Tryz.sizeOf439
 v232:=Tryz.zeroValue439
 t233:=Tryz.underlying440
 a233:=Tryz.isAgg440
 z233:=Tryz.sizeOf440
 v233:=Tryz.zeroValue440
 g15:=by kernel_rfl
 g16:=by kernel_rfl
 g17:=by kernel_rfl
 g18:=by kernel_rfl
 g19:=by kernel_rfl
 t80:=Tryz.underlying441
 a80:=Tryz.isAgg441
 z80:=Tryz.sizeOf441
 v80:=Tryz.zeroValue441
 i0:=by kernel_rfl
 i2:=by kernel_rfl
 i3:=by kernel_rfl
 i4:=by kernel_rfl
 i5:=by kernel_rfl
 i9:=by kernel_rfl
 i20:=by kernel_rfl
 i21:=by kernel_rfl
 i37:=by kernel_rfl
 i46:=by kernel_rfl
 i51:=by kernel_rfl
 i53:=by kernel_rfl
 i75:=by kernel_rfl
 i76:=by kernel_rfl
 i80:=by kernel_rfl
 i85:=by kernel_rfl
 i127:=by kernel_rfl
 i143:=by kernel_rfl
 i145:=by kernel_rfl
 i167:=by kernel_rfl
 i168:=by kernel_rfl
 i171:=by kernel_rfl
 i173:=by kernel_rfl
 i175:=by kernel_rfl
 i210:=by kernel_rfl
 i212:=by kernel_rfl
 i232:=by kernel_rfl
 i233:=by kernel_rfl
 m15:=by kernel_rfl
 m16:=by kernel_rfl
 m17:=by kernel_rfl
 m18:=by kernel_rfl
 m19:=by kernel_rfl
 c0:=by kernel_rfl
 c2:=by kernel_rfl
 c3:=by kernel_rfl
 c4:=by kernel_rfl
 c5:=by kernel_rfl
 c9:=by kernel_rfl
 c20:=by kernel_rfl
 c21:=by kernel_rfl
 c37:=by kernel_rfl
 c46:=by kernel_rfl
 c51:=by kernel_rfl
 c53:=by kernel_rfl
 c75:=by kernel_rfl
 c76:=by kernel_rfl
 c80:=by kernel_rfl
 c85:=by kernel_rfl
 c127:=by kernel_rfl
 c143:=by kernel_rfl
 c145:=by kernel_rfl
 c167:=by kernel_rfl
 c168:=by kernel_rfl
 c171:=by kernel_rfl
 c173:=by kernel_rfl
 c175:=by kernel_rfl
 c210:=by kernel_rfl
 c212:=by kernel_rfl
 c213:=by kernel_rfl
 c232:=by kernel_rfl
 c233:=by kernel_rfl }
open Go.RowKit in
theorem Tryz.strconv_Atoi_ok (s:ByteArray)(hmax:s.size≤9223372036854775806)(v:Int)(h:Lib.atoiAll s.data.toList=.ok v)(w:World) :
  Calls Tryz.prog 380 #[.string s] w fun e w'=>e=.returned (.tuple #[.int .i64 v,.nilIface])∧(w'=w∨∃t,w'=Lib.bytesWorld w 5 t):=Any.strconv_Atoi_ok Tryz.laysC172 s hmax v h w
def Tryz.lays219_ren:Go.Shelf.Ren:=⟨fun|219=>227|217=>284|225=>285|224=>286|267=>287|266=>323|314=>324|n=>n,fun|9=>9|3=>3|4=>4|5=>5|46=>257|146=>354|51=>353|n=>n,fun|1=>0|n=>n⟩
theorem Tryz.lays219:Go.Proofs.Lays.n219 Tryz.prog Tryz.lays219_ren:={
 mixed:=by kernel_rfl
 f217:=Tryz.func284.trans (congrArg some (by kernel_rfl))
 f219:=Tryz.func227.trans (congrArg some (by kernel_rfl))
 f224:=Tryz.func286.trans (congrArg some (by kernel_rfl))
 f225:=Tryz.func285.trans (congrArg some (by kernel_rfl))
 f266:=Tryz.func323.trans (congrArg some (by kernel_rfl))
 f267:=Tryz.func287.trans (congrArg some (by kernel_rfl))
 f314:=Tryz.func324.trans (congrArg some (by kernel_rfl))
 t3:=Tryz.underlying3
 a3:=Tryz.isAgg3
 z3:=Tryz.sizeOf3
 v3:=Tryz.zeroValue3
 t4:=Tryz.underlying4
 a4:=Tryz.isAgg4
 z4:=Tryz.sizeOf4
 v4:=Tryz.zeroValue4
 t5:=Tryz.underlying5
 a5:=Tryz.isAgg5
 z5:=Tryz.sizeOf5
 v5:=Tryz.zeroValue5
 t9:=Tryz.underlying9
 a9:=Tryz.isAgg9
 z9:=Tryz.sizeOf9
 v9:=Tryz.zeroValue9
 t46:=Tryz.underlying257
 a46:=Tryz.isAgg257
 z46:=Tryz.sizeOf257
 v46:=Tryz.zeroValue257
 t51:=Tryz.underlying353
 a51:=Tryz.isAgg353
 z51:=Tryz.sizeOf353
 v51:=Tryz.zeroValue353
 t146:=Tryz.underlying354
 a146:=Tryz.isAgg354
 z146:=Tryz.sizeOf354
 v146:=Tryz.zeroValue354
 g1:=by kernel_rfl }
open Go.RowKit Go.Lib in
theorem Tryz.stringslite_Index_one (s:ByteArray)(c:UInt8)(w:World) :
  Calls Tryz.prog 227 #[.string s,.string ⟨#[c]⟩] w fun e w'=>e=.returned (.int .i64 (Lib.indexByte s.data.toList c))∧w'=w:=Any.stringslite_Index_one Tryz.lays219 s c w
def Tryz.lays315_ren:Go.Shelf.Ren:=⟨fun|315=>288|n=>n,fun|9=>9|40=>224|4=>4|3=>3|0=>0|21=>21|n=>n,fun|n=>n⟩
theorem Tryz.lays315:Go.Proofs.Lays.n315 Tryz.prog Tryz.lays315_ren:={
 mixed:=by kernel_rfl
 f315:=Tryz.func288.trans (congrArg some (by kernel_rfl))
 t0:=Tryz.underlying0
 a0:=Tryz.isAgg0
 z0:=Tryz.sizeOf0
 v0:=Tryz.zeroValue0
 t3:=Tryz.underlying3
 a3:=Tryz.isAgg3
 z3:=Tryz.sizeOf3
 v3:=Tryz.zeroValue3
 t4:=Tryz.underlying4
 a4:=Tryz.isAgg4
 z4:=Tryz.sizeOf4
 v4:=Tryz.zeroValue4
 t9:=Tryz.underlying9
 a9:=Tryz.isAgg9
 z9:=Tryz.sizeOf9
 v9:=Tryz.zeroValue9
 t21:=Tryz.underlying21
 a21:=Tryz.isAgg21
 z21:=Tryz.sizeOf21
 v21:=Tryz.zeroValue21
 t40:=Tryz.underlying224
 a40:=Tryz.isAgg224
 z40:=Tryz.sizeOf224
 v40:=Tryz.zeroValue224 }
open Go.RowKit Go.Lib in
theorem Tryz.strings_indexFunc (g:Nat)(lb:Array Value)(eg:∀args w,(callFunc g args).run Tryz.prog w=.ok (.enter g args) w)(p:Nat→Bool)(truth:Bool)(s:ByteArray)(w:World)(hp:PredAt Tryz.prog g lb encR p w) :
  Calls Tryz.prog 288 #[.string s,.func (.func g) #[] lb,.bool truth] w fun e w'=>e=.returned (.int .i64 (Lib.idxFunc p truth s))∧Below w.heap.size w w':=Any.strings_indexFunc Tryz.lays315 g lb eg p truth s w hp
def Tryz.lays227_ren:Go.Shelf.Ren:=⟨fun|227=>327|n=>n,fun|9=>9|116=>358|4=>4|0=>0|3=>3|5=>5|n=>n,fun|n=>n⟩
theorem Tryz.lays227:Go.Proofs.Lays.n227 Tryz.prog Tryz.lays227_ren:={
 mixed:=by kernel_rfl
 f227:=Tryz.func327.trans (congrArg some (by kernel_rfl))
 t0:=Tryz.underlying0
 a0:=Tryz.isAgg0
 z0:=Tryz.sizeOf0
 v0:=Tryz.zeroValue0
 t3:=Tryz.underlying3
 a3:=Tryz.isAgg3
 z3:=Tryz.sizeOf3
 v3:=Tryz.zeroValue3
 t4:=Tryz.underlying4
 a4:=Tryz.isAgg4
 z4:=Tryz.sizeOf4
 v4:=Tryz.zeroValue4
 t5:=Tryz.underlying5
 a5:=Tryz.isAgg5
 z5:=Tryz.sizeOf5
 v5:=Tryz.zeroValue5
 t9:=Tryz.underlying9
 a9:=Tryz.isAgg9
 z9:=Tryz.sizeOf9
 v9:=Tryz.zeroValue9
 t116:=Tryz.underlying358
 a116:=Tryz.isAgg358
 z116:=Tryz.sizeOf358 }
open Go.RowKit Go.Lib in
theorem Tryz.strings_makeASCIISet (hv116:∀w,(zeroValue 358).run Tryz.prog w=.ok (.agg (Array.replicate 256 (.bool false))) w)(chars:ByteArray)(w:World)(hs:chars.size<4294967281)(hascii:∀(j:Nat) b,chars.data.toList[j]?=some b→b.toNat<128) :
  Calls Tryz.prog 327 #[.string chars] w fun e w'=>e=.returned (.tuple #[.agg (Lib.setCells chars.data.toList),.bool true])∧w'=w.alloc (.cells (Lib.setCells chars.data.toList) 358):=Any.strings_makeASCIISet Tryz.lays227 hv116 (by kernel_rfl) chars w hs hascii
end Go.Proofs

namespace Go.Proofs.YteggomljbalaaaaGreatDoor
open Go.Sha Go.RowKit
set_option maxRecDepth 100000
variable {g:List (Nat×Obj)}{n:Nat}
def othR (r:Nat):Bool:=decide (r<48)||decide (57<r)
def setV:List V:=(List.range 256).map fun n=>.bool (nmW.contains n.toUInt8)
def q227:List V→Option VRes
 |[.str s,.str [c]]=>some (.ret (.int .i64 (Lib.indexByte s c)))
 |_=>none
def q327:List V→Option VRes
 |[.str t]=>if t=nmW then some (.ret (.tup [.agg setV,.bool true])) else none
 |_=>none
def q288:List V→Option VRes
 |[.str s,.fn (.func 162) [] [],.bool true]=>some (.ret (.int .i64 (Lib.idxFunc othR true ⟨s.toArray⟩)))
 |_=>none
def HL0:EvF:=⟨[],fun f args st=>(bif Nat.beq f 227 then q227 args else bif Nat.beq f 327 then q327 args else bif Nat.beq f 288 then q288 args else none).map fun r=>(r,st)⟩
@[push_cast]theorem HL0_raw:HL0.raw=[]:=idq rfl
theorem k227 {s:List UInt8}{c:UInt8}{st:St}:run Tryz.prog HL0 227 [.str s,.str [c]] st=some (.ret (.int .i64 (Lib.indexByte s c)),st):=run_H rfl
theorem k327 {st:St}:run Tryz.prog HL0 327 [.str nmW] st=some (.ret (.tup [.agg setV,.bool true]),st):=run_H rfl
theorem k288 {s:List UInt8}{st:St}:run Tryz.prog HL0 288 [.str s,.fn (.func 162) [] [],.bool true] st=some (.ret (.int .i64 (Lib.idxFunc othR true ⟨s.toArray⟩)),st):=run_H rfl
theorem idx_tw {c:UInt8}:∀{s:List UInt8},Lib.indexByte s c=if s.contains c=true then((s.takeWhile (· != c)).length:Int) else -1
 |[]=>rfl
 |b::s=>by
  have ih:=idx_tw (c:=c) (s:=s)
  rw[Lib.indexByte,ih]
  by_cases h:b=c
  ·subst h;simp
  ·have h2:(b == c)=false:=by simpa using h
   have h3:(b != c)=true:=by simpa using h
   rw[h2,List.takeWhile_cons,if_pos h3,List.contains_cons,show(c == b)=false by simpa using fun e=>h e.symm,Bool.false_or,List.length_cons]
   cases s.contains c
   ·rfl
   ·simp only[if_true]
    rw[if_neg (by simp),if_neg (by simp)];omega
theorem drop_tw {p:UInt8→Bool}{s:List UInt8}:s.drop ((s.takeWhile p).length+1)=(s.dropWhile p).drop 1:=by rw[←List.drop_drop,drop_w]
theorem tw_none {c:UInt8}:∀{s:List UInt8},s.contains c=false→s.takeWhile (· != c)=s∧s.dropWhile (· != c)=[]
 |[],_=>⟨rfl,rfl⟩
 |b::r,h=>by
  have hb:(b != c)=true:=by simp at h ⊢;exact fun e=>h.1 e.symm
  have hr:r.contains c=false:=by simp at h ⊢;exact h.2
  have:=tw_none hr
  simp only[List.takeWhile_cons,List.dropWhile_cons,hb,if_true]
  exact⟨by rw[this.1],this.2⟩
theorem k160 {s:List UInt8}{c:UInt8}(hl:s.length<140737488355328){st:St}:run Tryz.prog HL0 160 [.str s,.str [c]] st=some (.ret (.tup [.str (s.takeWhile (· != c)),.str ((s.dropWhile (· != c)).drop 1),.bool (s.contains c)]),st):=by
 have hi:=idx_tw (c:=c) (s:=s)
 have hle:=(List.takeWhile_sublist (· != c) (l:=s)).length_le
 rw[run_shut F160 rfl rfl rfl]
 cases h:s.contains c with
 |true =>
  have hlt:(s.takeWhile (· != c)).length<s.length:=by
   rcases Nat.lt_or_ge (s.takeWhile (· != c)).length s.length with h2|h2
   ·exact h2
   ·have e:s.takeWhile (· != c)=s:=(List.takeWhile_sublist _).eq_of_length (by omega)
    have:=List.all_takeWhile (p:=(· != c)) (l:=s)
    rw[e,List.all_eq_true]at this
    have:=this c (by simpa using h)
    simp at this
  rw[h,if_pos rfl]at hi
  have hd:=drop_tw (p:=(· != c)) (s:=s)
  have ht:=take_w (p:=(· != c)) (s:=s)
  generalize s.takeWhile (· != c)=a at *
  have hw:IntKind.i64.wrap ((a.length:Int)+1)=((a.length+1:Nat):Int):=iwrap (by omega) (by omega)
  push_cast[k227,hi,hw,ht]
  exact dn_eq (by omega) (by rw[List.take_length,show((a.length:Int)+1).toNat=a.length+1 by omega,hd])
 |false =>
  rw[h,if_neg (by simp)]at hi
  obtain⟨e1,e2⟩:=tw_none h
  rw[e1,e2]
  push_cast[k227,hi]
theorem k106 {s:List UInt8}{c:UInt8}(hl:s.length<140737488355328){st:St}:run Tryz.prog HL0 106 [.str s,.str [c]] st=some (.ret (.tup [.str (s.takeWhile (· != c)),.str ((s.dropWhile (· != c)).drop 1),.bool (s.contains c)]),st):=by
 have h:=fun(st:St)=>k160 (c:=c) (st:=st) hl
 rw[run_shut F106 rfl rfl rfl]
 push_cast[h]
theorem k110 {s t:List UInt8}(hl:s.length<140737488355328)(ht:t.length≤s.length+1000){st:St}:run Tryz.prog HL0 110 [.str s,.str t] st=some (.ret (.bool (t.isSuffixOf s)),st):=by
 have h:∀st,run Tryz.prog HL0 163 [.str s,.str t] st=some (.ret (.bool (t.isSuffixOf s)),st):=fun st=>by
  rw[run_shut F163 rfl rfl rfl]
  by_cases h:t.length≤s.length
  ·have h1:(t.length:Int)≤s.length:=by omega
   have hw:IntKind.i64.wrap ((s.length:Int)-t.length)=((s.length-t.length:Nat):Int):=by rw[iwrap (by omega) (by omega)];omega
   have e:t.isSuffixOf s=(s.drop (s.length-t.length) == t):=by
    rw[Bool.eq_iff_iff,List.isSuffixOf_iff_suffix,List.suffix_iff_eq_drop,beq_iff_eq]
    exact⟨fun h=>h.symm,fun h=>h.symm⟩
   have h2:((s.length-t.length:Nat):Int)≤s.length:=by omega
   generalize s.length-t.length=k at *
   push_cast[h1,hw,h2,List.take_length,e]
  ·have h1:¬(t.length:Int)≤s.length:=by omega
   have e:t.isSuffixOf s=false:=by
    rw[←Bool.not_eq_true,List.isSuffixOf_iff_suffix]
    exact fun h2=>h h2.length_le
   push_cast[h1,e]
 rw[run_shut F110 rfl rfl rfl]
 push_cast[h]
theorem oth_from (s:ByteArray):∀(f pos:Nat),s.size≤pos+f→(decide (Lib.idxFuncFrom othR true s f pos<0))=(s.data.toList.drop pos).all isD
 |0,pos,h=>by
  rw[List.drop_eq_nil_of_le (by rw[Array.length_toList];exact h)];rfl
 |f+1,pos,h=>by
  unfold Lib.idxFuncFrom
  by_cases hp:pos<s.size
  ·have hp':pos<s.data.toList.length:=by rw[Array.length_toList];exact hp
   have hb:s.data.toList[pos]'hp'=s[pos]'hp:=rfl
   rw[if_pos hp,List.drop_eq_getElem_cons hp',List.all_cons,hb]
   by_cases ha:(s[pos]'hp).toNat<128
   ·rw[decode_ascii s pos hp ha]
    have ih:=oth_from s f (pos+1) (by omega)
    cases hd:isD (s[pos]'hp) with
    |true =>
     have:¬othR (s[pos]'hp).toNat=true:=by
      simp only[isD,Bool.and_eq_true,decide_eq_true_eq]at hd
      simp only[othR,Bool.or_eq_true,decide_eq_true_eq];omega
     rw[if_neg this,ih];rfl
    |false =>
     have:othR (s[pos]'hp).toNat=true:=by
      simp only[isD,Bool.and_eq_false_iff,decide_eq_false_iff_not]at hd
      simp only[othR,Bool.or_eq_true,decide_eq_true_eq];omega
     rw[if_pos this]
     simp
   ·obtain⟨h1,h2⟩:=decode_high s pos hp (by omega)
    have:othR (Utf8.decode s pos).1=true:=by
     simp only[othR,Bool.or_eq_true,decide_eq_true_eq];omega
    have hd:isD (s[pos]'hp)=false:=by
     simp only[isD,Bool.and_eq_false_iff,decide_eq_false_iff_not];omega
    rw[if_pos this,hd]
    simp
  ·rw[if_neg hp,List.drop_eq_nil_of_le (by rw[Array.length_toList];exact Nat.le_of_not_lt hp)];rfl
theorem oth_idx (s:List UInt8):decide (Lib.idxFunc othR true ⟨s.toArray⟩<0)=s.all isD:=by
 have:=oth_from ⟨s.toArray⟩ s.length 0 (by simp[ByteArray.size])
 simpa [Lib.idxFunc,ByteArray.size] using this
theorem k161 {s:List UInt8}{st:St}:run Tryz.prog HL0 161 [.str s,.fn (.func 162) [] []] st=some (.ret (.bool (s.any (!isD ·))),st):=by
 have h:∀st,run Tryz.prog HL0 228 [.str s,.fn (.func 162) [] []] st=some (.ret (.int .i64 (Lib.idxFunc othR true ⟨s.toArray⟩)),st):=fun st=>by
  rw[run_shut F228 rfl rfl rfl]
  push_cast[k288]
 have e:decide (0≤Lib.idxFunc othR true ⟨s.toArray⟩)=s.any (!isD ·):=by
  have:=oth_idx s
  have h2:decide (0≤Lib.idxFunc othR true ⟨s.toArray⟩)=!(decide (Lib.idxFunc othR true ⟨s.toArray⟩<0)):=by
   rw[Bool.eq_iff_iff];simp
  rw[h2,this,List.not_all_eq_any_not]
 rw[run_shut F161 rfl rfl rfl]
 push_cast[h,e]
theorem setV_len:setV.length=256:=by simp[setV]
theorem setV_bd:V.bdL n setV=true:=by
 have:=bdL_map' (n:=n) (f:=fun k:Nat=>V.bool (nmW.contains k.toUInt8)) (l:=List.range 256)
 rw[setV,this];simp[V.bd]
theorem setV_get (b:UInt8):setV[b.toNat]?=some (.bool (nmW.contains b)):=by
 rw[setV,List.getElem?_map,List.getElem?_range b.toNat_lt];simp
theorem k352 {b:UInt8}{st:St}:run Tryz.prog HL0 352 [.ep (.agg setV) 0,.int .u8 b.toNat] st=some (.ret (.bool (nmW.contains b)),st):=by
 have hb:=b.toNat_lt
 have hg:=setV_get b
 have hl:=setV_len
 have hd:=fun n=>setV_bd (n:=n)
 rw[run_shut F352 rfl rfl (by simp[V.bdL,V.bd,hd])]
 generalize nmW.contains b=c at *
 generalize setV=z at *
 push_cast[hb,hg,hl,hd,Nat.mul_one]
 all_goals exact dn_eq hb rfl
theorem L328:∀{t:List UInt8},t.length<140737488355328→runL Tryz.prog HL0 [0,1] n B328_0 [(0,.str t),(1,.ep (.agg setV) 0)] (stN g n)=some (.exit 0,[(0,.str (t.dropWhile nmW.contains))],stN g n)
 |[],_=>by
  have hd:=fun n=>setV_bd (n:=n)
  rw[runL_of B328_0.eq_1]
  generalize setV=z at *
  push_cast[List.length_nil,List.dropWhile_nil,hd]
 |b::t,hl=>by
  rw[List.length_cons]at hl
  have ih:=L328 (t:=t) (by omega)
  have hd:=fun n=>setV_bd (n:=n)
  have h270:=fun st=>k352 (b:=b) (st:=st)
  rw[runL_of B328_0.eq_1,List.dropWhile_cons]
  generalize nmW.contains b=c at *
  generalize setV=z at *
  have h1:(0:Int)<t.length+1:=by omega
  cases c
  ·push_cast[List.length_cons,hd,h1,h270,List.getD_cons_zero]
  ·push_cast[List.length_cons,hd,h1,h270,List.getD_cons_zero,List.take_length,List.drop_one,List.tail_cons]at ih ⊢
   exact dn_eq (by omega) ih
theorem f328 {t:List UInt8}(hl:t.length<140737488355328){st:St}:run Tryz.prog HL0 328 [.str t,.ep (.agg setV) 0] st=some (.ret (.str (t.dropWhile nmW.contains)),st):=by
 have hd:=fun n=>setV_bd (n:=n)
 have h0:=fun n=>L328 (g:=st.x.gl) (n:=n) hl
 rw[run_shut F328 rfl rfl (by simp[V.bdL,V.bd,hd])]
 generalize setV=z at *
 push_cast at h0
 push_cast[hd,h0]
theorem L329:∀(k:Nat) {t:List UInt8},t.length=k→t.length<140737488355328→runL Tryz.prog HL0 [0,1] n B329_0 [(0,.str t),(1,.ep (.agg setV) 0)] (stN g n)=some (.exit 0,[(0,.str (t.reverse.dropWhile nmW.contains).reverse)],stN g n):=by
 intro k
 induction k with
 |zero =>
  intro t ht hl
  obtain rfl:=List.eq_nil_of_length_eq_zero ht
  have hd:=fun n=>setV_bd (n:=n)
  rw[runL_of B329_0.eq_1]
  generalize setV=z at *
  push_cast[List.length_nil,List.dropWhile_nil,List.reverse_nil,hd]
 |succ k ih =>
  intro t ht hl
  rcases List.eq_nil_or_concat t with rfl|⟨t',b,rfl⟩
  ·simp at ht
  ·rw[List.concat_eq_append]at *
   rw[List.length_append,List.length_singleton]at ht hl
   have ih:=ih (t:=t') (by omega) (by omega)
   have hd:=fun n=>setV_bd (n:=n)
   have h270:=fun st=>k352 (b:=b) (st:=st)
   have hw:IntKind.i64.wrap ((t'.length:Int)+1-1)=((t'.length:Nat):Int):=by rw[iwrap (by omega) (by omega)];omega
   have h1:(0:Int)<t'.length+1:=by omega
   have h2:(t'.length:Int)<t'.length+1:=by omega
   have h3:(t'.length:Int)≤t'.length+1:=by omega
   have h4:List.take t'.length (t'++[b])=t':=List.take_left
   rw[runL_of B329_0.eq_1,List.reverse_append,List.reverse_singleton,List.singleton_append,List.dropWhile_cons]
   generalize nmW.contains b=c at *
   generalize setV=z at *
   cases c
   ·push_cast[List.length_append,List.length_singleton,hd,h1,h2,h3,hw,h270,getD_app,List.reverse_cons,List.reverse_reverse]
   ·push_cast[List.length_append,List.length_singleton,hd,h1,h2,h3,h4,hw,h270,getD_app]at ih ⊢
    exact ih
theorem f329 {t:List UInt8}(hl:t.length<140737488355328){st:St}:run Tryz.prog HL0 329 [.str t,.ep (.agg setV) 0] st=some (.ret (.str (t.reverse.dropWhile nmW.contains).reverse),st):=by
 have hd:=fun n=>setV_bd (n:=n)
 have h0:=fun n=>L329 (g:=st.x.gl) (n:=n) _ rfl hl
 rw[run_shut F329 rfl rfl (by simp[V.bdL,V.bd,hd])]
 generalize setV=z at *
 push_cast at h0
 push_cast[hd,h0]
theorem trim_swap {p:UInt8→Bool}:∀{s:List UInt8},((s.reverse.dropWhile p).reverse).dropWhile p=((s.dropWhile p).reverse.dropWhile p).reverse
 |[]=>rfl
 |b::r=>by
  have ih:=trim_swap (p:=p) (s:=r)
  cases hb:p b with
  |true =>
   have e1:(b::r).dropWhile p=r.dropWhile p:=by simp[hb]
   rw[e1,←ih,List.reverse_cons,List.dropWhile_append]
   cases hx:r.reverse.dropWhile p with
   |nil=>simp[hb]
   |cons y l=>simp[hb,List.dropWhile_cons]
  |false =>
   have e1:(b::r).dropWhile p=b::r:=by simp[hb]
   rw[e1,List.reverse_cons,List.dropWhile_append]
   cases hx:r.reverse.dropWhile p with
   |nil=>simp[hb]
   |cons y l=>simp[hb,List.dropWhile_cons]
theorem k289 {s:List UInt8}(hl:s.length≤24){st:St}:run Tryz.prog HL0 289 [.str s,.str nmW] st=some (.ret (.str (trimB nmW s)),st):=by
 have hd:=fun n=>setV_bd (n:=n)
 have hz:=setV_len
 have h249:=fun st=>k327 (st:=st)
 have h251:=fun st=>f329 (t:=s) (st:=st) (by omega)
 have hle:=(List.dropWhile_sublist nmW.contains (l:=s.reverse)).length_le
 have h250:=fun st=>f328 (t:=(s.reverse.dropWhile nmW.contains).reverse) (st:=st) (by simp at hle ⊢;omega)
 rw[trim_swap]at h250
 rw[run_shut F289 rfl rfl rfl,trimB]
 generalize setV=z at *
 by_cases h0:s=[]
 ·subst h0
  push_cast[List.dropWhile_nil,List.reverse_nil]
 ·push_cast[h0,h249,h250,h251,hd,hz,List.length_replicate,List.drop_replicate,Nat.sub_self,List.replicate_zero,List.append_nil]
theorem callable227:Callable Tryz.prog 227:=⟨_,Tryz.func227,by kernel_rfl,by kernel_rfl⟩
theorem callable327:Callable Tryz.prog 327:=⟨_,Tryz.func327,by kernel_rfl,by kernel_rfl⟩
theorem callable288:Callable Tryz.prog 288:=⟨_,Tryz.func288,by kernel_rfl,by kernel_rfl⟩
theorem callable380:Callable Tryz.prog 380:=⟨_,Tryz.func380,by kernel_rfl,by kernel_rfl⟩
theorem v227 (s:List UInt8)(c:UInt8)(st:St):VRet Tryz.prog 227 [.str s,.str [c]] st (.int .i64 (Lib.indexByte s c)) st:=by
 refine VRet_of_below callable227 (fun w A vs hw ha=>?_)
 obtain⟨hl,ha⟩:=ha
 match vs,hl with
 |[u,v],_ =>
 have e1:=(ha 0 u _ rfl rfl).str_inv
 have e2:=(ha 1 v _ rfl rfl).str_inv
 subst e1;subst e2
 refine(Tryz.stringslite_Index_one ⟨s.toArray⟩ c w).mono fun e w' ⟨he,hb⟩=>?_
 subst he;subst hb
 exact⟨_,rfl,fun w' A'=>.int _ _,Below.refl _ _⟩
theorem nm_ascii:∀b∈nmW,b.toNat<128:=by decide
theorem v327 (st:St):VRet Tryz.prog 327 [.str nmW] st (.tup [.agg setV,.bool true]) st:=by
 refine VRet_of_below callable327 (fun w A vs hw ha=>?_)
 obtain⟨u,rfl,h1⟩:=ha.one
 have e1:=h1.str_inv
 subst e1
 refine(Tryz.strings_makeASCIISet Tryz.zeroValue358 ⟨nmW.toArray⟩ w (by decide) (fun j b hj=>nm_ascii b (List.mem_of_getElem? hj))).mono fun e w' ⟨he,hb⟩=>?_
 subst he;subst hb
 refine⟨_,rfl,fun w' A'=>?_,Below.alloc (Below.refl _ _) (Nat.le_refl _) _⟩
 have hcell:∀(i:Nat) (v:Value) (c:V),(Lib.setCells nmW).toList[i]?=some v→setV[i]?=some c→Rep w' A' v c∧v.oneCell'=true:=fun i v c hv hc=>by
  have hi:i<256:=by have:=(List.getElem?_eq_some_iff.1 hc).1;rw[setV_len]at this;exact this
  have e2:i.toUInt8.toNat=i:=by simp[Nat.toUInt8,UInt8.toNat_ofNat',Nat.mod_eq_of_lt hi]
  have g1:=Lib.setCells_at nmW i.toUInt8
  have g2:=setV_get i.toUInt8
  rw[e2]at g1 g2
  rw[Array.getElem?_toList,g1]at hv
  rw[g2]at hc
  cases hv;cases hc
  exact⟨.bool _,rfl⟩
 refine .tup [.agg (Lib.setCells nmW),.bool true] [.agg setV,.bool true] rfl (fun i v c h1 h2=>?_)
 match i,h1,h2 with
 |0,h1,h2 =>
  simp at h1 h2;subst h1 h2
  have:=Rep.agg (w:=w') (A:=A') (Lib.setCells nmW).toList setV (by rw[Array.length_toList,Lib.setCells_size,setV_len]) (fun v hv=>by
   obtain⟨i,hi⟩:=List.mem_iff_getElem?.1 hv
   have hlt:i<setV.length:=by rw[setV_len];have:=(List.getElem?_eq_some_iff.1 hi).1;rw[Array.length_toList,Lib.setCells_size]at this;exact this
   exact(hcell i v setV[i] hi (List.getElem?_eq_getElem hlt)).2) (fun i v c hv hc=>(hcell i v c hv hc).1)
  rwa [Array.toArray_toList]at this
 |1,h1,h2=>simp at h1 h2;subst h1 h2;exact .bool _
theorem pred280 (w:World):PredAt Tryz.prog 162 #[] encR othR w:=fun W r _=>by
 unfold FnGives
 by_cases h1:r<48<;>by_cases h2:57<r
 all_goals
  have z1:(r:Int)<48↔r<48:=by omega
  have z2:(57:Int)<(r:Int)↔57<r:=by omega
  go_enter Tryz.func162,Tryz.ntmps162
  go_wp2
  all_goals first|(exfalso;omega)|(go_ret;exact⟨by simp[othR,h1,h2],0,rfl⟩)
theorem v288 (s:List UInt8)(st:St):VRet Tryz.prog 288 [.str s,.fn (.func 162) [] [],.bool true] st (.int .i64 (Lib.idxFunc othR true ⟨s.toArray⟩)) st:=by
 refine VRet_of_below callable288 (fun w A vs hw ha=>?_)
 obtain⟨hl,ha⟩:=ha
 match vs,hl with
 |[v0,v1,v2],_ =>
 have e0:=(ha 0 v0 _ rfl rfl).str_inv
 have r1:=ha 1 v1 _ rfl rfl
 have e2:=(ha 2 v2 _ rfl rfl).bool_inv
 have e1:v1=.func (.func 162) #[] #[]:=by
  cases r1 with
  |fn _ vs us _ _ e1 e2 _ _ =>
   have h1:vs=[]:=List.eq_nil_of_length_eq_zero e1
   have h2:us=[]:=List.eq_nil_of_length_eq_zero e2
   rw[h1,h2]
 subst e0;subst e1;subst e2
 refine(Tryz.strings_indexFunc 162 #[] (enters_of Tryz.func162 (by kernel_rfl) rfl) othR true ⟨s.toArray⟩ w (pred280 w)).mono fun e w' ⟨he,hb⟩=>?_
 subst he
 exact⟨_,rfl,fun w' A'=>.int _ _,hb⟩
theorem HL0_ok:ESound Tryz.prog HL0:=fun f args st r s h=>by
 obtain⟨z,hz,e⟩:=Option.map_eq_some_iff.1 h
 cases e
 by_cases h1:f=227
 ·subst h1
  rw[show Nat.beq 227 227=true from rfl,cond_true]at hz
  unfold q227 at hz
  split at hz<;>cases hz
  exact v227 _ _ _
 rw[show Nat.beq f 227=false from Bool.eq_false_iff.2 fun e=>h1 (Nat.eq_of_beq_eq_true e),cond_false]at hz
 by_cases h2:f=327
 ·subst h2
  rw[show Nat.beq 327 327=true from rfl,cond_true]at hz
  unfold q327 at hz
  split at hz
  ·split at hz
   ·rename_i e;subst e;cases hz;exact v327 _
   ·cases hz
  ·cases hz
 rw[show Nat.beq f 327=false from Bool.eq_false_iff.2 fun e=>h2 (Nat.eq_of_beq_eq_true e),cond_false]at hz
 by_cases h3:f=288
 ·subst h3
  rw[show Nat.beq 288 288=true from rfl,cond_true]at hz
  unfold q288 at hz
  split at hz<;>cases hz
  exact v288 _ _
 rw[show Nat.beq f 288=false from Bool.eq_false_iff.2 fun e=>h3 (Nat.eq_of_beq_eq_true e),cond_false]at hz
 cases hz
end Go.Proofs.YteggomljbalaaaaGreatDoor

namespace Go.Proofs.YteggomljbalaaaaGreatDoor
open Go.Sha Go.RowKit
set_option maxRecDepth 100000
theorem parse_digs:∀(s:List UInt8) (acc:Nat),s.all isD=true→acc<18446744073709551616→Lib.parseUint10 acc s=if s.foldl (fun n b=>10*n+(b.toNat-48)) acc<18446744073709551616 then .ok (s.foldl (fun n b=>10*n+(b.toNat-48)) acc) else .range
 |[],acc,_,h=>by simp[Lib.parseUint10,h]
 |b::s,acc,h,ha=>by
  have mono:∀(s:List UInt8) (n:Nat),n≤s.foldl (fun n b=>10*n+(b.toNat-48)) n:=by
   intro s
   induction s with
   |nil=>intro n;exact Nat.le_refl _
   |cons c s ih=>intro n;rw[List.foldl_cons];refine Nat.le_trans ?_ (ih _);omega
  simp only[List.all_cons,Bool.and_eq_true]at h
  obtain⟨hb,hs⟩:=h
  have hb':48≤b.toNat∧b.toNat≤57:=by
   simp only[isD,Bool.and_eq_true,decide_eq_true_eq]at hb;omega
  rw[Lib.parseUint10,if_pos hb',List.foldl_cons]
  have hm:=mono s (10*acc+(b.toNat-48))
  by_cases h1:1844674407370955162≤acc
  ·rw[if_pos h1,if_neg (by omega)]
  ·rw[if_neg h1]
   by_cases h2:18446744073709551616≤acc*10+(b.toNat-48)
   ·rw[if_pos h2,if_neg (by omega)]
   ·rw[if_neg h2,parse_digs s _ hs (by omega),Nat.mul_comm]
theorem atoi_digs {s:List UInt8}(h0:s≠[])(h:s.all isD=true):Lib.atoiAll s=if natOf s<9223372036854775808 then .ok (natOf s:Int) else .range:=by
 cases s with
 |nil=>exact absurd rfl h0
 |cons b s =>
  have hb:isD b=true:=by simp only[List.all_cons,Bool.and_eq_true]at h;exact h.1
  have hb':48≤b.toNat∧b.toNat≤57:=by
   simp only[isD,Bool.and_eq_true,decide_eq_true_eq]at hb;omega
  rw[Lib.atoiAll_plain b s (by omega) (by omega),Lib.parseMag,if_neg (by simp),parse_digs (b::s) 0 h (by omega)]
  show Lib.signless (if natOf (b::s)<18446744073709551616 then .ok (natOf (b::s)) else .range)=_
  by_cases h1:natOf (b::s)<18446744073709551616
  ·rw[if_pos h1]
   unfold Lib.signless
   by_cases h2:natOf (b::s)<9223372036854775808
   ·rw[if_pos h2];simp only;rw[if_neg (by omega)]
   ·rw[if_neg h2];simp only;rw[if_pos (by omega)]
  ·rw[if_neg h1,if_neg (by omega)];rfl
theorem natOf_lt:∀{s:List UInt8}{n:Nat},s.all isD=true→s.foldl (fun n b=>10*n+(b.toNat-48)) n<(n+1)*10 ^ s.length
 |[],n,_=>by simp
 |b::s,n,h=>by
  simp only[List.all_cons,Bool.and_eq_true]at h
  have hb:b.toNat≤57:=by have:=h.1;simp only[isD,Bool.and_eq_true,decide_eq_true_eq]at this;omega
  have ih:=natOf_lt (s:=s) (n:=10*n+(b.toNat-48)) h.2
  rw[List.foldl_cons,List.length_cons,Nat.pow_succ]
  refine Nat.lt_of_lt_of_le ih ?_
  rw[show(n+1)*(10 ^ s.length*10)=((n+1)*10)*10 ^ s.length by rw[Nat.mul_comm (10 ^ s.length),Nat.mul_assoc]]
  exact Nat.mul_le_mul_right _ (by omega)
theorem v380 (s:List UInt8)(st:St)(h0:s≠[])(h:s.all isD=true)(hl:s.length≤18):VRet Tryz.prog 380 [.str s] st (.tup [.int .i64 (natOf s),.nili]) st:=by
 have hn:natOf s<9223372036854775808:=by
  have h1:=natOf_lt (n:=0) h
  have h2:10 ^ s.length≤10 ^ 18:=Nat.pow_le_pow_right (by omega) hl
  unfold natOf;omega
 refine VRet_of_below callable380 (fun w A vs hw ha=>?_)
 obtain⟨u,rfl,h1⟩:=ha.one
 have e1:=h1.str_inv
 subst e1
 have hat:=atoi_digs h0 h
 rw[if_pos hn]at hat
 refine(Tryz.strconv_Atoi_ok ⟨s.toArray⟩ (by simp[ByteArray.size];omega) (natOf s:Int) (by simpa using hat) w).mono fun e w' ⟨he,hb⟩=>?_
 subst he
 refine⟨_,rfl,fun w' A'=>?_,?_⟩
 ·refine .tup [.int .i64 (natOf s),.nilIface] [.int .i64 (natOf s),.nili] rfl (fun i v c h1 h2=>?_)
  match i,h1,h2 with
  |0,h1,h2=>simp at h1 h2;subst h1 h2;exact .int _ _
  |1,h1,h2=>simp at h1 h2;subst h1 h2;exact .nili
 ·rcases hb with rfl|⟨t,rfl⟩
  ·exact Below.refl _ _
  ·exact Lib.bytesWorld_below w 5 t
end Go.Proofs.YteggomljbalaaaaGreatDoor

namespace Go.Proofs.YteggomljbalaaaaGreatDoor
open Go.Sha
set_option maxRecDepth 100000
theorem mixed:Tryz.prog.follows .mixedOrders=true:=by kernel_rfl
theorem HH_ok:ESound Tryz.prog HH:=fun f args st r s h=>by
 simp only[HH]at h
 cases hm:memL f [22,23,52] with
 |true =>
  rw[hm,cond_true]at h
  simp only[hSl]at h
  by_cases h1:f=23
  ·subst h1
   exact cln_ok (e:=46) (es:=44) (b:=544) (by kernel_rfl) h
  rw[show Nat.beq f 23=false from Bool.eq_false_iff.2 fun e=>h1 (Nat.eq_of_beq_eq_true e),cond_false]at h
  by_cases h1:f=22
  ·subst h1
   exact ins_ok slA bearsI ovA rfl (by decide) h
  rw[show Nat.beq f 22=false from Bool.eq_false_iff.2 fun e=>h1 (Nat.eq_of_beq_eq_true e),cond_false]at h
  by_cases h1:f=52
  ·subst h1
   exact cln_ok (e:=71) (es:=9) (b:=208) (by kernel_rfl) h
  rw[show Nat.beq f 52=false from Bool.eq_false_iff.2 fun e=>h1 (Nat.eq_of_beq_eq_true e),cond_false]at h
  cases h
 |false =>
 rw[hm,cond_false]at h
 obtain⟨z,hz,e⟩:=Option.map_eq_some_iff.1 h
 cases e
 by_cases h1:f=106
 ·subst h1
  rw[show Nat.beq 106 106=true from rfl,cond_true]at hz
  unfold hCut at hz
  split at hz
  ·split at hz
   ·rename_i hl;cases hz;exact run_sound mixed HL0_ok _ _ _ _ _ (k106 hl)
   ·cases hz
  ·cases hz
 rw[show Nat.beq f 106=false from Bool.eq_false_iff.2 fun e=>h1 (Nat.eq_of_beq_eq_true e),cond_false]at hz
 by_cases h1:f=110
 ·subst h1
  rw[show Nat.beq 110 110=true from rfl,cond_true]at hz
  unfold hSuf at hz
  split at hz
  ·split at hz
   ·rename_i hl;cases hz;exact run_sound mixed HL0_ok _ _ _ _ _ (k110 hl.1 hl.2)
   ·cases hz
  ·cases hz
 rw[show Nat.beq f 110=false from Bool.eq_false_iff.2 fun e=>h1 (Nat.eq_of_beq_eq_true e),cond_false]at hz
 by_cases h1:f=161
 ·subst h1
  rw[show Nat.beq 161 161=true from rfl,cond_true]at hz
  unfold hAny at hz
  split at hz
  ·cases hz;exact run_sound mixed HL0_ok _ _ _ _ _ k161
  ·cases hz
 rw[show Nat.beq f 161=false from Bool.eq_false_iff.2 fun e=>h1 (Nat.eq_of_beq_eq_true e),cond_false]at hz
 by_cases h1:f=380
 ·subst h1
  rw[show Nat.beq 380 380=true from rfl,cond_true]at hz
  unfold hAtoi at hz
  split at hz
  ·split at hz
   ·rename_i hl;cases hz;exact v380 _ _ hl.1 hl.2.1 hl.2.2
   ·cases hz
  ·cases hz
 rw[show Nat.beq f 380=false from Bool.eq_false_iff.2 fun e=>h1 (Nat.eq_of_beq_eq_true e),cond_false]at hz
 by_cases h1:f=289
 ·subst h1
  rw[show Nat.beq 289 289=true from rfl,cond_true]at hz
  unfold hTrim at hz
  split at hz
  ·split at hz
   ·rename_i hl;obtain⟨e1,e2⟩:=hl;subst e1;cases hz;exact run_sound mixed HL0_ok _ _ _ _ _ (k289 e2)
   ·cases hz
  ·cases hz
 rw[show Nat.beq f 289=false from Bool.eq_false_iff.2 fun e=>h1 (Nat.eq_of_beq_eq_true e),cond_false]at hz
 cases hz
end Go.Proofs.YteggomljbalaaaaGreatDoor

namespace Go.Proofs.YteggomljbalaaaaGreatDoor
open Go.Sha
set_option maxRecDepth 100000
theorem f10 (hS:ESound Tryz.prog HS){l:List Act}(h:LogOk l)(hl:l.length<256){a:Act}(h1:a.okA)(h2:ActOk a){st:St}:VCalls Tryz.prog 10 [.sl (l.map Act.v),a.v] st (fun x y=>x=.ret (.tup [.sl ((insA l a).map Act.v),.int .i64 0])∧y=st):=by
 have h20:=fun(st:St)=>f20 h (st:=st)
 have h21:=fun(st:St)=>f21 h1 h2 (st:=st)
 have h24:=fun(st:St)=>up (f24 (l:=l) (t:=a.when) (by omega) (st:=st))
 have h23:=fun(st:St)=>up (r_cln (k:=23) (e:=46) (es:=44) (b:=544) (f:=Act.v) (l:=l) (st:=st) (fun _ _=>rfl) (fun _=>rfl) (fun _=>rfl) (by omega) (by decide))
 have hxs:(l.map Act.v).take (untN l a.when)++[a.v]++(l.map Act.v).drop (untN l a.when)=(insA l a).map Act.v:=by
  unfold insA;rw[List.map_append,List.map_cons,List.map_take,List.map_drop,List.append_assoc];rfl
 have h22:∀(id id':Nat) (s:St),Sha.look s.arr id=some ⟨46,44,l.map Act.v,true,false⟩→Sha.look s.arr id'=some ⟨46,44,[a.v],false,false⟩→id'≠id →
   run Tryz.prog HS 22 [.osl id l.length,.int .i64 (untN l a.when),.osl id' 1] s=some (.ret (.osl id (l.length+1)),⟨s.nx,s.mem,updA s.arr id ⟨46,44,(insA l a).map Act.v,true,false⟩,s.x⟩):=fun id id' s e1 e2 hne=>by
  rw[←hxs]
  exact up (r_ins (k:=22) (e:=46) (es:=44) (b:=544) (m:=1) (i:=untN l a.when) (hH:=fun _ _=>rfl) (h1:=e1) (h2:=e2) (hn:=by rw[List.length_map]) (hm:=rfl) hne Nat.one_pos unt_le (by omega) (by decide) (zs:=[a.v]) rfl)
 have hln:(insA l a).length=l.length+1:=insA_len
 have n1:¬256≤(l.length:Int):=by omega
 refine X_shut mixed hS Y10 rfl (by simp) ?_
 push_cast[Act.v,Edi.v]at h21 h23
 refine WX_seq ?_
 push_cast[Act.v,Edi.v,h20,h21,h24,h23,n1]
 refine HasN_s (WX_seq ?_)
 push_cast[Act.v,Edi.v,h20,h21,h24,h23,n1]
 refine HasN_s (WX_seq ?_)
 push_cast[Act.v,Edi.v,h20,h21,h24,h23,n1]
 refine HasN_s (WX_seq ?_)
 push_cast[Act.v,Edi.v,h20,h21,h24,h23,n1]
 refine HasN_s (WX_area ?_)
 refine Ord.p mixed hS 0 21 (.sl (l.map Act.v)) [1,2,3,4,5,6,7,8,9,10] _ rfl rfl rfl rfl (fun s hs=>?_) ?_
 ·push_cast
 refine Ord.p mixed hS 2 23 (.sl (l.map Act.v)) [1,3,4,5,6,7,8,9,10] _ rfl rfl rfl rfl (fun s hs=>?_) ?_
 ·push_cast
 refine Ord.p mixed hS 3 24 (.ptr 0 0) [1,4,5,6,7,8,9,10] _ rfl rfl rfl rfl (fun s hs=>?_) ?_
 ·push_cast
 refine Ord.p mixed hS 4 25 (.int .i64 a.when) [1,5,6,7,8,9,10] _ rfl rfl rfl rfl (fun s hs=>?_) ?_
 ·have h0:=hs 0 (Nat.zero_lt_one)
  push_cast at h0
  push_cast[h0]
 refine Ord.p mixed hS 6 27 a.v [1,5,7,8,9,10] _ rfl rfl rfl rfl (fun s hs=>?_) ?_
 ·have h0:=hs 0 (Nat.zero_lt_one)
  push_cast at h0
  push_cast[h0,Act.v,Edi.v]
 have p5:∀(e:Env) (s:St),Sha.look e 23=some (.sl (l.map Act.v))→Sha.look e 25=some (.int .i64 a.when)→evQ1 (run Tryz.prog HS) ⟨some 26,.call (.c (.fn (.func 24) [] [])) [.t 23,.t 25],none⟩ e s (fun e=>some (.normal,e,s))=some (.normal,(26,.int .i64 (untN l a.when))::e,s):=fun e s e1 e2=>by
  push_cast[e1,e2,h24]
 refine Ord.q mixed hS [1,7] (by decide) rfl (all2 ⟨rfl,?_⟩ ⟨rfl,?_⟩)
 ·push_cast[h23]
  refine HasN_s ⟨fun _ _=>rfl,?_⟩
  refine Ord.p mixed hS 5 26 (.int .i64 (untN l a.when)) [7,8,9,10] _ rfl rfl rfl rfl (fun s hs=>p5 _ _ rfl rfl) ?_
  refine Ord.q mixed hS [7] (by decide) rfl (all1 ⟨rfl,?_⟩)
  push_cast[h23,Act.v,Edi.v]
  refine HasN_s ⟨fun _ _=>rfl,?_⟩
  refine Ord.q mixed hS [8] (by decide) rfl (all1 ⟨rfl,?_⟩)
  push_cast
  rw[h22 1 2]
  rotate_left
  ·rfl
  ·rfl
  ·decide
  push_cast[hln]
  refine HasN_s ⟨fun _ _=>rfl,?_⟩
  refine Ord.p mixed hS 9 4 (.osl 1 (l.length+1)) [10] _ rfl rfl rfl rfl (fun s hs=>?_) ?_
  ·push_cast
  refine Ord.p mixed hS 10 5 (.int .i64 0) [] _ rfl rfl rfl rfl (fun s hs=>?_) ?_
  ·push_cast
  refine .done ?_
  refine WX_end ?_
  push_cast[hln]
  refine Has_s ?_
  push_cast[hln]
 ·push_cast[Act.v,Edi.v]
  refine HasN_s ⟨fun _ _=>rfl,?_⟩
  refine Ord.q mixed hS [1] (by decide) rfl (all1 ⟨rfl,?_⟩)
  push_cast[h23]
  refine HasN_s ⟨fun _ _=>rfl,?_⟩
  refine Ord.p mixed hS 5 26 (.int .i64 (untN l a.when)) [8,9,10] _ rfl rfl rfl rfl (fun s hs=>p5 _ _ rfl rfl) ?_
  refine Ord.q mixed hS [8] (by decide) rfl (all1 ⟨rfl,?_⟩)
  push_cast
  rw[h22 2 1]
  rotate_left
  ·rfl
  ·rfl
  ·decide
  push_cast[hln]
  refine HasN_s ⟨fun _ _=>rfl,?_⟩
  refine Ord.p mixed hS 9 4 (.osl 2 (l.length+1)) [10] _ rfl rfl rfl rfl (fun s hs=>?_) ?_
  ·push_cast
  refine Ord.p mixed hS 10 5 (.int .i64 0) [] _ rfl rfl rfl rfl (fun s hs=>?_) ?_
  ·push_cast
  refine .done ?_
  refine WX_end ?_
  push_cast[hln]
  refine Has_s ?_
  push_cast[hln]
theorem f10_full (hS:ESound Tryz.prog HS){l:List Act}(h:LogOk l)(hl:l.length=256){a:Act}(h1:a.okA)(h2:ActOk a){st:St}:VCalls Tryz.prog 10 [.sl (l.map Act.v),a.v] st (fun x y=>x=.ret (.tup [.sl [],.int .i64 5])∧y=st):=by
 have h20:=fun(st:St)=>f20 h (st:=st)
 have h21:=fun(st:St)=>f21 h1 h2 (st:=st)
 have n1:(l.length:Int)=256:=by omega
 refine X_shut mixed hS Y10 rfl (by simp) ?_
 push_cast[Act.v,Edi.v]at h21
 refine WX_seq ?_
 push_cast[Act.v,Edi.v,h20,h21,n1]
 refine HasN_s (WX_seq ?_)
 push_cast[Act.v,Edi.v,h20,h21,n1]
 refine HasN_s (WX_seq ?_)
 push_cast[Act.v,Edi.v,h20,h21,n1]
 refine HasN_s ?_
 refine(show Has _ _ from ?_)
 push_cast[Act.v,Edi.v,h20,h21,n1]
 refine Has_s ?_
 simp only[seqPost]
 push_cast
end Go.Proofs.YteggomljbalaaaaGreatDoor

namespace Go.Proofs.YteggomljbalaaaaGreatDoor
open Go.Sha
set_option maxRecDepth 100000
theorem f117 {l:List Hue}(hl:l.length<140737488355328){st:St}:run Tryz.prog HH 117 [.sl (l.map Hue.v),.sl []] st=some (.ret (.bool (decide (l.length=0))),st):=by
 by_cases h:l.length=0
 ·have h0:l=[]:=List.length_eq_zero_iff.1 h
  subst h0
  rw[run_shut F117 rfl rfl (by simp)]
  push_cast[runL_of B117_0.eq_1]
 ·have h1:¬(l.length:Int)=0:=by omega
  rw[run_shut F117 rfl rfl (by simp)]
  push_cast[Hue.v,h,h1]
theorem f118 {l:List Int}(hl:l.length<140737488355328){st:St}:run Tryz.prog HH 118 [.sl (l.map (V.int .i64)),.sl []] st=some (.ret (.bool (decide (l.length=0))),st):=by
 by_cases h:l.length=0
 ·have h0:l=[]:=List.length_eq_zero_iff.1 h
  subst h0
  rw[run_shut F118 rfl rfl (by simp)]
  push_cast[runL_of B118_0.eq_1]
 ·have h1:¬(l.length:Int)=0:=by omega
  rw[run_shut F118 rfl rfl (by simp)]
  push_cast[h,h1]
theorem f119 {l:List Gan}(hl:l.length<140737488355328){st:St}:run Tryz.prog HH 119 [.sl (l.map Gan.v),.sl []] st=some (.ret (.bool (decide (l.length=0))),st):=by
 by_cases h:l.length=0
 ·have h0:l=[]:=List.length_eq_zero_iff.1 h
  subst h0
  rw[run_shut F119 rfl rfl (by simp)]
  push_cast[runL_of B119_0.eq_1]
 ·have h1:¬(l.length:Int)=0:=by omega
  rw[run_shut F119 rfl rfl (by simp)]
  push_cast[Gan.v,h,h1]
theorem f120 {l:List Pt}(hl:l.length<140737488355328){st:St}:run Tryz.prog HH 120 [.sl (l.map Pt.v),.sl []] st=some (.ret (.bool (decide (l.length=0))),st):=by
 by_cases h:l.length=0
 ·have h0:l=[]:=List.length_eq_zero_iff.1 h
  subst h0
  rw[run_shut F120 rfl rfl (by simp)]
  push_cast[runL_of B120_0.eq_1]
 ·have h1:¬(l.length:Int)=0:=by omega
  rw[run_shut F120 rfl rfl (by simp)]
  push_cast[Pt.v,h,h1]
def cellsV:V→List V
 | .agg cs=>cs
 |_=>[]
@[reducible] def effL (e:Edi):List V:=[.int .i64 e.eff.num,.int .i64 e.eff.attr,.sl (e.eff.wave.map Pt.v),.int .i64 e.eff.period,.int .i64 e.eff.spread,.int .i64 e.eff.size]
@[reducible] def subL (e:Edi):List V:=[.int .i64 e.sub.num,.int .i64 e.sub.prio,.bool e.sub.inh,.sl (e.sub.gains.map Gan.v)]
theorem body85 {e:Edi}(h:e.okE){env:Env}{s:St}{p q x y:Nat}(e2:Sha.look env 2=some (.ptr 0 0))(e3:Sha.look env 3=some (.ptr 1 0))(e5:Sha.look env 5=some (.ptr p 0))(e6:Sha.look env 6=some (.ptr q 0))(e7:Sha.look env 7=some (.ptr x 0))(e8:Sha.look env 8=some (.ptr y 0))
  (m0:Sha.look s.mem 0=some (cellsV e.v)) (m1:Sha.look s.mem 1=some (cellsV zEV)) (mp:Sha.look s.mem p=some (effL e)) (mq:Sha.look s.mem q=some [.int .i64 0,.int .i64 0,.sl [],.int .i64 0,.int .i64 0,.int .i64 0]) (mx:Sha.look s.mem x=some (subL e)) (my:Sha.look s.mem y=some [.int .i64 0,.int .i64 0,.bool false,.sl []]) :
  runC Tryz.prog HH C85 env s=some (.ret,[(4,.bool (zEd e))],s):=by
 have h116:=fun(st:St)=>f116 h.moves h.parts (st:=st)
 have h117:=fun(st:St)=>f117 h.hues (st:=st)
 have h118:=fun(st:St)=>f118 h.chans (st:=st)
 have h119:=fun(st:St)=>f119 h.gains (st:=st)
 have h120:=fun(st:St)=>f120 h.wave (st:=st)
 push_cast[cellsV,Edi.v]at m0 m1
 push_cast[Cu.v]at h116
 unfold C85
 push_cast[e2,e3,e5,e6,e7,e8,m0,m1,mp,mq,mx,my,h116,h117,h118,h119,h120]
 unfold zEd zPal zGrp zSub zEff zFix
 simp only[Bool.and_assoc]
end Go.Proofs.YteggomljbalaaaaGreatDoor

namespace Go.Proofs.YteggomljbalaaaaGreatDoor
open Go.Sha
set_option maxRecDepth 100000
theorem keep2 {st s:St}(hn:st.nx=2)(h0:Sha.look s.mem 0=Sha.look st.mem 0)(h1:Sha.look s.mem 1=Sha.look st.mem 1):Keep st s:=fun id hid=>by
 rcases(show id=0∨id=1 by omega) with rfl|rfl
 ·exact h0
 ·exact h1
theorem keep4 {st s:St}(hn:st.nx=4)(h0:Sha.look s.mem 0=Sha.look st.mem 0)(h1:Sha.look s.mem 1=Sha.look st.mem 1)(h2:Sha.look s.mem 2=Sha.look st.mem 2)(h3:Sha.look s.mem 3=Sha.look st.mem 3):Keep st s:=fun id hid=>by
 rcases(show id=0∨id=1∨id=2∨id=3 by omega) with rfl|rfl|rfl|rfl
 ·exact h0
 ·exact h1
 ·exact h2
 ·exact h3
theorem same_ok {e:Edi}(h:e.okE){st:St}:VCalls Tryz.prog 85 [e.v,zEV] st (fun x y=>x=.ret (.bool (zEd e))∧y=st):=by
 refine X_shut mixed HH_ok Y85 rfl (by simp[Edi.v]) ?_
 refine WX_seq ?_
 push_cast[Edi.v]
 refine HasN_s ?_
 refine WX_area ?_
 refine Ord.p mixed HH_ok 0 9 (.ptr 0 22) [1,2,3,4,5,6,7] _ rfl rfl rfl rfl (fun s hs=>?_) ?_
 ·push_cast
 refine Ord.p mixed HH_ok 1 10 (.agg (effL e)) [2,3,4,5,6,7] _ rfl rfl rfl rfl (fun s hs=>?_) ?_
 ·have h0:=hs 0 (by show 0<2;decide)
  push_cast at h0
  push_cast[h0]
 refine Ord.p mixed HH_ok 2 11 (.ptr 1 22) [3,4,5,6,7] _ rfl rfl rfl rfl (fun s hs=>?_) ?_
 ·push_cast
 refine Ord.p mixed HH_ok 3 12 (.agg [.int .i64 0,.int .i64 0,.sl [],.int .i64 0,.int .i64 0,.int .i64 0]) [4,5,6,7] _ rfl rfl rfl rfl (fun s hs=>?_) ?_
 ·have h0:=hs 1 (by show 1<2;decide)
  push_cast at h0
  push_cast[h0]
 refine Ord.q mixed HH_ok [4,5] (by decide) rfl (all2 ⟨rfl,?_⟩ ⟨rfl,?_⟩)
 ·push_cast
  refine HasN_s ⟨keep2 rfl rfl rfl,?_⟩
  refine Ord.q mixed HH_ok [5] (by decide) rfl (all1 ⟨rfl,?_⟩)
  push_cast
  refine HasN_s ⟨keep2 rfl rfl rfl,?_⟩
  refine Ord.q mixed HH_ok [6] (by decide) rfl (all1 ⟨rfl,?_⟩)
  push_cast
  refine HasN_s ⟨keep2 rfl rfl rfl,?_⟩
  refine Ord.q mixed HH_ok [7] (by decide) rfl (all1 ⟨rfl,?_⟩)
  push_cast
  refine HasN_s ⟨keep2 rfl rfl rfl,?_⟩
  refine .done ?_
  refine WX_area ?_
  refine Ord.p mixed HH_ok 0 13 (.ptr 0 18) [1,2,3,4,5,6,7] _ rfl rfl rfl rfl (fun s hs=>?_) ?_
  ·push_cast
  refine Ord.p mixed HH_ok 1 14 (.agg (subL e)) [2,3,4,5,6,7] _ rfl rfl rfl rfl (fun s hs=>?_) ?_
  ·have h0:=hs 0 (by show 0<4;decide)
   push_cast at h0
   push_cast[h0]
  refine Ord.p mixed HH_ok 2 15 (.ptr 1 18) [3,4,5,6,7] _ rfl rfl rfl rfl (fun s hs=>?_) ?_
  ·push_cast
  refine Ord.p mixed HH_ok 3 16 (.agg [.int .i64 0,.int .i64 0,.bool false,.sl []]) [4,5,6,7] _ rfl rfl rfl rfl (fun s hs=>?_) ?_
  ·have h0:=hs 1 (by show 1<4;decide)
   push_cast at h0
   push_cast[h0]
  refine Ord.q mixed HH_ok [4,5] (by decide) rfl (all2 ⟨rfl,?_⟩ ⟨rfl,?_⟩)
  ·push_cast
   refine HasN_s ⟨keep4 rfl rfl rfl rfl rfl,?_⟩
   refine Ord.q mixed HH_ok [5] (by decide) rfl (all1 ⟨rfl,?_⟩)
   push_cast
   refine HasN_s ⟨keep4 rfl rfl rfl rfl rfl,?_⟩
   refine Ord.q mixed HH_ok [6] (by decide) rfl (all1 ⟨rfl,?_⟩)
   push_cast
   refine HasN_s ⟨keep4 rfl rfl rfl rfl rfl,?_⟩
   refine Ord.q mixed HH_ok [7] (by decide) rfl (all1 ⟨rfl,?_⟩)
   push_cast
   refine HasN_s ⟨keep4 rfl rfl rfl rfl rfl,?_⟩
   refine .done ?_
   refine WX_end ?_
   rw[body85 h (p:=2) (q:=3) (x:=4) (y:=5) rfl rfl rfl rfl rfl rfl rfl rfl rfl rfl rfl rfl]
   refine Has_s ?_
   push_cast
  ·push_cast
   refine HasN_s ⟨keep4 rfl rfl rfl rfl rfl,?_⟩
   refine Ord.q mixed HH_ok [4] (by decide) rfl (all1 ⟨rfl,?_⟩)
   push_cast
   refine HasN_s ⟨keep4 rfl rfl rfl rfl rfl,?_⟩
   refine Ord.q mixed HH_ok [6] (by decide) rfl (all1 ⟨rfl,?_⟩)
   push_cast
   refine HasN_s ⟨keep4 rfl rfl rfl rfl rfl,?_⟩
   refine Ord.q mixed HH_ok [7] (by decide) rfl (all1 ⟨rfl,?_⟩)
   push_cast
   refine HasN_s ⟨keep4 rfl rfl rfl rfl rfl,?_⟩
   refine .done ?_
   refine WX_end ?_
   rw[body85 h (p:=2) (q:=3) (x:=5) (y:=4) rfl rfl rfl rfl rfl rfl rfl rfl rfl rfl rfl rfl]
   refine Has_s ?_
   push_cast
 ·push_cast
  refine HasN_s ⟨keep2 rfl rfl rfl,?_⟩
  refine Ord.q mixed HH_ok [4] (by decide) rfl (all1 ⟨rfl,?_⟩)
  push_cast
  refine HasN_s ⟨keep2 rfl rfl rfl,?_⟩
  refine Ord.q mixed HH_ok [6] (by decide) rfl (all1 ⟨rfl,?_⟩)
  push_cast
  refine HasN_s ⟨keep2 rfl rfl rfl,?_⟩
  refine Ord.q mixed HH_ok [7] (by decide) rfl (all1 ⟨rfl,?_⟩)
  push_cast
  refine HasN_s ⟨keep2 rfl rfl rfl,?_⟩
  refine .done ?_
  refine WX_area ?_
  refine Ord.p mixed HH_ok 0 13 (.ptr 0 18) [1,2,3,4,5,6,7] _ rfl rfl rfl rfl (fun s hs=>?_) ?_
  ·push_cast
  refine Ord.p mixed HH_ok 1 14 (.agg (subL e)) [2,3,4,5,6,7] _ rfl rfl rfl rfl (fun s hs=>?_) ?_
  ·have h0:=hs 0 (by show 0<4;decide)
   push_cast at h0
   push_cast[h0]
  refine Ord.p mixed HH_ok 2 15 (.ptr 1 18) [3,4,5,6,7] _ rfl rfl rfl rfl (fun s hs=>?_) ?_
  ·push_cast
  refine Ord.p mixed HH_ok 3 16 (.agg [.int .i64 0,.int .i64 0,.bool false,.sl []]) [4,5,6,7] _ rfl rfl rfl rfl (fun s hs=>?_) ?_
  ·have h0:=hs 1 (by show 1<4;decide)
   push_cast at h0
   push_cast[h0]
  refine Ord.q mixed HH_ok [4,5] (by decide) rfl (all2 ⟨rfl,?_⟩ ⟨rfl,?_⟩)
  ·push_cast
   refine HasN_s ⟨keep4 rfl rfl rfl rfl rfl,?_⟩
   refine Ord.q mixed HH_ok [5] (by decide) rfl (all1 ⟨rfl,?_⟩)
   push_cast
   refine HasN_s ⟨keep4 rfl rfl rfl rfl rfl,?_⟩
   refine Ord.q mixed HH_ok [6] (by decide) rfl (all1 ⟨rfl,?_⟩)
   push_cast
   refine HasN_s ⟨keep4 rfl rfl rfl rfl rfl,?_⟩
   refine Ord.q mixed HH_ok [7] (by decide) rfl (all1 ⟨rfl,?_⟩)
   push_cast
   refine HasN_s ⟨keep4 rfl rfl rfl rfl rfl,?_⟩
   refine .done ?_
   refine WX_end ?_
   rw[body85 h (p:=3) (q:=2) (x:=4) (y:=5) rfl rfl rfl rfl rfl rfl rfl rfl rfl rfl rfl rfl]
   refine Has_s ?_
   push_cast
  ·push_cast
   refine HasN_s ⟨keep4 rfl rfl rfl rfl rfl,?_⟩
   refine Ord.q mixed HH_ok [4] (by decide) rfl (all1 ⟨rfl,?_⟩)
   push_cast
   refine HasN_s ⟨keep4 rfl rfl rfl rfl rfl,?_⟩
   refine Ord.q mixed HH_ok [6] (by decide) rfl (all1 ⟨rfl,?_⟩)
   push_cast
   refine HasN_s ⟨keep4 rfl rfl rfl rfl rfl,?_⟩
   refine Ord.q mixed HH_ok [7] (by decide) rfl (all1 ⟨rfl,?_⟩)
   push_cast
   refine HasN_s ⟨keep4 rfl rfl rfl rfl rfl,?_⟩
   refine .done ?_
   refine WX_end ?_
   rw[body85 h (p:=3) (q:=2) (x:=5) (y:=4) rfl rfl rfl rfl rfl rfl rfl rfl rfl rfl rfl rfl]
   refine Has_s ?_
   push_cast
end Go.Proofs.YteggomljbalaaaaGreatDoor

namespace Go.Proofs.YteggomljbalaaaaGreatDoor
open Go.Sha
set_option maxRecDepth 100000
theorem HS_ok:ESound Tryz.prog HS:=fun f args st r s h=>by
 replace h:(bif memL f [3,9,10,11,20,21,84] then none else bif Nat.beq f 85 then(hSame args).map fun r=>(r,st) else run Tryz.prog HH f args st)=some (r,s):=h
 cases hm:memL f [3,9,10,11,20,21,84] with
 |true=>rw[hm,cond_true]at h;cases h
 |false =>
 rw[hm,cond_false]at h
 by_cases h1:f=85
 ·subst h1
  rw[show Nat.beq 85 85=true from rfl,cond_true]at h
  obtain⟨z,hz,e⟩:=Option.map_eq_some_iff.1 h
  cases e
  unfold hSame at hz
  split at hz
  ·split at hz
   ·rename_i hc
    cases hz
    have hs:=Classical.choose_spec hc.2
    have hq:=same_ok hs.2 (st:=st)
    rw[←hs.1]at hq
    have key:∀w',w'=zEV→VCalls Tryz.prog 85 [_,w'] st _:=fun w' e=>by rw[e];exact hq
    exact key _ hc.1
   ·cases hz
  ·cases hz
 rw[show Nat.beq f 85=false from Bool.eq_false_iff.2 fun e=>h1 (Nat.eq_of_beq_eq_true e),cond_false]at h
 exact run_sound mixed HH_ok _ _ _ _ _ h
theorem f11 {l:List Act}(h:LogOk l){t:Int}{st:St}:run Tryz.prog HS 11 [.sl (l.map Act.v),.int .i64 t] st=some (.ret (.tup [.int .i64 (untN l t),.int .i64 0]),st):=by
 have h20:=fun(st:St)=>f20 h (st:=st)
 have h24:=fun(st:St)=>up (f24 (l:=l) (t:=t) (by have:=h.len;omega) (st:=st))
 rw[run_shut F11 rfl rfl (by simp)]
 push_cast[h20,h24]
end Go.Proofs.YteggomljbalaaaaGreatDoor

namespace Go.Proofs.YteggomljbalaaaaGreatDoor
open Go.Sha
set_option maxRecDepth 100000
def putP (v w:V)(r:VRes):Prop:=∃(l:List Act) (a:Act),v=.sl (l.map Act.v)∧w=a.v∧LogOk l∧a.okA∧ActOk a∧r=(if l.length<256 then .ret (.tup [.sl ((insA l a).map Act.v),.int .i64 0]) else .ret (.tup [.sl [],.int .i64 5]))
open Classical in
noncomputable def hPut:List V→Option VRes
 |[v,w]=>if h:∃r,putP v w r then some (Classical.choose h) else none
 |_=>none
noncomputable def HT:EvF:=⟨[22],fun f args st=>bif memL f [3] then none else bif Nat.beq f 10 then(hPut args).map fun r=>(r,st) else run Tryz.prog HS f args st⟩
@[push_cast]theorem HT_raw:HT.raw=[22]:=idq rfl
theorem put_ok {v w:V}{r:VRes}(h:putP v w r){st:St}:VCalls Tryz.prog 10 [v,w] st (fun x y=>x=r∧y=st):=by
 obtain⟨l,a,rfl,rfl,h1,h2,h3,rfl⟩:=h
 split
 ·rename_i hl;exact f10 HS_ok h1 hl h2 h3
 ·rename_i hl;exact f10_full HS_ok h1 (by have:=h1.len;omega) h2 h3
theorem HT_ok:ESound Tryz.prog HT:=fun f args st r s h=>by
 replace h:(bif memL f [3] then none else bif Nat.beq f 10 then(hPut args).map fun r=>(r,st) else run Tryz.prog HS f args st)=some (r,s):=h
 cases hm:memL f [3] with
 |true=>rw[hm,cond_true]at h;cases h
 |false =>
 rw[hm,cond_false]at h
 by_cases h1:f=10
 ·subst h1
  rw[show Nat.beq 10 10=true from rfl,cond_true]at h
  obtain⟨z,hz,e⟩:=Option.map_eq_some_iff.1 h
  cases e
  unfold hPut at hz
  split at hz
  ·split at hz
   ·rename_i hc
    cases hz
    exact put_ok (Classical.choose_spec hc)
   ·cases hz
  ·cases hz
 rw[show Nat.beq f 10=false from Bool.eq_false_iff.2 fun e=>h1 (Nat.eq_of_beq_eq_true e),cond_false]at h
 exact run_sound mixed HS_ok _ _ _ _ _ h
theorem map_inj {α β:Type}{f:α→β}(hf:∀{x y},f x=f y→x=y):∀{l k:List α},l.map f=k.map f→l=k
 |[],[],_=>rfl
 |[],_::_,h=>by cases h
 |_::_,[],h=>by cases h
 |x::l,y::k,h=>by
  simp only[List.map_cons,List.cons.injEq]at h
  rw[hf h.1,map_inj hf h.2]
theorem up2 {k:FuncId}{a:List V}{st:St}{r:VRes×St}(h:run Tryz.prog HS k a st=some r)(h1:memL k [3]=false:=by rfl)(h2:Nat.beq k 10=false:=by rfl):run Tryz.prog HT k a st=some r:=run_H (by
 show(bif memL k [3] then none else bif Nat.beq k 10 then _ else run Tryz.prog HS k a st)=_
 rw[h1,h2,cond_false,cond_false];exact h)
open Classical in
theorem e10 {l:List Act}(h:LogOk l){a:Act}(h1:a.okA)(h2:ActOk a){st:St}:run Tryz.prog HT 10 [.sl (l.map Act.v),a.v] st=some ((if l.length<256 then .ret (.tup [.sl ((insA l a).map Act.v),.int .i64 0]) else .ret (.tup [.sl [],.int .i64 5])),st):=run_H (by
 show(hPut [.sl (l.map Act.v),a.v]).map (fun r=>(r,st))=_
 have hc:∃r,putP (.sl (l.map Act.v)) a.v r:=⟨_,l,a,rfl,rfl,h,h1,h2,rfl⟩
 show(if h:∃r,putP (.sl (l.map Act.v)) a.v r then some (Classical.choose h) else none).map (fun r=>(r,st))=_
 rw[dif_pos hc]
 obtain⟨l',a',e1,e2,_,_,_,e3⟩:=Classical.choose_spec hc
 rw[e3]
 have e1':l=l':=map_inj (fun h=>Act.inj h) (V.sl.inj e1)
 have e2':a=a':=Act.inj e2
 subst e1' e2'
 rfl)
end Go.Proofs.YteggomljbalaaaaGreatDoor

namespace Go.Proofs.YteggomljbalaaaaGreatDoor
open Go.Sha
set_option maxRecDepth 100000
theorem logR_ok {l:List Act}:∀r j,l.drop j=r→logR l r j=0→∀q∈r,actR q=0
 |[],_,_,_=>fun q hq=>by cases hq
 |x::r,j,hd,h=>fun q hq=>by
  simp only[logR]at h
  split at h
  ·rename_i h1;exact absurd h h1
  ·rename_i h1
   split at h
   ·cases h
   ·rcases List.mem_cons.1 hq with rfl|hq
    ·exact Classical.not_not.1 h1
    ·exact logR_ok r (j+1) (by rw[←List.drop_drop,hd];rfl) h q hq
theorem logR_asc {l:List Act}:∀r j,l.drop j=r→logR l r j=0→(∀x,0<j→l[j-1]?=some x→∀y∈r,x.when≤y.when)∧r.Pairwise fun a b=>a.when≤b.when
 |[],_,_,_=>And.intro (fun _ _ _ _ hy=>by cases hy) List.Pairwise.nil
 |x::r,j,hd,h=>by
  simp only[logR]at h
  split at h
  ·rename_i h1;exact absurd h h1
  ·split at h
   ·cases h
   ·rename_i h2
    obtain⟨i1,i2⟩:=logR_asc r (j+1) (by rw[←List.drop_drop,hd];rfl) h
    have hx:l[j]?=some x:=by
     have:=congrArg (fun k=>k[0]?) hd
     simpa using this
    have i3:=i1 x (by omega) (by simpa using hx)
    refine⟨fun z hj hz y hy=>?_,List.pairwise_cons.2 ⟨i3,i2⟩⟩
    have hzx:z.when≤x.when:=by
     have:l.getD (j-1) default=z:=by rw[List.getD_eq_getElem?_getD,hz];rfl
     rw[this]at h2
     have:=fun e=>h2 ⟨hj,e⟩
     omega
    rcases List.mem_cons.1 hy with rfl|hy
    ·exact hzx
    ·exact Int.le_trans hzx (i3 y hy)
theorem log_ok {l:List Act}(hb:∀q∈l,q.okA)(h:logRS l=0):LogOk l:=by
 unfold logRS at h
 split at h
 ·cases h
 ·rename_i hl
  exact⟨by omega,fun q hq=>⟨hb q hq,act_ok (logR_ok l 0 rfl h q hq)⟩,(logR_asc l 0 rfl h).2⟩
theorem edI_len:∀(l:List Act) (j:Nat),(edI l j).length=l.countP isE
 |[],_=>rfl
 |q::r,j=>by
  simp only[edI,List.countP_cons]
  split
  ·rw[List.length_cons,edI_len r (j+1)]
  ·rw[edI_len r (j+1)];rfl
theorem edI_ge:∀(l:List Act) (j:Nat),∀x∈edI l j,(j:Int)≤x
 |[],_,x,h=>by cases h
 |q::r,j,x,h=>by
  simp only[edI]at h
  split at h
  ·rcases List.mem_cons.1 h with rfl|h
   ·exact Int.le_refl _
   ·have:=edI_ge r (j+1) x h;omega
  ·have:=edI_ge r (j+1) x h;omega
theorem edI_take:∀(l:List Act) (j n:Nat),(edI l j).countP (fun x:Int=>decide (x<((j+n:Nat):Int)))=(l.take n).countP isE
 |[],_,n=>by simp[edI]
 |q::r,j,0=>by
  rw[List.take_zero,List.countP_nil,List.countP_eq_zero]
  intro x hx
  have:=edI_ge _ _ x hx
  simp only[decide_eq_true_eq];omega
 |q::r,j,n+1=>by
  have ih:=edI_take r (j+1) n
  rw[show j+1+n=j+(n+1) by omega]at ih
  rw[List.take_succ_cons,List.countP_cons]
  simp only[edI]
  split
  ·rename_i h
   rw[List.countP_cons,ih]
   simp[h,show(j:Int)<j+(n+1) by omega]
  ·rename_i h
   rw[ih];simp[h]
theorem insA_count {l:List Act}{a:Act}:(insA l a).countP isE=l.countP isE+if isE a=true then 1 else 0:=by
 unfold insA
 have h:=List.countP_append (p:=isE) (l₁:=l.take (untN l a.when)) (l₂:=l.drop (untN l a.when))
 rw[List.take_append_drop]at h
 rw[List.countP_append,List.countP_cons,h]
 omega
theorem insA_ok {l:List Act}(h:LogOk l)(hl:l.length<256){a:Act}(h1:a.okA)(h2:ActOk a):LogOk (insA l a):=⟨by rw[insA_len];omega,fun q hq=>by
 rcases insA_mem hq with rfl|hq
 ·exact⟨h1,h2⟩
 ·exact h.all q hq,insA_asc h.asc⟩
theorem take_ok {l:List Act}(h:LogOk l)(n:Nat):LogOk (l.take n):=⟨by rw[List.length_take];have:=h.len;omega,fun q hq=>h.all q (List.mem_of_mem_take hq),h.asc.take⟩
end Go.Proofs.YteggomljbalaaaaGreatDoor

namespace Go.Proofs.YteggomljbalaaaaGreatDoor
open Go.Sha
set_option maxRecDepth 100000
theorem L3 {B:List Int}(hB:B.length<140737488355328){N:Int}{v0 v4 v8 v9 v11 v13:V}{S:St}:∀r j,B.drop j=r→∀c:Nat,c≤j→runL Tryz.prog HT [0,4,7,8,9,11,12,13,14,102,103,104] S.nx B3_0 [(0,v0),(4,v4),(7,.sl (B.map (.int .i64))),(8,v8),(9,v9),(11,v11),(12,.int .i64 N),(13,v13),(14,.int .i64 c),(102,.sl (B.map (.int .i64))),(103,.int .i64 B.length),(104,.int .i64 j)] S =
  some (.exit 0,[(0,v0),(4,v4),(7,.sl (B.map (.int .i64))),(8,v8),(9,v9),(11,v11),(13,v13),(14,.int .i64 ((c+r.countP (fun x:Int=>decide (x<N)):Nat):Int))],S):=by
 refine drop_ind (fun j hj c hc=>?_) (fun q r j hj hx hd ih c hc=>?_)
 all_goals rw[runL_of B3_0.eq_1]
 ·have h1:¬(j:Int)<B.length:=by omega
  push_cast[h1]
  simp
 ·have h1:(j:Int)<B.length:=by omega
  have hw:=iw1 (j:=j) (by omega)
  have hv:=iw1 (j:=c) (by omega)
  by_cases hq:q<N
  ·have ih:=ih (c+1) (by omega)
   rw[List.countP_cons]
   push_cast[h1,hw,hv,hx,hq]at ih ⊢
   rw[ih]
   simp
   omega
  ·have ih:=ih c (by omega)
   rw[List.countP_cons]
   push_cast[h1,hw,hx,hq]at ih ⊢
   rw[ih]
theorem l3 {l:List Act}(hl:l.length<140737488355328)(hb:∀q∈l,q.okA){a:Act}(ha:a.okA){t:Int}(ht0:0≤t)(ht:t<65536){st:St}:run Tryz.prog HT 3 [.sl (l.map Act.v),a.v,.int .u16 t] st=some (.ret (.bool true),st):=by
 have h4:=fun(st:St)=>up2 (up (f4 (st:=st)))
 obtain⟨b5,g5⟩:=f5 hl hb
 obtain⟨b6,g6⟩:=f6 ha
 have h5:=fun(st:St)=>up2 (up (g5 st))
 have h6:=fun(st:St)=>up2 (up (g6 st))
 have h7:=fun(st:St)=>up2 (up (f7 hl hb (st:=st)))
 have h8:=fun(st:St)=>up2 (up (f8 ha (st:=st)))
 rw[run_shut F3 rfl rfl (by simp)]
 push_cast[Act.v,Edi.v]at h6 h8
 cases b5 with
 |false=>push_cast[Act.v,Edi.v,h4,h5,h6,h7,h8]
 |true =>
 cases b6 with
 |false=>push_cast[Act.v,Edi.v,h4,h5,h6,h7,h8]
 |true =>
 by_cases c7:¬logRS l=0
 ·push_cast[Act.v,Edi.v,h4,h5,h6,h7,h8,c7]
 replace c7:=Classical.not_not.1 c7
 by_cases c8:¬actR a=0
 ·push_cast[Act.v,Edi.v,h4,h5,h6,h7,h8,c7,c8]
 replace c8:=Classical.not_not.1 c8
 by_cases ct:(40:Int)<l.length
 ·push_cast[Act.v,Edi.v,h4,h5,h6,h7,h8,c7,c8,ct]
 have hok:=log_ok hb c7
 have hao:=act_ok c8
 have h256:l.length<256:=by omega
 have h9:=fun(st:St)=>up2 (f9 hok (st:=st))
 have h10:=fun(st:St)=>e10 hok ha hao (st:=st)
 rw[if_pos h256]at h10
 push_cast[Act.v,Edi.v]at h10
 have hmo:=insA_ok hok h256 ha hao
 have h9m:=fun(st:St)=>up2 (f9 hmo (st:=st))
 have h11:=fun(st:St)=>up2 (f11 hok (t:=t) (st:=st))
 have hw:IntKind.i64.wrap t=t:=iwrap (by omega) (by omega)
 have hun:=unt_le (l:=l) (t:=t)
 generalize hn:untN l t=n at *
 have h9t:=fun(st:St)=>up2 (f9 (take_ok hok n) (st:=st))
 have n1:¬(n:Int)<0:=by omega
 have n2:¬(l.length:Int)<n:=by omega
 push_cast[Act.v,Edi.v,h4,h5,h6,h7,h8,c7,c8,ct,h9,h10,h9m,h11,hw,h9t,n1,n2]
 refine dn_eq (by omega) ?_
 have hB:(edI l 0).length<140737488355328:=by rw[edI_len];have:=List.countP_le_length (p:=isE) (l:=l);omega
 have hL:=fun(v0 v4 v8 v9 v11 v13:V)=>L3 (N:=(n:Int)) (v0:=v0) (v4:=v4) (v8:=v8) (v9:=v9) (v11:=v11) (v13:=v13) (S:=⟨1,[],[],⟨[],st.x.gl,[]⟩⟩) hB _ 0 rfl 0 (Nat.le_refl _)
 have hcnt:=edI_take l 0 n
 rw[Nat.zero_add]at hcnt
 simp only[List.drop_zero,Nat.zero_add,hcnt]at hL
 push_cast at hL
 have k1:=edI_len (insA l a) 0
 have k2:=edI_len l 0
 have k3:=edI_len (l.take n) 0
 have k4:=insA_count (l:=l) (a:=a)
 have k5:=insA_len (l:=l) (a:=a)
 have hle:=List.countP_le_length (p:=isE) (l:=l)
 generalize hcl:l.countP isE=m at *
 generalize hct:(l.take n).countP isE=m2 at *
 have hk1:((edI (insA l a) 0).length:Int)-((edI l 0).length:Int)=if isE a=true then 1 else 0:=by rw[k1,k2,k4];split<;>omega
 have hle':m≤40:=by omega
 have hwr:IntKind.i64.wrap (((edI (insA l a) 0).length:Int)-((edI l 0).length:Int))=if isE a=true then 1 else 0:=by rw[hk1];split<;>rfl
 have hw1:IntKind.i64.wrap ((l.length:Int)+1)=(l.length:Int)+1:=iwrap (by omega) (by omega)
 by_cases e1:a.kind=17
 ·have hE:isE a=true:=by simp[isE,e1]
  rw[if_pos hE]at hwr
  push_cast[hL,k3,k5,hwr,hw1,e1]
 by_cases e2:a.kind=18
 ·have hE:isE a=true:=by simp[isE,e2]
  rw[if_pos hE]at hwr
  push_cast[hL,k3,k5,hwr,hw1,e1,e2]
 by_cases e3:a.kind=19
 ·have hE:isE a=true:=by simp[isE,e3]
  rw[if_pos hE]at hwr
  push_cast[hL,k3,k5,hwr,hw1,e1,e2,e3]
 have hE:¬isE a=true:=by simp[isE,e1,e2,e3]
 rw[if_neg hE]at hwr
 have e3':(a.kind == 19)=false:=by simp[e3]
 push_cast[hL,k3,k5,hwr,hw1,e1,e2,e3]
 rw[e3']
 rfl
end Go.Proofs.YteggomljbalaaaaGreatDoor

namespace Go.Proofs.YteggomljbalaaaaGreatDoor
open Go.Sha
theorem Edi.Dk.ok {x:Edi}(h:x.Dk):x.okE:=⟨by have:=h.cue.moves.1;omega,by have:=h.cue.parts.1;omega,by have:=h.pal.hues.1;omega,by have:=h.grp.chans.1;omega,by have:=h.sub.gains.1;omega,by have:=h.eff.wave.1;omega⟩
theorem Act.Dk.ok {x:Act}(h:x.Dk):x.okA:=⟨by have:=h.cue;omega,by have:=h.ents.1;omega,by have:=h.prms.1;omega,by have:=h.chans.1;omega,h.edt.ok⟩
section
open Go.ChangeShapes Go.WideShapes Go.ChangeAt Go.RowKit
variable {H:Type}{enc:TypeId×Value→H}{P:Program}{w:World}
theorem arg_oneS {n:Nat}{t:TypeId}{b:Option Addr}{l c:Nat}{d:DataW H}{ps:List MemPlace}{s:CSh}(h:DataW.Trod enc P w 0 (fun _=>true) true t (.slice b l c) d ps)(hsh:shOf P n t=some [s])
  (hw:∀k∈d.weights P t,k≤reachBytes):∃x,OkC s x∧Rep w (abs0 w) (.slice b l c) x:=by
 obtain⟨fuel,hf⟩:=h
 obtain⟨vs,h1,h2,h3⟩:=trod_sh n fuel t _ _ _ hf hsh hw
 obtain⟨x,r,rfl,hx,hr⟩:=h1.cons_inv
 obtain rfl:=hr.nil_inv
 exact⟨x,hx,h2.2 0 _ _ rfl rfl⟩
end
end Go.Proofs.YteggomljbalaaaaGreatDoor

namespace Go.Proofs.YteggomljbalaaaaGreatDoor
open Go.ChangeShapes Go.WideShapes Go.ChangeAt Go.RowKit Go.Sha
theorem sound:ESound Tryz.prog HT:=HT_ok
theorem law3 {l:List Act}(hl:l.length≤140737488351232∧∀q∈l,q.Dk){a:Act}(ha:a.Dk){t:Int}(ht:0≤t∧t≤65535){st:St}:run Tryz.prog HT 3 [.sl (l.map Act.v),a.v,.int .u16 t] st=some (.ret (.bool true),st):=l3 (by have:=hl.1;omega) (fun q hq=>(hl.2 q hq).ok) ha.ok ht.1 (by have:=ht.2;omega)
theorem sk1:(laidOutB Tryz.prog)=true:=by kernel_rfl
theorem sk2:(mapsRowed Tryz.prog)=true:=by kernel_rfl
theorem sk6:(Tryz.prog.stops == [])=true:=by kernel_rfl
theorem sk8:(Tryz.prog.stopKnobs == [])=true:=by kernel_rfl
theorem sk22:(Rows.topLogsKeepEditsRow.plainKeys == Tryz.prog.plainKeys)=true:=by kernel_rfl
theorem sk24:(Tryz.prog.stopsHeard)=true:=by kernel_rfl
theorem sk25:(Tryz.prog.mayEnter)=true:=by kernel_rfl
theorem sk26:(Rows.topLogsKeepEditsRow.lifted == Tryz.prog.liftsFinal)=true:=by kernel_rfl
theorem sk27:(Tryz.prog.make == some Rows.topLogsKeepEditsRow.make)=true:=by kernel_rfl
theorem sk15:(Rows.topLogsKeepEditsRow.mapsOut == Tryz.prog.mapsAmong Tryz.f3.resultTypes.toList)=true:=by kernel_rfl
theorem sown:ownKnob Tryz.prog.godebug=none:=by kernel_rfl
theorem smain:Tryz.prog.mainIs=some (Rows.topLogsKeepEditsCard.stood.harness.1,Rows.topLogsKeepEditsCard.stood.harness.2.toList):=by kernel_rfl
theorem slooks:Rows.topLogsKeepEditsCard.stood.looks=Tryz.prog.looks []:=by kernel_rfl
end Go.Proofs.YteggomljbalaaaaGreatDoor

