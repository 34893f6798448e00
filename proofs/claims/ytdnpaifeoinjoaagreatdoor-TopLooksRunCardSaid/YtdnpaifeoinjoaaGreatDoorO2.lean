/- DERIVED: THE SHELF's CONTRACTS AT THIS DUMP,IN PLAIN WORDS (tools/lay-plain.mjs out of 'TryzShelf.lean',which tools/lay-shelf.mjs wrote): THE SAME DECLARATIONS UNDER THE SAME NAMES: 'import','namespac .. -/
import Derived.Shelf.Small.Bits
import Derived.Shelf.Strconv.Atoi
import Derived.Shelf.Strconv.Itoa0
import Derived.Shelf.Strconv.Itoa1
import Derived.Shelf.LaysM
import Derived.Shelf.Strconv.Itoa2
import Derived.Shelf.Strconv.Itoa3
import Derived.Shelf.Strconv.AtoiErrFast
import Derived.Shelf.Strconv.ParseIntEmpty
import Derived.Shelf.Strconv.AtoiFail
import Derived.Shelf.Strconv.Clone
import Derived.Shelf.Strconv.SyntaxError
import Derived.Shelf.LaysC
import Derived.Shelf.Strconv.ToError
import Derived.Shelf.Strconv.Lower
import Derived.Shelf.Strconv.ParseUint10
import Derived.Shelf.Strconv.ParseUint10Empty
import Derived.Shelf.Strconv.ParseUint10Any
import Derived.Shelf.Strconv.ParseInt10
import Derived.Shelf.Strconv.AtoiLong
import Derived.Shelf.Strconv.AtoiInnerAll
import Derived.Shelf.Strconv.RangeError
import Derived.Shelf.Strconv.ToErrorRange
import Derived.Shelf.Strconv.AtoiAll
import Derived.Shelf.Strings.Search1
import Derived.Shelf.Strings.Search2
import Derived.Shelf.Strings.Cut
import Derived.Shelf.Strings.Shaped
import Derived.Shelf.GgClosure.StringsIndexFunc
import Derived.Ground.GgwProg
import Derived.Shelf.GgClosure.StringsIndexFuncTop
import Derived.Shelf.Strings.Prefix
import Derived.Shelf.SlGeneric
import Derived.Ground.SlsfProg
import Derived.Shelf.SlSortCmp.NoneTotal
import Derived.Test.YtdnpaifeoinjoaaGreatDoorProg
import Derived.Test.YtdnpaifeoinjoaaGreatDoorO1
import Derived.Test.YtdnpaifeoinjoaaGreatDoorOShbXE
import Derived.Lib.AtoiAllCases
import Derived.Laws.RangeAny
import Derived.Test.YtdnpaifeoinjoaaGreatDoorCards
import Derived.Test.YtdnpaifeoinjoaaGreatDoorOShbAC
import Derived.SizedLaws
import Derived.WalkKit
import Derived.ProofKit
import Derived.OpenShut
import Derived.ChangeMaps5
import Derived.LaidLaws
import Derived.LaidHandle
import Derived.Lay
import Derived.SevenTiedAt
set_option linter.unusedSimpArgs false
set_option linter.unusedVariables false
namespace Go.Proofs
open Go.Shelf
def Tryz.laysC172_ren:Go.Shelf.Ren:=⟨fun|172=>178|244=>179|245=>180|247=>181|279=>182|280=>183|281=>184|282=>185|287=>186|316=>187|171=>189|205=>188|321=>190|322=>191|243=>192|246=>193|283=>194|284=>195|285=>196|286=>197|129=>154|317=>198|318=>199|319=>200|320=>201|337=>202|338=>203|n=>n,fun|9=>9|3=>3|75=>208|76=>209|4=>4|5=>5|167=>212|37=>171|0=>0|85=>213|2=>2|168=>215|53=>101|175=>218|46=>151|210=>222|127=>226|145=>229|143=>227|21=>21|171=>231|173=>233|212=>236|51=>184|20=>20|213=>237|232=>238|233=>239|80=>240|n=>n,fun|15=>1|16=>2|17=>3|18=>4|19=>5|n=>n⟩
theorem Tryz.laysC172:Go.Proofs.LaysC.n172 Tryz.prog Tryz.laysC172_ren:={
 mixed:=by kernel_rfl
 f129:=Tryz.func154.trans (congrArg some (by kernel_rfl))
 f171:=Tryz.func189.trans (congrArg some (by kernel_rfl))
 f172:=Tryz.func178.trans (congrArg some (by kernel_rfl))
 f205:=Tryz.func188.trans (congrArg some (by kernel_rfl))
 f243:=Tryz.func192.trans (congrArg some (by kernel_rfl))
 f244:=Tryz.func179.trans (congrArg some (by kernel_rfl))
 f245:=Tryz.func180.trans (congrArg some (by kernel_rfl))
 f246:=Tryz.func193.trans (congrArg some (by kernel_rfl))
 f247:=Tryz.func181.trans (congrArg some (by kernel_rfl))
 f279:=Tryz.func182.trans (congrArg some (by kernel_rfl))
 f280:=Tryz.func183.trans (congrArg some (by kernel_rfl))
 f281:=Tryz.func184.trans (congrArg some (by kernel_rfl))
 f282:=Tryz.func185.trans (congrArg some (by kernel_rfl))
 f283:=Tryz.func194.trans (congrArg some (by kernel_rfl))
 f284:=Tryz.func195.trans (congrArg some (by kernel_rfl))
 f285:=Tryz.func196.trans (congrArg some (by kernel_rfl))
 f286:=Tryz.func197.trans (congrArg some (by kernel_rfl))
 f287:=Tryz.func186.trans (congrArg some (by kernel_rfl))
 f316:=Tryz.func187.trans (congrArg some (by kernel_rfl))
 f317:=Tryz.func198.trans (congrArg some (by kernel_rfl))
 f318:=Tryz.func199.trans (congrArg some (by kernel_rfl))
 f319:=Tryz.func200.trans (congrArg some (by kernel_rfl))
 f320:=Tryz.func201.trans (congrArg some (by kernel_rfl))
 f321:=Tryz.func190.trans (congrArg some (by kernel_rfl))
 f322:=Tryz.func191.trans (congrArg some (by kernel_rfl))
 f337:=Tryz.func202.trans (congrArg some (by kernel_rfl))
 f338:=Tryz.func203.trans (congrArg some (by kernel_rfl))
 t0:=Tryz.underlying0
 a0:=Tryz.isAgg0
 z0:=Tryz.sizeOf0
 v0:=Tryz.zeroValue0
 t2:=Tryz.underlying2
 a2:=Tryz.isAgg2
 z2:=Tryz.sizeOf2
 v2:=Tryz.zeroValue2
 t3:=Tryz.underlying3
 a3:=Tryz.isAgg3
 z3:=Tryz.sizeOf3
 v3:=Tryz.zeroValue3
 t4:=Tryz.underlying4
 a4:=Tryz.isAgg4
 z4:=Tryz.sizeOf4
 v4:=Tryz.zeroValue4
 t5:=Tryz.underlying5
 a5:=Tryz.isAgg5
 z5:=Tryz.sizeOf5
 v5:=Tryz.zeroValue5
 t9:=Tryz.underlying9
 a9:=Tryz.isAgg9
 z9:=Tryz.sizeOf9
 v9:=Tryz.zeroValue9
 t20:=Tryz.underlying20
 a20:=Tryz.isAgg20
 z20:=Tryz.sizeOf20
 v20:=Tryz.zeroValue20
 t21:=Tryz.underlying21
 a21:=Tryz.isAgg21
 z21:=Tryz.sizeOf21
 v21:=Tryz.zeroValue21
 t37:=Tryz.underlying171
 a37:=Tryz.isAgg171
 z37:=Tryz.sizeOf171
 v37:=Tryz.zeroValue171
 t46:=Tryz.underlying151
 a46:=Tryz.isAgg151
 z46:=Tryz.sizeOf151
 v46:=Tryz.zeroValue151
 t51:=Tryz.underlying184
 a51:=Tryz.isAgg184
 z51:=Tryz.sizeOf184
 v51:=Tryz.zeroValue184
 t53:=Tryz.underlying101
 a53:=Tryz.isAgg101
 z53:=Tryz.sizeOf101
 v53:=Tryz.zeroValue101
 t75:=Tryz.underlying208
 a75:=Tryz.isAgg208
 z75:=Tryz.sizeOf208
 v75:=Tryz.zeroValue208
 t76:=Tryz.underlying209
 a76:=Tryz.isAgg209
 z76:=Tryz.sizeOf209
 v76:=Tryz.zeroValue209
 t85:=Tryz.underlying213
 a85:=Tryz.isAgg213
 z85:=Tryz.sizeOf213
 v85:=Tryz.zeroValue213
 t127:=Tryz.underlying226
 a127:=Tryz.isAgg226
 z127:=Tryz.sizeOf226
 v127:=Tryz.zeroValue226
 t143:=Tryz.underlying227
 a143:=Tryz.isAgg227
 z143:=Tryz.sizeOf227
 v143:=Tryz.zeroValue227
 t145:=Tryz.underlying229
 a145:=Tryz.isAgg229
 z145:=Tryz.sizeOf229
 v145:=Tryz.zeroValue229
 t167:=Tryz.underlying212
 a167:=Tryz.isAgg212
 z167:=Tryz.sizeOf212
 v167:=Tryz.zeroValue212
 t168:=Tryz.underlying215
 a168:=Tryz.isAgg215
 z168:=Tryz.sizeOf215
 v168:=Tryz.zeroValue215
 t171:=Tryz.underlying231
 a171:=Tryz.isAgg231
 z171:=Tryz.sizeOf231
 v171:=Tryz.zeroValue231
 t173:=Tryz.underlying233
 a173:=Tryz.isAgg233
 z173:=Tryz.sizeOf233
 v173:=Tryz.zeroValue233
 t175:=Tryz.underlying218
 a175:=Tryz.isAgg218
 z175:=Tryz.sizeOf218
 v175:=Tryz.zeroValue218
 t210:=Tryz.underlying222
 a210:=Tryz.isAgg222
 z210:=Tryz.sizeOf222
 v210:=Tryz.zeroValue222
 t212:=Tryz.underlying236
 a212:=Tryz.isAgg236
 z212:=Tryz.sizeOf236
 v212:=Tryz.zeroValue236
 t213:=Tryz.underlying237
 a213:=Tryz.isAgg237
 z213:=Tryz.sizeOf237
 t232:=Tryz.underlying238
 a232:=Tryz.isAgg238
 z232:=Tryz.sizeOf238
 v232:=Tryz.zeroValue238
 t233:=Tryz.underlying239
 a233:=Tryz.isAgg239
 z233:=Tryz.sizeOf239
 v233:=Tryz.zeroValue239
 g15:=by kernel_rfl
 g16:=by kernel_rfl
 g17:=by kernel_rfl
 g18:=by kernel_rfl
 g19:=by kernel_rfl
 t80:=Tryz.underlying240
 a80:=Tryz.isAgg240
 z80:=Tryz.sizeOf240
 v80:=Tryz.zeroValue240
 i0:=by kernel_rfl
 i2:=by kernel_rfl
 i3:=by kernel_rfl
 i4:=by kernel_rfl
 i5:=by kernel_rfl
 i9:=by kernel_rfl
 i20:=by kernel_rfl
 i21:=by kernel_rfl
 i37:=by kernel_rfl
 i46:=by kernel_rfl
 i51:=by kernel_rfl
 i53:=by kernel_rfl
 i75:=by kernel_rfl
 i76:=by kernel_rfl
 i80:=by kernel_rfl
 i85:=by kernel_rfl
 i127:=by kernel_rfl
 i143:=by kernel_rfl
 i145:=by kernel_rfl
 i167:=by kernel_rfl
 i168:=by kernel_rfl
 i171:=by kernel_rfl
 i173:=by kernel_rfl
 i175:=by kernel_rfl
 i210:=by kernel_rfl
 i212:=by kernel_rfl
 i232:=by kernel_rfl
 i233:=by kernel_rfl
 m15:=by kernel_rfl
 m16:=by kernel_rfl
 m17:=by kernel_rfl
 m18:=by kernel_rfl
 m19:=by kernel_rfl
 c0:=by kernel_rfl
 c2:=by kernel_rfl
 c3:=by kernel_rfl
 c4:=by kernel_rfl
 c5:=by kernel_rfl
 c9:=by kernel_rfl
 c20:=by kernel_rfl
 c21:=by kernel_rfl
 c37:=by kernel_rfl
 c46:=by kernel_rfl
 c51:=by kernel_rfl
 c53:=by kernel_rfl
 c75:=by kernel_rfl
 c76:=by kernel_rfl
 c80:=by kernel_rfl
 c85:=by kernel_rfl
 c127:=by kernel_rfl
 c143:=by kernel_rfl
 c145:=by kernel_rfl
 c167:=by kernel_rfl
 c168:=by kernel_rfl
 c171:=by kernel_rfl
 c173:=by kernel_rfl
 c175:=by kernel_rfl
 c210:=by kernel_rfl
 c212:=by kernel_rfl
 c213:=by kernel_rfl
 c232:=by kernel_rfl
 c233:=by kernel_rfl }
open Go.RowKit in
theorem Tryz.strconv_Atoi_ok (s:ByteArray)(hmax:s.size≤9223372036854775806)(v:Int)(h:Lib.atoiAll s.data.toList=.ok v)(w:World) :
  Calls Tryz.prog 178 #[.string s] w fun e w'=>e=.returned (.tuple #[.int .i64 v,.nilIface])∧(w'=w∨∃t,w'=Lib.bytesWorld w 5 t):=Any.strconv_Atoi_ok Tryz.laysC172 s hmax v h w
def Tryz.lays219_ren:Go.Shelf.Ren:=⟨fun|219=>166|217=>170|225=>171|224=>172|267=>173|266=>176|314=>177|n=>n,fun|9=>9|3=>3|4=>4|5=>5|46=>151|146=>205|51=>184|n=>n,fun|1=>0|n=>n⟩
theorem Tryz.lays219:Go.Proofs.Lays.n219 Tryz.prog Tryz.lays219_ren:={
 mixed:=by kernel_rfl
 f217:=Tryz.func170.trans (congrArg some (by kernel_rfl))
 f219:=Tryz.func166.trans (congrArg some (by kernel_rfl))
 f224:=Tryz.func172.trans (congrArg some (by kernel_rfl))
 f225:=Tryz.func171.trans (congrArg some (by kernel_rfl))
 f266:=Tryz.func176.trans (congrArg some (by kernel_rfl))
 f267:=Tryz.func173.trans (congrArg some (by kernel_rfl))
 f314:=Tryz.func177.trans (congrArg some (by kernel_rfl))
 t3:=Tryz.underlying3
 a3:=Tryz.isAgg3
 z3:=Tryz.sizeOf3
 v3:=Tryz.zeroValue3
 t4:=Tryz.underlying4
 a4:=Tryz.isAgg4
 z4:=Tryz.sizeOf4
 v4:=Tryz.zeroValue4
 t5:=Tryz.underlying5
 a5:=Tryz.isAgg5
 z5:=Tryz.sizeOf5
 v5:=Tryz.zeroValue5
 t9:=Tryz.underlying9
 a9:=Tryz.isAgg9
 z9:=Tryz.sizeOf9
 v9:=Tryz.zeroValue9
 t46:=Tryz.underlying151
 a46:=Tryz.isAgg151
 z46:=Tryz.sizeOf151
 v46:=Tryz.zeroValue151
 t51:=Tryz.underlying184
 a51:=Tryz.isAgg184
 z51:=Tryz.sizeOf184
 v51:=Tryz.zeroValue184
 t146:=Tryz.underlying205
 a146:=Tryz.isAgg205
 z146:=Tryz.sizeOf205
 v146:=Tryz.zeroValue205
 g1:=by kernel_rfl }
open Go.RowKit Go.Lib in
theorem Tryz.stringslite_Index_one (s:ByteArray)(c:UInt8)(w:World) :
  Calls Tryz.prog 166 #[.string s,.string ⟨#[c]⟩] w fun e w'=>e=.returned (.int .i64 (Lib.indexByte s.data.toList c))∧w'=w:=Any.stringslite_Index_one Tryz.lays219 s c w
def Tryz.lays315_ren:Go.Shelf.Ren:=⟨fun|315=>174|n=>n,fun|9=>9|40=>188|4=>4|3=>3|0=>0|21=>21|n=>n,fun|n=>n⟩
theorem Tryz.lays315:Go.Proofs.Lays.n315 Tryz.prog Tryz.lays315_ren:={
 mixed:=by kernel_rfl
 f315:=Tryz.func174.trans (congrArg some (by kernel_rfl))
 t0:=Tryz.underlying0
 a0:=Tryz.isAgg0
 z0:=Tryz.sizeOf0
 v0:=Tryz.zeroValue0
 t3:=Tryz.underlying3
 a3:=Tryz.isAgg3
 z3:=Tryz.sizeOf3
 v3:=Tryz.zeroValue3
 t4:=Tryz.underlying4
 a4:=Tryz.isAgg4
 z4:=Tryz.sizeOf4
 v4:=Tryz.zeroValue4
 t9:=Tryz.underlying9
 a9:=Tryz.isAgg9
 z9:=Tryz.sizeOf9
 v9:=Tryz.zeroValue9
 t21:=Tryz.underlying21
 a21:=Tryz.isAgg21
 z21:=Tryz.sizeOf21
 v21:=Tryz.zeroValue21
 t40:=Tryz.underlying188
 a40:=Tryz.isAgg188
 z40:=Tryz.sizeOf188
 v40:=Tryz.zeroValue188 }
open Go.RowKit Go.Lib in
theorem Tryz.strings_indexFunc (g:Nat)(lb:Array Value)(eg:∀args w,(callFunc g args).run Tryz.prog w=.ok (.enter g args) w)(p:Nat→Bool)(truth:Bool)(s:ByteArray)(w:World)(hp:PredAt Tryz.prog g lb encR p w) :
  Calls Tryz.prog 174 #[.string s,.func (.func g) #[] lb,.bool truth] w fun e w'=>e=.returned (.int .i64 (Lib.idxFunc p truth s))∧Below w.heap.size w w':=Any.strings_indexFunc Tryz.lays315 g lb eg p truth s w hp
def Tryz.laysSort_ren:Go.Shelf.Ren:=⟨fun|6=>112|15=>132|14=>131|28=>153|29=>154|20=>145|21=>146|22=>147|23=>148|24=>149|25=>150|26=>151|27=>152|46=>160|47=>161|48=>162|49=>163|50=>164|57=>168|n=>n,fun|22=>115|24=>38|25=>126|3=>3|39=>151|0=>0|53=>184|55=>101|4=>4|46=>178|45=>177|50=>111|5=>5|9=>9|66=>189|70=>193|76=>198|77=>199|n=>n,fun|n=>n⟩
theorem Tryz.laysSort:Go.Proofs.SlLaysF0.n6 Tryz.prog Tryz.laysSort_ren:={
 mixed:=by kernel_rfl
 f6:=⟨Tryz.f112.name,by decide,Tryz.func112.trans (congrArg some (by kernel_rfl))⟩
 f14:=⟨Tryz.f131.name,by decide,Tryz.func131.trans (congrArg some (by kernel_rfl))⟩
 f15:=Tryz.func132.trans (congrArg some (by kernel_rfl))
 f20:=⟨Tryz.f145.name,by decide,Tryz.func145.trans (congrArg some (by kernel_rfl))⟩
 f21:=⟨Tryz.f146.name,by decide,Tryz.func146.trans (congrArg some (by kernel_rfl))⟩
 f22:=⟨Tryz.f147.name,by decide,Tryz.func147.trans (congrArg some (by kernel_rfl))⟩
 f23:=⟨Tryz.f148.name,by decide,Tryz.func148.trans (congrArg some (by kernel_rfl))⟩
 f24:=⟨Tryz.f149.name,by decide,Tryz.func149.trans (congrArg some (by kernel_rfl))⟩
 f25:=⟨Tryz.f150.name,by decide,Tryz.func150.trans (congrArg some (by kernel_rfl))⟩
 f26:=⟨Tryz.f151.name,by decide,Tryz.func151.trans (congrArg some (by kernel_rfl))⟩
 f27:=⟨Tryz.f152.name,by decide,Tryz.func152.trans (congrArg some (by kernel_rfl))⟩
 f28:=Tryz.func153.trans (congrArg some (by kernel_rfl))
 f29:=Tryz.func154.trans (congrArg some (by kernel_rfl))
 f46:=⟨Tryz.f160.name,by decide,Tryz.func160.trans (congrArg some (by kernel_rfl))⟩
 f47:=Tryz.func161.trans (congrArg some (by kernel_rfl))
 f48:=Tryz.func162.trans (congrArg some (by kernel_rfl))
 f49:=⟨Tryz.f163.name,by decide,Tryz.func163.trans (congrArg some (by kernel_rfl))⟩
 f50:=⟨Tryz.f164.name,by decide,Tryz.func164.trans (congrArg some (by kernel_rfl))⟩
 f57:=⟨Tryz.f168.name,by decide,Tryz.func168.trans (congrArg some (by kernel_rfl))⟩
 t0:=Tryz.underlying0
 a0:=Tryz.isAgg0
 z0:=Tryz.sizeOf0
 v0:=Tryz.zeroValue0
 t3:=Tryz.underlying3
 a3:=Tryz.isAgg3
 z3:=Tryz.sizeOf3
 v3:=Tryz.zeroValue3
 t4:=Tryz.underlying4
 a4:=Tryz.isAgg4
 z4:=Tryz.sizeOf4
 v4:=Tryz.zeroValue4
 t5:=Tryz.underlying5
 a5:=Tryz.isAgg5
 z5:=Tryz.sizeOf5
 v5:=Tryz.zeroValue5
 t9:=Tryz.underlying9
 a9:=Tryz.isAgg9
 z9:=Tryz.sizeOf9
 v9:=Tryz.zeroValue9
 t22:=Tryz.underlying115
 a22:=Tryz.isAgg115
 z22:=Tryz.sizeOf115
 v22:=Tryz.zeroValue115
 t25:=Tryz.underlying126
 a25:=Tryz.isAgg126
 z25:=Tryz.sizeOf126
 v25:=Tryz.zeroValue126
 t39:=Tryz.underlying151
 a39:=Tryz.isAgg151
 z39:=Tryz.sizeOf151
 v39:=Tryz.zeroValue151
 t45:=Tryz.underlying177
 a45:=Tryz.isAgg177
 z45:=Tryz.sizeOf177
 v45:=Tryz.zeroValue177
 t46:=Tryz.underlying178
 a46:=Tryz.isAgg178
 z46:=Tryz.sizeOf178
 v46:=Tryz.zeroValue178
 t50:=Tryz.underlying111
 a50:=Tryz.isAgg111
 z50:=Tryz.sizeOf111
 v50:=Tryz.zeroValue111
 t53:=Tryz.underlying184
 a53:=Tryz.isAgg184
 z53:=Tryz.sizeOf184
 v53:=Tryz.zeroValue184
 t55:=Tryz.underlying101
 a55:=Tryz.isAgg101
 z55:=Tryz.sizeOf101
 v55:=Tryz.zeroValue101
 t66:=Tryz.underlying189
 a66:=Tryz.isAgg189
 z66:=Tryz.sizeOf189
 v66:=Tryz.zeroValue189
 t70:=Tryz.underlying193
 a70:=Tryz.isAgg193
 z70:=Tryz.sizeOf193
 v70:=Tryz.zeroValue193
 t76:=Tryz.underlying198
 a76:=Tryz.isAgg198
 z76:=Tryz.sizeOf198
 v76:=Tryz.zeroValue198
 t77:=Tryz.underlying199
 a77:=Tryz.isAgg199
 z77:=Tryz.sizeOf199
 v77:=Tryz.zeroValue199 }
open Go.RowKit Go.Sort in
theorem Tryz.sort_none (p:Option Addr)(cap:Nat)(fv:Value)(w:World):Calls Tryz.prog 112 #[.slice p 0 cap,fv] w fun e w'=>e=.returned (.tuple #[])∧w'=w:=AnyF.slices_SortFunc_none Tryz.laysSort p cap fv w
open Go.RowKit Go.Sort in
theorem Tryz.sort_total {α:Type}[Inhabited α](aE:∀w,(isAgg 38).run Tryz.prog w=.ok true w)(zE:∀w,(Go.sizeOf 38).run Tryz.prog w=.ok 2 w)(enc:α→List Value)(hk:∀x,(enc x).length=2)(h1:∀x,∀v∈enc x,v.oneCell'=true)(cf:α→α→Int)(hO:SWO (ltOf cf))(hT:∀x y,(ltOf cf) x y=false→(ltOf cf) y x=false→x=y)(g:Nat)(eg:∀args w,(callFunc g args).run Tryz.prog w=.ok (.enter g args) w)(blk off cap:Nat)(d:Array α)(w:World)
  (hcmp:CmpLays Tryz.prog g #[] enc 2 cf blk off d.size w) (hH:HoldsK enc 2 w blk off d) (hblk:blk<w.heap.size) (hsz:d.size<4611686018427387904) :
  Calls Tryz.prog 112 #[.slice (some ⟨blk,off,none⟩) d.size cap,.func (.func g) #[] #[]] w fun e w'=>e=.returned (.tuple #[])∧∃n os,w'=sortWorldK enc 2 w blk off n (d.toList.mergeSort fun x y=>!(ltOf cf) y x).toArray os:=AnyQ.slices_SortFunc_total Tryz.laysSort 2 aE zE enc hk h1 cf hO g #[] blk off cap d w eg hcmp hH hblk hsz hT
end Go.Proofs

namespace Go.Proofs.YtdnpaifeoinjoaaGreatDoor
open Go.Sha Go.RowKit
set_option maxRecDepth 100000
variable {g:List (Nat×Obj)}{n:Nat}
def othR (r:Nat):Bool:=decide (r<48)||decide (57<r)
def q166:List V→Option VRes
 |[.str s,.str [c]]=>some (.ret (.int .i64 (Lib.indexByte s c)))
 |_=>none
def q174:List V→Option VRes
 |[.str s,.fn (.func 158) [] [],.bool true]=>some (.ret (.int .i64 (Lib.idxFunc othR true ⟨s.toArray⟩)))
 |_=>none
def HL0:EvF:=⟨[],fun f args st=>(bif Nat.beq f 166 then q166 args else bif Nat.beq f 174 then q174 args else none).map fun r=>(r,st)⟩
@[push_cast]theorem HL0_raw:HL0.raw=[]:=idq rfl
theorem k166 {s:List UInt8}{c:UInt8}{st:St}:run Tryz.prog HL0 166 [.str s,.str [c]] st=some (.ret (.int .i64 (Lib.indexByte s c)),st):=run_H rfl
theorem k174 {s:List UInt8}{st:St}:run Tryz.prog HL0 174 [.str s,.fn (.func 158) [] [],.bool true] st=some (.ret (.int .i64 (Lib.idxFunc othR true ⟨s.toArray⟩)),st):=run_H rfl
theorem idx_tw {c:UInt8}:∀{s:List UInt8},Lib.indexByte s c=if s.contains c=true then((s.takeWhile (· != c)).length:Int) else -1
 |[]=>rfl
 |b::s=>by
  have ih:=idx_tw (c:=c) (s:=s)
  rw[Lib.indexByte,ih]
  by_cases h:b=c
  ·subst h;simp
  ·have h2:(b == c)=false:=by simpa using h
   have h3:(b != c)=true:=by simpa using h
   rw[h2,List.takeWhile_cons,if_pos h3,List.contains_cons,show(c == b)=false by simpa using fun e=>h e.symm,Bool.false_or,List.length_cons]
   cases s.contains c
   ·rfl
   ·simp only[if_true]
    rw[if_neg (by simp),if_neg (by simp)];omega
theorem drop_tw {p:UInt8→Bool}{s:List UInt8}:s.drop ((s.takeWhile p).length+1)=(s.dropWhile p).drop 1:=by rw[←List.drop_drop,drop_w]
theorem tw_none {c:UInt8}:∀{s:List UInt8},s.contains c=false→s.takeWhile (· != c)=s∧s.dropWhile (· != c)=[]
 |[],_=>⟨rfl,rfl⟩
 |b::r,h=>by
  have hb:(b != c)=true:=by simp at h ⊢;exact fun e=>h.1 e.symm
  have hr:r.contains c=false:=by simp at h ⊢;exact h.2
  have:=tw_none hr
  simp only[List.takeWhile_cons,List.dropWhile_cons,hb,if_true]
  exact⟨by rw[this.1],this.2⟩
theorem k156 {s:List UInt8}{c:UInt8}(hl:s.length<140737488355328){st:St}:run Tryz.prog HL0 156 [.str s,.str [c]] st=some (.ret (.tup [.str (s.takeWhile (· != c)),.str ((s.dropWhile (· != c)).drop 1),.bool (s.contains c)]),st):=by
 have hi:=idx_tw (c:=c) (s:=s)
 have hle:=(List.takeWhile_sublist (· != c) (l:=s)).length_le
 rw[run_shut F156 rfl rfl rfl]
 cases h:s.contains c with
 |true =>
  have hlt:(s.takeWhile (· != c)).length<s.length:=by
   rcases Nat.lt_or_ge (s.takeWhile (· != c)).length s.length with h2|h2
   ·exact h2
   ·have e:s.takeWhile (· != c)=s:=(List.takeWhile_sublist _).eq_of_length (by omega)
    have:=List.all_takeWhile (p:=(· != c)) (l:=s)
    rw[e,List.all_eq_true]at this
    have:=this c (by simpa using h)
    simp at this
  rw[h,if_pos rfl]at hi
  have hd:=drop_tw (p:=(· != c)) (s:=s)
  have ht:=take_w (p:=(· != c)) (s:=s)
  generalize s.takeWhile (· != c)=a at *
  have hw:IntKind.i64.wrap ((a.length:Int)+1)=((a.length+1:Nat):Int):=iwrap (by omega) (by omega)
  push_cast[k166,hi,hw,ht]
  exact dn_eq (by omega) (by rw[List.take_length,show((a.length:Int)+1).toNat=a.length+1 by omega,hd])
 |false =>
  rw[h,if_neg (by simp)]at hi
  obtain⟨e1,e2⟩:=tw_none h
  rw[e1,e2]
  push_cast[k166,hi]
theorem k136 {s:List UInt8}{c:UInt8}(hl:s.length<140737488355328){st:St}:run Tryz.prog HL0 136 [.str s,.str [c]] st=some (.ret (.tup [.str (s.takeWhile (· != c)),.str ((s.dropWhile (· != c)).drop 1),.bool (s.contains c)]),st):=by
 have h:=fun(st:St)=>k156 (c:=c) (st:=st) hl
 rw[run_shut F136 rfl rfl rfl]
 push_cast[h]
theorem k140 {s t:List UInt8}(hl:s.length<140737488355328)(ht:t.length≤s.length+1000){st:St}:run Tryz.prog HL0 140 [.str s,.str t] st=some (.ret (.bool (t.isSuffixOf s)),st):=by
 have h:∀st,run Tryz.prog HL0 159 [.str s,.str t] st=some (.ret (.bool (t.isSuffixOf s)),st):=fun st=>by
  rw[run_shut F159 rfl rfl rfl]
  by_cases h:t.length≤s.length
  ·have h1:(t.length:Int)≤s.length:=by omega
   have hw:IntKind.i64.wrap ((s.length:Int)-t.length)=((s.length-t.length:Nat):Int):=by rw[iwrap (by omega) (by omega)];omega
   have e:t.isSuffixOf s=(s.drop (s.length-t.length) == t):=by
    rw[Bool.eq_iff_iff,List.isSuffixOf_iff_suffix,List.suffix_iff_eq_drop,beq_iff_eq]
    exact⟨fun h=>h.symm,fun h=>h.symm⟩
   have h2:((s.length-t.length:Nat):Int)≤s.length:=by omega
   generalize s.length-t.length=k at *
   push_cast[h1,hw,h2,List.take_length,e]
  ·have h1:¬(t.length:Int)≤s.length:=by omega
   have e:t.isSuffixOf s=false:=by
    rw[←Bool.not_eq_true,List.isSuffixOf_iff_suffix]
    exact fun h2=>h h2.length_le
   push_cast[h1,e]
 rw[run_shut F140 rfl rfl rfl]
 push_cast[h]
theorem oth_from (s:ByteArray):∀(f pos:Nat),s.size≤pos+f→(decide (Lib.idxFuncFrom othR true s f pos<0))=(s.data.toList.drop pos).all isD
 |0,pos,h=>by
  rw[List.drop_eq_nil_of_le (by rw[Array.length_toList];exact h)];rfl
 |f+1,pos,h=>by
  unfold Lib.idxFuncFrom
  by_cases hp:pos<s.size
  ·have hp':pos<s.data.toList.length:=by rw[Array.length_toList];exact hp
   have hb:s.data.toList[pos]'hp'=s[pos]'hp:=rfl
   rw[if_pos hp,List.drop_eq_getElem_cons hp',List.all_cons,hb]
   by_cases ha:(s[pos]'hp).toNat<128
   ·rw[decode_ascii s pos hp ha]
    have ih:=oth_from s f (pos+1) (by omega)
    cases hd:isD (s[pos]'hp) with
    |true =>
     have:¬othR (s[pos]'hp).toNat=true:=by
      simp only[isD,Bool.and_eq_true,decide_eq_true_eq]at hd
      simp only[othR,Bool.or_eq_true,decide_eq_true_eq];omega
     rw[if_neg this,ih];rfl
    |false =>
     have:othR (s[pos]'hp).toNat=true:=by
      simp only[isD,Bool.and_eq_false_iff,decide_eq_false_iff_not]at hd
      simp only[othR,Bool.or_eq_true,decide_eq_true_eq];omega
     rw[if_pos this]
     simp
   ·obtain⟨h1,h2⟩:=decode_high s pos hp (by omega)
    have:othR (Utf8.decode s pos).1=true:=by
     simp only[othR,Bool.or_eq_true,decide_eq_true_eq];omega
    have hd:isD (s[pos]'hp)=false:=by
     simp only[isD,Bool.and_eq_false_iff,decide_eq_false_iff_not];omega
    rw[if_pos this,hd]
    simp
  ·rw[if_neg hp,List.drop_eq_nil_of_le (by rw[Array.length_toList];exact Nat.le_of_not_lt hp)];rfl
theorem oth_idx (s:List UInt8):decide (Lib.idxFunc othR true ⟨s.toArray⟩<0)=s.all isD:=by
 have:=oth_from ⟨s.toArray⟩ s.length 0 (by simp[ByteArray.size])
 simpa [Lib.idxFunc,ByteArray.size] using this
theorem k157 {s:List UInt8}{st:St}:run Tryz.prog HL0 157 [.str s,.fn (.func 158) [] []] st=some (.ret (.bool (s.any (!isD ·))),st):=by
 have h:∀st,run Tryz.prog HL0 167 [.str s,.fn (.func 158) [] []] st=some (.ret (.int .i64 (Lib.idxFunc othR true ⟨s.toArray⟩)),st):=fun st=>by
  rw[run_shut F167 rfl rfl rfl]
  push_cast[k174]
 have e:decide (0≤Lib.idxFunc othR true ⟨s.toArray⟩)=s.any (!isD ·):=by
  have:=oth_idx s
  have h2:decide (0≤Lib.idxFunc othR true ⟨s.toArray⟩)=!(decide (Lib.idxFunc othR true ⟨s.toArray⟩<0)):=by
   rw[Bool.eq_iff_iff];simp
  rw[h2,this,List.not_all_eq_any_not]
 rw[run_shut F157 rfl rfl rfl]
 push_cast[h,e]
theorem callable166:Callable Tryz.prog 166:=⟨_,Tryz.func166,by kernel_rfl,by kernel_rfl⟩
theorem callable174:Callable Tryz.prog 174:=⟨_,Tryz.func174,by kernel_rfl,by kernel_rfl⟩
theorem callable178:Callable Tryz.prog 178:=⟨_,Tryz.func178,by kernel_rfl,by kernel_rfl⟩
theorem v166 (s:List UInt8)(c:UInt8)(st:St):VRet Tryz.prog 166 [.str s,.str [c]] st (.int .i64 (Lib.indexByte s c)) st:=by
 refine VRet_of_below callable166 (fun w A vs hw ha=>?_)
 obtain⟨hl,ha⟩:=ha
 match vs,hl with
 |[u,v],_ =>
 have e1:=(ha 0 u _ rfl rfl).str_inv
 have e2:=(ha 1 v _ rfl rfl).str_inv
 subst e1;subst e2
 refine(Tryz.stringslite_Index_one ⟨s.toArray⟩ c w).mono fun e w' ⟨he,hb⟩=>?_
 subst he;subst hb
 exact⟨_,rfl,fun w' A'=>.int _ _,Below.refl _ _⟩
theorem pred280 (w:World):PredAt Tryz.prog 158 #[] encR othR w:=fun W r _=>by
 unfold FnGives
 by_cases h1:r<48<;>by_cases h2:57<r
 all_goals
  have z1:(r:Int)<48↔r<48:=by omega
  have z2:(57:Int)<(r:Int)↔57<r:=by omega
  go_enter Tryz.func158,Tryz.ntmps158
  go_wp2
  all_goals first|(exfalso;omega)|(go_ret;exact⟨by simp[othR,h1,h2],0,rfl⟩)
theorem v174 (s:List UInt8)(st:St):VRet Tryz.prog 174 [.str s,.fn (.func 158) [] [],.bool true] st (.int .i64 (Lib.idxFunc othR true ⟨s.toArray⟩)) st:=by
 refine VRet_of_below callable174 (fun w A vs hw ha=>?_)
 obtain⟨hl,ha⟩:=ha
 match vs,hl with
 |[v0,v1,v2],_ =>
 have e0:=(ha 0 v0 _ rfl rfl).str_inv
 have r1:=ha 1 v1 _ rfl rfl
 have e2:=(ha 2 v2 _ rfl rfl).bool_inv
 have e1:v1=.func (.func 158) #[] #[]:=by
  cases r1 with
  |fn _ vs us _ _ e1 e2 _ _ =>
   have h1:vs=[]:=List.eq_nil_of_length_eq_zero e1
   have h2:us=[]:=List.eq_nil_of_length_eq_zero e2
   rw[h1,h2]
 subst e0;subst e1;subst e2
 refine(Tryz.strings_indexFunc 158 #[] (enters_of Tryz.func158 (by kernel_rfl) rfl) othR true ⟨s.toArray⟩ w (pred280 w)).mono fun e w' ⟨he,hb⟩=>?_
 subst he
 exact⟨_,rfl,fun w' A'=>.int _ _,hb⟩
theorem HL0_ok:ESound Tryz.prog HL0:=fun f args st r s h=>by
 obtain⟨z,hz,e⟩:=Option.map_eq_some_iff.1 h
 cases e
 by_cases h1:f=166
 ·subst h1
  rw[show Nat.beq 166 166=true from rfl,cond_true]at hz
  unfold q166 at hz
  split at hz<;>cases hz
  exact v166 _ _ _
 rw[show Nat.beq f 166=false from Bool.eq_false_iff.2 fun e=>h1 (Nat.eq_of_beq_eq_true e),cond_false]at hz
 by_cases h3:f=174
 ·subst h3
  rw[show Nat.beq 174 174=true from rfl,cond_true]at hz
  unfold q174 at hz
  split at hz<;>cases hz
  exact v174 _ _
 rw[show Nat.beq f 174=false from Bool.eq_false_iff.2 fun e=>h3 (Nat.eq_of_beq_eq_true e),cond_false]at hz
 cases hz
end Go.Proofs.YtdnpaifeoinjoaaGreatDoor

namespace Go.Proofs.YtdnpaifeoinjoaaGreatDoor
open Go.Sha Go.RowKit
set_option maxRecDepth 100000
theorem parse_digs:∀(s:List UInt8) (acc:Nat),s.all isD=true→acc<18446744073709551616→Lib.parseUint10 acc s=if s.foldl (fun n b=>10*n+(b.toNat-48)) acc<18446744073709551616 then .ok (s.foldl (fun n b=>10*n+(b.toNat-48)) acc) else .range
 |[],acc,_,h=>by simp[Lib.parseUint10,h]
 |b::s,acc,h,ha=>by
  have mono:∀(s:List UInt8) (n:Nat),n≤s.foldl (fun n b=>10*n+(b.toNat-48)) n:=by
   intro s
   induction s with
   |nil=>intro n;exact Nat.le_refl _
   |cons c s ih=>intro n;rw[List.foldl_cons];refine Nat.le_trans ?_ (ih _);omega
  simp only[List.all_cons,Bool.and_eq_true]at h
  obtain⟨hb,hs⟩:=h
  have hb':48≤b.toNat∧b.toNat≤57:=by
   simp only[isD,Bool.and_eq_true,decide_eq_true_eq]at hb;omega
  rw[Lib.parseUint10,if_pos hb',List.foldl_cons]
  have hm:=mono s (10*acc+(b.toNat-48))
  by_cases h1:1844674407370955162≤acc
  ·rw[if_pos h1,if_neg (by omega)]
  ·rw[if_neg h1]
   by_cases h2:18446744073709551616≤acc*10+(b.toNat-48)
   ·rw[if_pos h2,if_neg (by omega)]
   ·rw[if_neg h2,parse_digs s _ hs (by omega),Nat.mul_comm]
theorem atoi_digs {s:List UInt8}(h0:s≠[])(h:s.all isD=true):Lib.atoiAll s=if natOf s<9223372036854775808 then .ok (natOf s:Int) else .range:=by
 cases s with
 |nil=>exact absurd rfl h0
 |cons b s =>
  have hb:isD b=true:=by simp only[List.all_cons,Bool.and_eq_true]at h;exact h.1
  have hb':48≤b.toNat∧b.toNat≤57:=by
   simp only[isD,Bool.and_eq_true,decide_eq_true_eq]at hb;omega
  rw[Lib.atoiAll_plain b s (by omega) (by omega),Lib.parseMag,if_neg (by simp),parse_digs (b::s) 0 h (by omega)]
  show Lib.signless (if natOf (b::s)<18446744073709551616 then .ok (natOf (b::s)) else .range)=_
  by_cases h1:natOf (b::s)<18446744073709551616
  ·rw[if_pos h1]
   unfold Lib.signless
   by_cases h2:natOf (b::s)<9223372036854775808
   ·rw[if_pos h2];simp only;rw[if_neg (by omega)]
   ·rw[if_neg h2];simp only;rw[if_pos (by omega)]
  ·rw[if_neg h1,if_neg (by omega)];rfl
theorem natOf_lt:∀{s:List UInt8}{n:Nat},s.all isD=true→s.foldl (fun n b=>10*n+(b.toNat-48)) n<(n+1)*10 ^ s.length
 |[],n,_=>by simp
 |b::s,n,h=>by
  simp only[List.all_cons,Bool.and_eq_true]at h
  have hb:b.toNat≤57:=by have:=h.1;simp only[isD,Bool.and_eq_true,decide_eq_true_eq]at this;omega
  have ih:=natOf_lt (s:=s) (n:=10*n+(b.toNat-48)) h.2
  rw[List.foldl_cons,List.length_cons,Nat.pow_succ]
  refine Nat.lt_of_lt_of_le ih ?_
  rw[show(n+1)*(10 ^ s.length*10)=((n+1)*10)*10 ^ s.length by rw[Nat.mul_comm (10 ^ s.length),Nat.mul_assoc]]
  exact Nat.mul_le_mul_right _ (by omega)
theorem v178 (s:List UInt8)(st:St)(h0:s≠[])(h:s.all isD=true)(hl:s.length≤18):VRet Tryz.prog 178 [.str s] st (.tup [.int .i64 (natOf s),.nili]) st:=by
 have hn:natOf s<9223372036854775808:=by
  have h1:=natOf_lt (n:=0) h
  have h2:10 ^ s.length≤10 ^ 18:=Nat.pow_le_pow_right (by omega) hl
  unfold natOf;omega
 refine VRet_of_below callable178 (fun w A vs hw ha=>?_)
 obtain⟨u,rfl,h1⟩:=ha.one
 have e1:=h1.str_inv
 subst e1
 have hat:=atoi_digs h0 h
 rw[if_pos hn]at hat
 refine(Tryz.strconv_Atoi_ok ⟨s.toArray⟩ (by simp[ByteArray.size];omega) (natOf s:Int) (by simpa using hat) w).mono fun e w' ⟨he,hb⟩=>?_
 subst he
 refine⟨_,rfl,fun w' A'=>?_,?_⟩
 ·refine .tup [.int .i64 (natOf s),.nilIface] [.int .i64 (natOf s),.nili] rfl (fun i v c h1 h2=>?_)
  match i,h1,h2 with
  |0,h1,h2=>simp at h1 h2;subst h1 h2;exact .int _ _
  |1,h1,h2=>simp at h1 h2;subst h1 h2;exact .nili
 ·rcases hb with rfl|⟨t,rfl⟩
  ·exact Below.refl _ _
  ·exact Lib.bytesWorld_below w 5 t
theorem callable112:Callable Tryz.prog 112:=⟨_,Tryz.func112,by kernel_rfl,by kernel_rfl⟩
open Go.Sort in
def PB:Type:={ p:Prm // 0≤p.chan∧p.chan≤999∧0≤p.attr∧p.attr≤14 }
instance:Inhabited PB:=⟨⟨⟨0,0⟩,by decide⟩⟩
def encP (p:PB):List Value:=[.int .i64 p.1.chan,.int .i64 p.1.attr]
def cmpB (p q:PB):Int:=if p.1.chan≠q.1.chan then p.1.chan-q.1.chan else p.1.attr-q.1.attr
open Go.Sort Go.Proofs in
theorem lt_B {x y:PB}:ltOf cmpB x y=decide (x.1.chan<y.1.chan∨x.1.chan=y.1.chan∧x.1.attr<y.1.attr):=by
 unfold ltOf cmpB
 split
 ·rename_i h;rw[Bool.eq_iff_iff];simp only[decide_eq_true_eq];omega
 ·rename_i h;rw[Bool.eq_iff_iff];simp only[decide_eq_true_eq];omega
open Go.Sort Go.Proofs in
theorem swo_B:SWO (ltOf cmpB) where
 irrefl x:=by rw[lt_B];simp
 trans x y z h1 h2:=by rw[lt_B]at *;simp only[decide_eq_true_eq]at *;omega
 ntrans x y z h1 h2:=by rw[lt_B]at *;simp only[decide_eq_false_iff_not]at *;omega
open Go.Sort Go.Proofs in
theorem tot_B (x y:PB)(h1:ltOf cmpB x y=false)(h2:ltOf cmpB y x=false):x=y:=by
 rw[lt_B]at h1 h2
 simp only[decide_eq_false_iff_not]at h1 h2
 obtain⟨⟨a,b⟩,hx⟩:=x
 obtain⟨⟨c,d⟩,hy⟩:=y
 simp only at h1 h2
 have e1:a=c:=by omega
 have e2:b=d:=by omega
 subst e1;subst e2;rfl
theorem pb_list:∀{xs:List V},xs.all okPV=true→∃l:List PB,xs=l.map fun p=>p.1.v
 |[],_=>⟨[],rfl⟩
 |x::r,h=>by
  simp only[List.all_cons,Bool.and_eq_true]at h
  obtain⟨l,rfl⟩:=pb_list h.2
  have h1:=h.1
  unfold okPV at h1
  split at h1
  ·rename_i c a
   simp only[Bool.and_eq_true,decide_eq_true_eq]at h1
   exact⟨⟨⟨c,a⟩,by dsimp only;omega⟩::l,rfl⟩
  ·cases h1
open Go.Sort Go.Proofs in
theorem v81g {G:Nat}(eg:∀args w,(callFunc G args).run Tryz.prog w=.ok (.enter G args) w)(hc:∀(x y:PB) (W:World),Calls Tryz.prog G #[.agg (encP x).toArray,.agg (encP y).toArray] W fun e w'=>e=.returned (.int .i64 (cmpB x y))∧∃q os',w'=Go.Sort.grow (W.drewN q) os'){st:St}{id:Nat}{r:Arr}(hid:Sha.look st.arr id=some r)(hes:r.es=2)(hw:r.wr=true)(hbig:r.xs.length≤100000000)(hok:r.xs.all okPV=true) :
  VCalls Tryz.prog 112 [.osl id r.xs.length,.fn (.func G) [] []] st fun x s=>x=.ret (.tup [])∧s=⟨st.nx,st.mem,updA st.arr id { r with xs:=r.xs.mergeSort leV },st.x⟩:=by
 obtain⟨l,hl⟩:=pb_list hok
 have hlen:l.length=r.xs.length:=by rw[hl,List.length_map]
 have h:=VCalls_sort (P:=Tryz.prog) (F:=112) callable112 (k:=2) (by omega) (enc:=encP) (fun _=>rfl) (fun x v hv=>by
   simp[encP]at hv;rcases hv with rfl|rfl<;>rfl) (f:=fun p:PB=>p.1.v) (fun _=>rfl) (fun {w A x j v c} hc hr=>by
   match j,hc with
   |0,hc=>cases hc;cases hr;rfl
   |1,hc=>cases hc;cases hr;rfl
   |j+2,hc=>simp[Prm.v,V.cells]at hc) (fun {w A x j v c} hv hc=>by
   match j,hv,hc with
   |0,hv,hc=>cases hv;cases hc;exact .int _ _
   |1,hv,hc=>cases hv;cases hc;exact .int _ _
   |j+2,hv,hc=>simp[encP]at hv) (cf:=cmpB) (g:=G)
  (fun p cap fv w=>Tryz.sort_none p cap fv w)
  (fun blk off cap d w h1 h2 h3 h4=>Tryz.sort_total Tryz.isAgg38 Tryz.sizeOf38 encP (fun _=>rfl) (fun x v hv=>by
   simp[encP]at hv;rcases hv with rfl|rfl<;>rfl) cmpB swo_B tot_B G eg blk off cap d w h1 h2 h3 h4)
  hc (st:=st) (l:=l) hid hl hes hw (by omega)
 rw[hlen]at h
 have e:(l.mergeSort fun x y=>!ltOf cmpB y x).map (fun p:PB=>p.1.v)=r.xs.mergeSort leV:=by
  rw[hl]
  refine List.map_mergeSort (fun a _ b _=>?_)
  rw[lt_B]
  simp only[Prm.v,leV]
  rw[Bool.eq_iff_iff]
  simp
 rw[e]at h
 exact h
end Go.Proofs.YtdnpaifeoinjoaaGreatDoor

namespace Go.Proofs.YtdnpaifeoinjoaaGreatDoor
open Go.Sha Go.RowKit
set_option maxRecDepth 100000
theorem clos229 (x y:PB)(W:World):Calls Tryz.prog 82 #[.agg (encP x).toArray,.agg (encP y).toArray] W fun e w'=>e=.returned (.int .i64 (cmpB x y))∧∃q os',w'=Go.Sort.grow (W.drewN q) os':=by
 obtain⟨⟨a,b⟩,hx⟩:=x
 obtain⟨⟨c,d⟩,hy⟩:=y
 simp only at hx hy
 have w1:IntKind.i64.wrap (a-c)=a-c:=iwrap (by omega) (by omega)
 have w2:IntKind.i64.wrap (b-d)=b-d:=iwrap (by omega) (by omega)
 simp only[encP,cmpB]
 by_cases h:a=c
 ·rw[if_neg (by simp[h])]
  subst h
  go_enter Tryz.func82,Tryz.ntmps82
  go_wp2
  go_ret
  exact⟨rfl,0,_,by rw[Go.Sort.alloc_eq_grow,Go.Sort.alloc_eq_grow,Go.Sort.grow_grow];rfl⟩
 ·rw[if_pos h]
  go_enter Tryz.func82,Tryz.ntmps82
  go_wp2
  go_ret
  exact⟨rfl,0,_,by rw[Go.Sort.alloc_eq_grow,Go.Sort.alloc_eq_grow,Go.Sort.grow_grow];rfl⟩
theorem v81F {st:St}{id:Nat}{r:Arr}(hid:Sha.look st.arr id=some r)(hes:r.es=2)(hw:r.wr=true)(hbig:r.xs.length≤100000000)(hok:r.xs.all okPV=true) :
  VCalls Tryz.prog 112 [.osl id r.xs.length,.fn (.func 82) [] []] st fun x s=>x=.ret (.tup [])∧s=⟨st.nx,st.mem,updA st.arr id { r with xs:=r.xs.mergeSort leV },st.x⟩ :=
 v81g (enters_of Tryz.func82 (by kernel_rfl) rfl) clos229 hid hes hw hbig hok
theorem HSF_ok:ESound Tryz.prog HSF:=fun f args st r s h=>by
 simp only[HSF]at h
 by_cases h1:f=112
 ·subst h1
  rw[show Nat.beq 112 112=true from rfl,cond_true]at h
  unfold hSortF at h
  split at h
  ·rename_i id n
   unfold hSortA at h
   split at h
   ·rename_i r0 hr
    split at h
    ·rename_i hc
     cases h
     obtain⟨c1,c2,c3,c4,c5⟩:=hc
     subst c1
     exact v81F hr c3 c4 c2 c5
    ·cases h
   ·cases h
  ·cases h
 ·rw[show Nat.beq f 112=false from Bool.eq_false_iff.2 fun e=>h1 (Nat.eq_of_beq_eq_true e)]at h;cases h
end Go.Proofs.YtdnpaifeoinjoaaGreatDoor

namespace Go.Proofs.YtdnpaifeoinjoaaGreatDoor
open Go.Sha
set_option maxRecDepth 100000
theorem HH_ok:ESound Tryz.prog HH:=fun f args st r s h=>by
 simp only[HH]at h
 cases hm:memL f [45,66,112] with
 |true =>
  rw[hm,cond_true]at h
  simp only[hSl]at h
  by_cases h1:f=45
  ·subst h1
   exact cln_ok (e:=45) (es:=5) (b:=40) (by kernel_rfl) h
  rw[show Nat.beq f 45=false from Bool.eq_false_iff.2 fun e=>h1 (Nat.eq_of_beq_eq_true e),cond_false]at h
  by_cases h1:f=66
  ·subst h1
   exact ins_ok slM bearsI ovM rfl (by decide) h
  rw[show Nat.beq f 66=false from Bool.eq_false_iff.2 fun e=>h1 (Nat.eq_of_beq_eq_true e),cond_false]at h
  by_cases h1:f=112
  ·subst h1
   rw[show Nat.beq 112 112=true from rfl,cond_true]at h
   unfold hSort at h
   split at h
   ·rename_i id n
    unfold hSortA at h
    split at h
    ·rename_i r0 hr
     split at h
     ·rename_i hc
      cases h
      obtain⟨c1,c2,c3,c4,c5⟩:=hc
      subst c1
      exact v81F hr c3 c4 c2 c5
     ·cases h
    ·cases h
   ·cases h
  rw[show Nat.beq f 112=false from Bool.eq_false_iff.2 fun e=>h1 (Nat.eq_of_beq_eq_true e),cond_false]at h
  cases h
 |false =>
 rw[hm,cond_false]at h
 obtain⟨z,hz,e⟩:=Option.map_eq_some_iff.1 h
 cases e
 by_cases h1:f=136
 ·subst h1
  rw[show Nat.beq 136 136=true from rfl,cond_true]at hz
  unfold hCut at hz
  split at hz
  ·split at hz
   ·rename_i hl;cases hz;exact run_sound mixed HL0_ok _ _ _ _ _ (k136 hl)
   ·cases hz
  ·cases hz
 rw[show Nat.beq f 136=false from Bool.eq_false_iff.2 fun e=>h1 (Nat.eq_of_beq_eq_true e),cond_false]at hz
 by_cases h1:f=140
 ·subst h1
  rw[show Nat.beq 140 140=true from rfl,cond_true]at hz
  unfold hSuf at hz
  split at hz
  ·split at hz
   ·rename_i hl;cases hz;exact run_sound mixed HL0_ok _ _ _ _ _ (k140 hl.1 hl.2)
   ·cases hz
  ·cases hz
 rw[show Nat.beq f 140=false from Bool.eq_false_iff.2 fun e=>h1 (Nat.eq_of_beq_eq_true e),cond_false]at hz
 by_cases h1:f=157
 ·subst h1
  rw[show Nat.beq 157 157=true from rfl,cond_true]at hz
  unfold hAny at hz
  split at hz
  ·cases hz;exact run_sound mixed HL0_ok _ _ _ _ _ k157
  ·cases hz
 rw[show Nat.beq f 157=false from Bool.eq_false_iff.2 fun e=>h1 (Nat.eq_of_beq_eq_true e),cond_false]at hz
 by_cases h1:f=178
 ·subst h1
  rw[show Nat.beq 178 178=true from rfl,cond_true]at hz
  unfold hAtoi at hz
  split at hz
  ·split at hz
   ·rename_i hl;cases hz;exact v178 _ _ hl.1 hl.2.1 hl.2.2
   ·cases hz
  ·cases hz
 rw[show Nat.beq f 178=false from Bool.eq_false_iff.2 fun e=>h1 (Nat.eq_of_beq_eq_true e),cond_false]at hz
 by_cases h1:f=69
 ·subst h1
  rw[show Nat.beq 69 69=true from rfl,cond_true]at hz
  unfold hVal at hz
  split at hz
  ·rename_i x y cs a c d
   split at hz
   ·rename_i l hl
    split at hz
    ·rename_i hc
     simp only[Bool.and_eq_true,decide_eq_true_eq,List.all_eq_true]at hc
     obtain⟨⟨⟨⟨c1,c2⟩,c3⟩,c4⟩,c5⟩:=hc
     cases hz
     have ea:a=(a.toNat:Int):=by omega
     have:=v69 x y l a.toNat ⟨c,d⟩ st (by omega) c3 c4 (fun z hz=>(c5 z hz).1) (fun z hz=>by have:=(c5 z hz).2;omega)
     rw[←ea,←rdL_map rdCu_v hl]at this
     exact this
    ·cases hz
   ·cases hz
  ·cases hz
 rw[show Nat.beq f 69=false from Bool.eq_false_iff.2 fun e=>h1 (Nat.eq_of_beq_eq_true e),cond_false]at hz
 by_cases h1:f=68
 ·subst h1
  rw[show Nat.beq 68 68=true from rfl,cond_true]at hz
  unfold hFtp at hz
  split at hz
  ·rename_i x y cs
   split at hz
   ·rename_i l hl
    split at hz
    ·rename_i hc
     cases hz
     have:=v68 HSF_ok (x:=⟨x,y,l⟩) hc (st:=st)
     simp only[Lst.v]at this
     rw[←rdL_map rdCu_v hl]at this
     exact this
    ·cases hz
   ·cases hz
  ·cases hz
 rw[show Nat.beq f 68=false from Bool.eq_false_iff.2 fun e=>h1 (Nat.eq_of_beq_eq_true e),cond_false]at hz
 cases hz
end Go.Proofs.YtdnpaifeoinjoaaGreatDoor

namespace Go.Proofs.YtdnpaifeoinjoaaGreatDoor
open Go.ChangeShapes Go.WideShapes Go.ChangeAt Go.RowKit Go.Sha
theorem sound:ESound Tryz.prog HH:=HH_ok
theorem law3 {x:Lst}(h:x.Dk){st:St}:run Tryz.prog HH 3 [x.v] st=some (.ret (.bool true),st):=l3 h.ok
theorem sk1:(laidOutB Tryz.prog)=true:=by kernel_rfl
theorem sk2:(mapsRowed Tryz.prog)=true:=by kernel_rfl
theorem sk6:(Tryz.prog.stops == [])=true:=by kernel_rfl
theorem sk8:(Tryz.prog.stopKnobs == [])=true:=by kernel_rfl
theorem sk22:(Rows.topLooksRunRow.plainKeys == Tryz.prog.plainKeys)=true:=by kernel_rfl
theorem sk24:(Tryz.prog.stopsHeard)=true:=by kernel_rfl
theorem sk25:(Tryz.prog.mayEnter)=true:=by kernel_rfl
theorem sk26:(Rows.topLooksRunRow.lifted == Tryz.prog.liftsFinal)=true:=by kernel_rfl
theorem sk27:(Tryz.prog.make == some Rows.topLooksRunRow.make)=true:=by kernel_rfl
theorem sk15:(Rows.topLooksRunRow.mapsOut == Tryz.prog.mapsAmong Tryz.f3.resultTypes.toList)=true:=by kernel_rfl
theorem sown:ownKnob Tryz.prog.godebug=none:=by kernel_rfl
theorem smain:Tryz.prog.mainIs=some (Rows.topLooksRunCard.stood.harness.1,Rows.topLooksRunCard.stood.harness.2.toList):=by kernel_rfl
theorem slooks:Rows.topLooksRunCard.stood.looks=Tryz.prog.looks []:=by kernel_rfl
end Go.Proofs.YtdnpaifeoinjoaaGreatDoor

