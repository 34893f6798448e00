/- The program's data as Lean structures, and what they read as; the contracts that are taken from the library. The compiled code of functions of this seat, printed by a program, and that it is the trans .. -/
import Derived.Test.YteggomljbalaaaaGreatDoorRShbYB
import Derived.Test.YteggomljbalaaaaGreatDoorRShbXO
import Derived.Test.YteggomljbalaaaaGreatDoorProg
import Derived.KernelRfl
import Derived.Test.YteggomljbalaaaaGreatDoorRShbEK
import Derived.Test.YteggomljbalaaaaGreatDoorRShbAC
import Derived.Test.YteggomljbalaaaaGreatDoorRShbXR
set_option linter.unusedSimpArgs false
set_option linter.unusedVariables false
namespace Go.Proofs.YteggomljbalaaaaGreatDoor
open Go.Sha
structure Pt where
 x:Int
 y:Int
 deriving Inhabited,DecidableEq
@[reducible] def Pt.v (x:Pt):V:=.agg [.int .i64 x.x,.int .i64 x.y]
@[simp] theorem Pt.bd (x:Pt):V.bd 0 x.v=true:=by simp[Pt.v,V.bd,V.bdL,bdL_map']
@[push_cast]theorem Pt.eta (x:Pt):(⟨x.x,x.y⟩:Pt)=x:=idq rfl
@[reducible] def Pt.vs (c:List Pt):V:=.sl (c.map Pt.v)
theorem Pt.he (x:Pt):x.v.cells.length=2:=rfl
structure Slt where
 name:List UInt8
 fr:Int
 to_:Int
 deriving Inhabited,DecidableEq
@[reducible] def Slt.v (x:Slt):V:=.agg [.str x.name,.int .i64 x.fr,.int .i64 x.to_]
@[simp] theorem Slt.bd (x:Slt):V.bd 0 x.v=true:=by simp[Slt.v,V.bd,V.bdL,bdL_map']
@[push_cast]theorem Slt.eta (x:Slt):(⟨x.name,x.fr,x.to_⟩:Slt)=x:=idq rfl
@[reducible] def Slt.vs (c:List Slt):V:=.sl (c.map Slt.v)
theorem Slt.he (x:Slt):x.v.cells.length=3:=rfl
structure Ftr where
 attr:Int
 bits:Int
 coarse:Int
 fine:Int
 curve:Int
 home:Int
 low:Int
 high:Int
 snap:Bool
 wheel:List Slt
 deriving Inhabited,DecidableEq
@[reducible] def Ftr.v (x:Ftr):V:=.agg [.int .i64 x.attr,.int .i64 x.bits,.int .i64 x.coarse,.int .i64 x.fine,.int .i64 x.curve,.int .i64 x.home,.int .i64 x.low,.int .i64 x.high,.bool x.snap,.sl (x.wheel.map Slt.v)]
@[simp] theorem Ftr.bd (x:Ftr):V.bd 0 x.v=true:=by simp[Ftr.v,V.bd,V.bdL,bdL_map']
@[push_cast]theorem Ftr.eta (x:Ftr):(⟨x.attr,x.bits,x.coarse,x.fine,x.curve,x.home,x.low,x.high,x.snap,x.wheel⟩:Ftr)=x:=idq rfl
@[reducible] def Ftr.vs (c:List Ftr):V:=.sl (c.map Ftr.v)
theorem Ftr.he (x:Ftr):x.v.cells.length=10:=rfl
structure Prof where
 name:List UInt8
 foot:Int
 watts:Int
 feats:List Ftr
 deriving Inhabited,DecidableEq
@[reducible] def Prof.v (x:Prof):V:=.agg [.str x.name,.int .i64 x.foot,.int .i64 x.watts,.sl (x.feats.map Ftr.v)]
@[simp] theorem Prof.bd (x:Prof):V.bd 0 x.v=true:=by simp[Prof.v,V.bd,V.bdL,bdL_map']
@[push_cast]theorem Prof.eta (x:Prof):(⟨x.name,x.foot,x.watts,x.feats⟩:Prof)=x:=idq rfl
@[reducible] def Prof.vs (c:List Prof):V:=.sl (c.map Prof.v)
theorem Prof.he (x:Prof):x.v.cells.length=4:=rfl
structure Fixt where
 chan:Int
 part:Int
 prof:List UInt8
 univ:Int
 addr:Int
 phase:Int
 cable:List UInt8
 deriving Inhabited,DecidableEq
@[reducible] def Fixt.v (x:Fixt):V:=.agg [.int .i64 x.chan,.int .i64 x.part,.str x.prof,.int .i64 x.univ,.int .i64 x.addr,.int .i64 x.phase,.str x.cable]
@[simp] theorem Fixt.bd (x:Fixt):V.bd 0 x.v=true:=by simp[Fixt.v,V.bd,V.bdL,bdL_map']
@[push_cast]theorem Fixt.eta (x:Fixt):(⟨x.chan,x.part,x.prof,x.univ,x.addr,x.phase,x.cable⟩:Fixt)=x:=idq rfl
@[reducible] def Fixt.vs (c:List Fixt):V:=.sl (c.map Fixt.v)
theorem Fixt.he (x:Fixt):x.v.cells.length=7:=rfl
structure Prm where
 chan:Int
 attr:Int
 deriving Inhabited,DecidableEq
@[reducible] def Prm.v (x:Prm):V:=.agg [.int .i64 x.chan,.int .i64 x.attr]
@[simp] theorem Prm.bd (x:Prm):V.bd 0 x.v=true:=by simp[Prm.v,V.bd,V.bdL,bdL_map']
@[push_cast]theorem Prm.eta (x:Prm):(⟨x.chan,x.attr⟩:Prm)=x:=idq rfl
@[reducible] def Prm.vs (c:List Prm):V:=.sl (c.map Prm.v)
theorem Prm.he (x:Prm):x.v.cells.length=2:=rfl
structure Val where
 pal:Int
 lev:Int
 deriving Inhabited,DecidableEq
@[reducible] def Val.v (x:Val):V:=.agg [.int .i64 x.pal,.int .i64 x.lev]
@[simp] theorem Val.bd (x:Val):V.bd 0 x.v=true:=by simp[Val.v,V.bd,V.bdL,bdL_map']
@[push_cast]theorem Val.eta (x:Val):(⟨x.pal,x.lev⟩:Val)=x:=idq rfl
@[reducible] def Val.vs (c:List Val):V:=.sl (c.map Val.v)
theorem Val.he (x:Val):x.v.cells.length=2:=rfl
structure Grp where
 num:Int
 chans:List Int
 deriving Inhabited,DecidableEq
@[reducible] def Grp.v (x:Grp):V:=.agg [.int .i64 x.num,.sl (x.chans.map (V.int .i64))]
@[simp] theorem Grp.bd (x:Grp):V.bd 0 x.v=true:=by simp[Grp.v,V.bd,V.bdL,bdL_map']
@[push_cast]theorem Grp.eta (x:Grp):(⟨x.num,x.chans⟩:Grp)=x:=idq rfl
@[reducible] def Grp.vs (c:List Grp):V:=.sl (c.map Grp.v)
theorem Grp.he (x:Grp):x.v.cells.length=2:=rfl
structure Hue where
 chan:Int
 attr:Int
 lev:Int
 deriving Inhabited,DecidableEq
@[reducible] def Hue.v (x:Hue):V:=.agg [.int .i64 x.chan,.int .i64 x.attr,.int .i64 x.lev]
@[simp] theorem Hue.bd (x:Hue):V.bd 0 x.v=true:=by simp[Hue.v,V.bd,V.bdL,bdL_map']
@[push_cast]theorem Hue.eta (x:Hue):(⟨x.chan,x.attr,x.lev⟩:Hue)=x:=idq rfl
@[reducible] def Hue.vs (c:List Hue):V:=.sl (c.map Hue.v)
theorem Hue.he (x:Hue):x.v.cells.length=3:=rfl
structure Pal where
 num:Int
 hues:List Hue
 deriving Inhabited,DecidableEq
@[reducible] def Pal.v (x:Pal):V:=.agg [.int .i64 x.num,.sl (x.hues.map Hue.v)]
@[simp] theorem Pal.bd (x:Pal):V.bd 0 x.v=true:=by simp[Pal.v,V.bd,V.bdL,bdL_map']
@[push_cast]theorem Pal.eta (x:Pal):(⟨x.num,x.hues⟩:Pal)=x:=idq rfl
@[reducible] def Pal.vs (c:List Pal):V:=.sl (c.map Pal.v)
theorem Pal.he (x:Pal):x.v.cells.length=2:=rfl
structure Tim where
 up:Int
 down:Int
 posi:Int
 colour:Int
 beam:Int
 delay:Int
 deriving Inhabited,DecidableEq
@[reducible] def Tim.v (x:Tim):V:=.agg [.int .i64 x.up,.int .i64 x.down,.int .i64 x.posi,.int .i64 x.colour,.int .i64 x.beam,.int .i64 x.delay]
@[simp] theorem Tim.bd (x:Tim):V.bd 0 x.v=true:=by simp[Tim.v,V.bd,V.bdL,bdL_map']
@[push_cast]theorem Tim.eta (x:Tim):(⟨x.up,x.down,x.posi,x.colour,x.beam,x.delay⟩:Tim)=x:=idq rfl
@[reducible] def Tim.vs (c:List Tim):V:=.sl (c.map Tim.v)
theorem Tim.he (x:Tim):x.v.cells.length=6:=rfl
structure Mov where
 prm:Prm
 val:Val
 part:Int
 deriving Inhabited,DecidableEq
@[reducible] def Mov.v (x:Mov):V:=.agg [.int .i64 x.prm.chan,.int .i64 x.prm.attr,.int .i64 x.val.pal,.int .i64 x.val.lev,.int .i64 x.part]
@[simp] theorem Mov.bd (x:Mov):V.bd 0 x.v=true:=by simp[Mov.v,V.bd,V.bdL,bdL_map']
@[push_cast]theorem Mov.eta (x:Mov):(⟨x.prm,x.val,x.part⟩:Mov)=x:=idq rfl
@[reducible] def Mov.vs (c:List Mov):V:=.sl (c.map Mov.v)
theorem Mov.he (x:Mov):x.v.cells.length=5:=rfl
structure Cu where
 num:List UInt8
 label:List UInt8
 moves:List Mov
 parts:List Tim
 block:Bool
 mark:Bool
 follow:Int
 link:List UInt8
 loops:Int
 deriving Inhabited,DecidableEq
@[reducible] def Cu.v (x:Cu):V:=.agg [.str x.num,.str x.label,.sl (x.moves.map Mov.v),.sl (x.parts.map Tim.v),.bool x.block,.bool x.mark,.int .i64 x.follow,.str x.link,.int .i64 x.loops]
@[simp] theorem Cu.bd (x:Cu):V.bd 0 x.v=true:=by simp[Cu.v,V.bd,V.bdL,bdL_map']
@[push_cast]theorem Cu.eta (x:Cu):(⟨x.num,x.label,x.moves,x.parts,x.block,x.mark,x.follow,x.link,x.loops⟩:Cu)=x:=idq rfl
@[reducible] def Cu.vs (c:List Cu):V:=.sl (c.map Cu.v)
theorem Cu.he (x:Cu):x.v.cells.length=9:=rfl
structure Lst where
 num:Int
 prio:Int
 cues:List Cu
 deriving Inhabited,DecidableEq
@[reducible] def Lst.v (x:Lst):V:=.agg [.int .i64 x.num,.int .i64 x.prio,.sl (x.cues.map Cu.v)]
@[simp] theorem Lst.bd (x:Lst):V.bd 0 x.v=true:=by simp[Lst.v,V.bd,V.bdL,bdL_map']
@[push_cast]theorem Lst.eta (x:Lst):(⟨x.num,x.prio,x.cues⟩:Lst)=x:=idq rfl
@[reducible] def Lst.vs (c:List Lst):V:=.sl (c.map Lst.v)
theorem Lst.he (x:Lst):x.v.cells.length=3:=rfl
structure Gan where
 prm:Prm
 lev:Int
 deriving Inhabited,DecidableEq
@[reducible] def Gan.v (x:Gan):V:=.agg [.int .i64 x.prm.chan,.int .i64 x.prm.attr,.int .i64 x.lev]
@[simp] theorem Gan.bd (x:Gan):V.bd 0 x.v=true:=by simp[Gan.v,V.bd,V.bdL,bdL_map']
@[push_cast]theorem Gan.eta (x:Gan):(⟨x.prm,x.lev⟩:Gan)=x:=idq rfl
@[reducible] def Gan.vs (c:List Gan):V:=.sl (c.map Gan.v)
theorem Gan.he (x:Gan):x.v.cells.length=3:=rfl
structure Sb where
 num:Int
 prio:Int
 inh:Bool
 gains:List Gan
 deriving Inhabited,DecidableEq
@[reducible] def Sb.v (x:Sb):V:=.agg [.int .i64 x.num,.int .i64 x.prio,.bool x.inh,.sl (x.gains.map Gan.v)]
@[simp] theorem Sb.bd (x:Sb):V.bd 0 x.v=true:=by simp[Sb.v,V.bd,V.bdL,bdL_map']
@[push_cast]theorem Sb.eta (x:Sb):(⟨x.num,x.prio,x.inh,x.gains⟩:Sb)=x:=idq rfl
@[reducible] def Sb.vs (c:List Sb):V:=.sl (c.map Sb.v)
theorem Sb.he (x:Sb):x.v.cells.length=4:=rfl
structure Eff where
 num:Int
 attr:Int
 wave:List Pt
 period:Int
 spread:Int
 size:Int
 deriving Inhabited,DecidableEq
@[reducible] def Eff.v (x:Eff):V:=.agg [.int .i64 x.num,.int .i64 x.attr,.sl (x.wave.map Pt.v),.int .i64 x.period,.int .i64 x.spread,.int .i64 x.size]
@[simp] theorem Eff.bd (x:Eff):V.bd 0 x.v=true:=by simp[Eff.v,V.bd,V.bdL,bdL_map']
@[push_cast]theorem Eff.eta (x:Eff):(⟨x.num,x.attr,x.wave,x.period,x.spread,x.size⟩:Eff)=x:=idq rfl
@[reducible] def Eff.vs (c:List Eff):V:=.sl (c.map Eff.v)
theorem Eff.he (x:Eff):x.v.cells.length=6:=rfl
structure Sho where
 title:List UInt8
 curves:List (List Pt)
 profs:List Prof
 fixts:List Fixt
 grps:List Grp
 pals:List Pal
 lsts:List Lst
 subs:List Sb
 effs:List Eff
 deriving Inhabited,DecidableEq
@[reducible] def Sho.v (x:Sho):V:=.agg [.str x.title,.sl (x.curves.map Pt.vs),.sl (x.profs.map Prof.v),.sl (x.fixts.map Fixt.v),.sl (x.grps.map Grp.v),.sl (x.pals.map Pal.v),.sl (x.lsts.map Lst.v),.sl (x.subs.map Sb.v),.sl (x.effs.map Eff.v)]
@[simp] theorem Sho.bd (x:Sho):V.bd 0 x.v=true:=by simp[Sho.v,V.bd,V.bdL,bdL_map']
@[push_cast]theorem Sho.eta (x:Sho):(⟨x.title,x.curves,x.profs,x.fixts,x.grps,x.pals,x.lsts,x.subs,x.effs⟩:Sho)=x:=idq rfl
@[reducible] def Sho.vs (c:List Sho):V:=.sl (c.map Sho.v)
theorem Sho.he (x:Sho):x.v.cells.length=9:=rfl
structure Edi where
 kind:Int
 num:Int
 chan:Int
 prio:Int
 key:List UInt8
 cue:Cu
 pal:Pal
 grp:Grp
 sub:Sb
 eff:Eff
 fix:Fixt
 deriving Inhabited,DecidableEq
@[reducible] def Edi.v (x:Edi):V:=.agg [.int .i64 x.kind,.int .i64 x.num,.int .i64 x.chan,.int .i64 x.prio,.str x.key,.str x.cue.num,.str x.cue.label,.sl (x.cue.moves.map Mov.v),.sl (x.cue.parts.map Tim.v),.bool x.cue.block,.bool x.cue.mark,.int .i64 x.cue.follow,.str x.cue.link,.int .i64 x.cue.loops,.int .i64 x.pal.num,.sl (x.pal.hues.map Hue.v),.int .i64 x.grp.num,.sl (x.grp.chans.map (V.int .i64)),.int .i64 x.sub.num,.int .i64 x.sub.prio,.bool x.sub.inh,.sl (x.sub.gains.map Gan.v),.int .i64 x.eff.num,.int .i64 x.eff.attr,.sl (x.eff.wave.map Pt.v),.int .i64 x.eff.period,.int .i64 x.eff.spread,.int .i64 x.eff.size,.int .i64 x.fix.chan,.int .i64 x.fix.part,.str x.fix.prof,.int .i64 x.fix.univ,.int .i64 x.fix.addr,.int .i64 x.fix.phase,.str x.fix.cable]
@[simp] theorem Edi.bd (x:Edi):V.bd 0 x.v=true:=by simp[Edi.v,V.bd,V.bdL,bdL_map']
@[push_cast]theorem Edi.eta (x:Edi):(⟨x.kind,x.num,x.chan,x.prio,x.key,x.cue,x.pal,x.grp,x.sub,x.eff,x.fix⟩:Edi)=x:=idq rfl
@[reducible] def Edi.vs (c:List Edi):V:=.sl (c.map Edi.v)
theorem Edi.he (x:Edi):x.v.cells.length=35:=rfl
structure His where
 past:List Sho
 shw:Sho
 fut:List Sho
 deriving Inhabited,DecidableEq
@[reducible] def His.v (x:His):V:=.agg [.sl (x.past.map Sho.v),.str x.shw.title,.sl (x.shw.curves.map Pt.vs),.sl (x.shw.profs.map Prof.v),.sl (x.shw.fixts.map Fixt.v),.sl (x.shw.grps.map Grp.v),.sl (x.shw.pals.map Pal.v),.sl (x.shw.lsts.map Lst.v),.sl (x.shw.subs.map Sb.v),.sl (x.shw.effs.map Eff.v),.sl (x.fut.map Sho.v)]
@[simp] theorem His.bd (x:His):V.bd 0 x.v=true:=by simp[His.v,V.bd,V.bdL,bdL_map']
@[push_cast]theorem His.eta (x:His):(⟨x.past,x.shw,x.fut⟩:His)=x:=idq rfl
@[reducible] def His.vs (c:List His):V:=.sl (c.map His.v)
theorem His.he (x:His):x.v.cells.length=11:=rfl
structure Ent where
 prm:Prm
 val:Val
 deriving Inhabited,DecidableEq
@[reducible] def Ent.v (x:Ent):V:=.agg [.int .i64 x.prm.chan,.int .i64 x.prm.attr,.int .i64 x.val.pal,.int .i64 x.val.lev]
@[simp] theorem Ent.bd (x:Ent):V.bd 0 x.v=true:=by simp[Ent.v,V.bd,V.bdL,bdL_map']
@[push_cast]theorem Ent.eta (x:Ent):(⟨x.prm,x.val⟩:Ent)=x:=idq rfl
@[reducible] def Ent.vs (c:List Ent):V:=.sl (c.map Ent.v)
theorem Ent.he (x:Ent):x.v.cells.length=4:=rfl
structure Act where
 when:Int
 kind:Int
 targ:Int
 cue:List UInt8
 lev:Int
 dur:Int
 ents:List Ent
 prms:List Prm
 chans:List Int
 edt:Edi
 deriving Inhabited,DecidableEq
@[reducible] def Act.v (x:Act):V:=.agg [.int .i64 x.when,.int .i64 x.kind,.int .i64 x.targ,.str x.cue,.int .i64 x.lev,.int .i64 x.dur,.sl (x.ents.map Ent.v),.sl (x.prms.map Prm.v),.sl (x.chans.map (V.int .i64)),.int .i64 x.edt.kind,.int .i64 x.edt.num,.int .i64 x.edt.chan,.int .i64 x.edt.prio,.str x.edt.key,.str x.edt.cue.num,.str x.edt.cue.label,.sl (x.edt.cue.moves.map Mov.v),.sl (x.edt.cue.parts.map Tim.v),.bool x.edt.cue.block,.bool x.edt.cue.mark,.int .i64 x.edt.cue.follow,.str x.edt.cue.link,.int .i64 x.edt.cue.loops,.int .i64 x.edt.pal.num,.sl (x.edt.pal.hues.map Hue.v),.int .i64 x.edt.grp.num,.sl (x.edt.grp.chans.map (V.int .i64)),.int .i64 x.edt.sub.num,.int .i64 x.edt.sub.prio,.bool x.edt.sub.inh,.sl (x.edt.sub.gains.map Gan.v),.int .i64 x.edt.eff.num,.int .i64 x.edt.eff.attr,.sl (x.edt.eff.wave.map Pt.v),.int .i64 x.edt.eff.period,.int .i64 x.edt.eff.spread,.int .i64 x.edt.eff.size,.int .i64 x.edt.fix.chan,.int .i64 x.edt.fix.part,.str x.edt.fix.prof,.int .i64 x.edt.fix.univ,.int .i64 x.edt.fix.addr,.int .i64 x.edt.fix.phase,.str x.edt.fix.cable]
@[simp] theorem Act.bd (x:Act):V.bd 0 x.v=true:=by simp[Act.v,V.bd,V.bdL,bdL_map']
@[push_cast]theorem Act.eta (x:Act):(⟨x.when,x.kind,x.targ,x.cue,x.lev,x.dur,x.ents,x.prms,x.chans,x.edt⟩:Act)=x:=idq rfl
@[reducible] def Act.vs (c:List Act):V:=.sl (c.map Act.v)
theorem Act.he (x:Act):x.v.cells.length=44:=rfl
def isD (b:UInt8):Bool:=decide (48≤b.toNat)&&decide (b.toNat≤57)
def natOf (s:List UInt8):Nat:=s.foldl (fun n b=>10*n+(b.toNat-48)) 0
def trimB (t s:List UInt8):List UInt8:=((s.dropWhile t.contains).reverse.dropWhile t.contains).reverse
def hCut:List V→Option VRes
 |[.str s,.str [b]]=>if s.length<140737488355328 then some (.ret (.tup [.str (s.takeWhile (· != b)),.str ((s.dropWhile (· != b)).drop 1),.bool (s.contains b)])) else none
 |_=>none
def hSuf:List V→Option VRes
 |[.str s,.str t]=>if s.length<140737488355328∧t.length≤s.length+1000 then some (.ret (.bool (t.isSuffixOf s))) else none
 |_=>none
def hAny:List V→Option VRes
 |[.str s,.fn (.func 162) [] []]=>some (.ret (.bool (s.any (!isD ·))))
 |_=>none
def hAtoi:List V→Option VRes
 |[.str s]=>if s≠[]∧s.all isD=true∧s.length≤18 then some (.ret (.tup [.int .i64 (natOf s),.nili])) else none
 |_=>none
abbrev nmW:List UInt8:=[97,98,99,100,101,102,103,104,105,106,107,108,109,110,111,112,113,114,115,116,117,118,119,120,121,122,48,49,50,51,52,53,54,55,56,57,95]
def hTrim:List V→Option VRes
 |[.str s,.str t]=>if t=nmW∧s.length≤24 then some (.ret (.str (trimB t s))) else none
 |_=>none
def hSl (f:FuncId)(args:List V)(st:St):Rt:=bif Nat.beq f 23 then hCln 46 44 544 args st else bif Nat.beq f 22 then hIns 46 44 544 args st else bif Nat.beq f 52 then hCln 71 9 208 args st else none
def HH:EvF:=⟨[22],fun f args st=>bif memL f [22,23,52] then hSl f args st else(bif Nat.beq f 106 then hCut args else bif Nat.beq f 110 then hSuf args else bif Nat.beq f 161 then hAny args else bif Nat.beq f 380 then hAtoi args else bif Nat.beq f 289 then hTrim args else none).map fun r=>(r,st)⟩
@[push_cast]theorem HH_raw:HH.raw=[22]:=idq rfl
end Go.Proofs.YteggomljbalaaaaGreatDoor

namespace Go.Proofs.YteggomljbalaaaaGreatDoor
open Go.Sha
set_option maxRecDepth 10000
theorem F114:compF Tryz.prog 114=some ⟨9,[.tmp 4],(.g [.k 4 false] (.g [.m 5 0,.m 6 1,.g' 7 172 5 6,.v 8 .geq 7 0,.m 4 8] (.ret [4])))⟩:=by kernel_rfl
def B172_0:Cd:=(.g [.b 9 .lss 8 7] (.join [0,1,7,8] (.i 9 .skip (.exit [] 0)) (.join [0,1,7,8] (.block 1 (.g [.m 10 8,.m 5 10] (.g [.m 11 1,.m 12 0,.m 13 5,.r 14 1 12 13,.l 15 14,.b 16 .eql 11 15] (.i 16 (.g [.m 17 5,.m 4 17] (.ret [4])) .skip)))) (.reg [.v 18 .add 8 1,.m 8 18]))))
theorem F172:compF Tryz.prog 172=some ⟨19,[.tmp 4],(.g [.c 4 0] (.join [] (.g [.m 6 0,.u 7 6,.c 8 0] (.block 0 (.loop [0,1,7,8] [] B172_0))) (.g [.c 4 (-1)] (.ret [4]))))⟩:=by kernel_rfl
end Go.Proofs.YteggomljbalaaaaGreatDoor

namespace Go.Proofs.YteggomljbalaaaaGreatDoor
open Go.Sha
def ix {α:Type}(p:α→Bool):List α→Nat→Int
 |[],_=>-1
 |x::r,j=>if p x=true then j else ix p r (j+1)
theorem ix_ge {α:Type}{p:α→Bool}:∀{l:List α}{j:Nat},(0≤ix p l j)=(l.any p=true)
 |[],j=>by simp[ix]
 |x::r,j=>by
  unfold ix
  by_cases h:p x=true
  ·simp[h]
  ·simp[h,ix_ge (l:=r)]
variable {g:List (Nat×Obj)}
def IxB (es : Nat)(n : Option Nat) : Cd := (.g [.s 9 (.bin .lss (.t 8) (.t 7))]
 (.join [0, 1, 7, 8] (.i 9 .skip (.exit [] 0))
 (.join [0, 1, 7, 8] (.block 1 (.g [.s 10 (.m 8), .s 5 (.m 10)]
 (.g [.s 11 (.m 1), .s 12 (.m 0), .s 13 (.m 5), .s 14 (.iadr es (.t 12) (.t 13)), .s 15 (.load n (.t 14)), .s 16 (.call (.t 11) [(.t 15)])]
 (.i 16 (.g [.s 17 (.m 5), .s 4 (.m 17)] (.ret [4])) .skip))))
 (.reg [.s 18 (.bin .add (.t 8) (.i 1)), .s 8 (.m 18)]))))
def IxC (es : Nat)(n : Option Nat) : Cd := (.g [.s 4 (.mv (.i 0))]
 (.join [] (.g [.s 6 (.m 0), .s 7 (.len (.t 6)), .s 8 (.mv (.i 0))]
 (.block 0 (.loop [0, 1, 7, 8] [] (IxB es n))))
 (.g [.s 4 (.mv (.i (-1)))] (.ret [4]))))
theorem IxL {α:Type}[Inhabited α]{f:α→V}{es:Nat}{n:Option Nat}{h:FuncId}{caps:List V}{p:α→Bool}{l:List α}{st:St}(he:∀x,(f x).cells.length=es)(hr:∀x,rd n (f x).cells 0=some (f x))
  (hl:l.length<140737488355328) (hp:∀x∈l,run Tryz.prog HH h (f x::caps) st=some (.ret (.bool (p x)),st)) (hs:∀x,(snapA st (f x)).getD (f x)=f x) (hc:caps.map (fun v=>(snapA st v).getD v)=caps) (hk0:decide (22=h)=false) :
  ∀r j,l.drop j=r→runL Tryz.prog HH [0,1,7,8] st.nx (IxB es n) [(0,.sl (l.map f)),(1,.fn (.func h) [] caps),(7,.int .i64 l.length),(8,.int .i64 j)] st=lpI st [] 4 (ix p r j):=by
 refine drop_ind (fun j h=>?_) (fun x r j h hx hd ih=>?_)
 all_goals rw[runL_of (IxB.eq_1 _ _)]
 ·have h1:¬(j:Int)<l.length:=by omega
  push_cast[h1,ix]
 ·have h1:(j:Int)<l.length:=by omega
  have hw:=iw1 (j:=j) (by omega)
  have hm:=hp x (by rw[←hx default];simp[List.getD_eq_getElem?_getD,List.getElem?_eq_getElem h])
  push_cast[h1,hw,hx,he,hr,loadV,hs,hc,hm,hk0]at ih ⊢
  simp only[ih,ix,lpI_ite,lpI_n]
theorem IxF {α:Type}[Inhabited α]{f:α→V}{es:Nat}{n:Option Nat}{h k:FuncId}{caps:List V}{p:α→Bool}{l:List α}{st:St}(he:∀x,(f x).cells.length=es)(hr:∀x,rd n (f x).cells 0=some (f x))
  (hF:compF Tryz.prog k=some ⟨19,[.tmp 4],IxC es n⟩) (hH:HH k [.sl (l.map f),.fn (.func h) [] caps] st=none) (hb:V.bdL 0 [.sl (l.map f),.fn (.func h) [] caps]=true)
  (hl:l.length<140737488355328) (hp:∀x∈l,∀st,run Tryz.prog HH h (f x::caps) st=some (.ret (.bool (p x)),st)) (hs:∀st x,(snapA st (f x)).getD (f x)=f x) (hc:∀st,caps.map (fun v=>(snapA st v).getD v)=caps) (hk0:decide (22=h)=false:=by rfl) :
  run Tryz.prog HH k [.sl (l.map f),.fn (.func h) [] caps] st=some (.ret (.int .i64 (ix p l 0)),st):=by
 rw[run_shut hF hH rfl hb]
 unfold IxC
 have hL:=fun g n=>IxL (st:=stN g n) he hr hl (fun x hx=>hp x hx _) (hs _) (hc _) hk0 l 0 rfl
 push_cast at hL
 push_cast[hL,lpI]
end Go.Proofs.YteggomljbalaaaaGreatDoor

namespace Go.Proofs.YteggomljbalaaaaGreatDoor
open Go.Sha
variable {g:List (Nat×Obj)}{n:Nat}
theorem L172 {l:List Int}{v:Int}(hl:l.length<140737488355328):∀r j,l.drop j=r→runL Tryz.prog HH [0,1,7,8] n B172_0 [(0,.sl (l.map (.int .i64))),(1,.int .i64 v),(7,.int .i64 l.length),(8,.int .i64 j)] (stN g n)=lpI (stN g n) [] 4 (ix (v == ·) r j):=by
 refine drop_ind (fun j h=>?_) (fun q r j h hx hd ih=>?_)
 all_goals rw[runL_of B172_0.eq_1]
 ·have h1:¬(j:Int)<l.length:=by omega
  push_cast[h1,ix]
 ·have h1:(j:Int)<l.length:=by omega
  have hw:=iw1 (j:=j) (by omega)
  push_cast[h1,hw,hx]at ih ⊢
  simp only[ih,ix,lps,Int.reduceEq,not_false_eq_true]
  all_goals first|with_reducible rfl|exact dn_eq (by omega) (by with_reducible rfl)|((repeat' split)<;>(try simp_all)<;>(try (with_reducible refine dn_eq ?_ ?_<;>first|trivial|omega|rfl))<;>(try omega))
theorem f172 {l:List Int}{v:Int}(hl:l.length<140737488355328){st:St}:run Tryz.prog HH 172 [.sl (l.map (.int .i64)),.int .i64 v] st=some (.ret (.int .i64 (ix (v == ·) l 0)),st):=by
 rw[run_shut F172 rfl rfl (by simp)]
 have hL0:=fun n=>L172 (g:=st.x.gl) (n:=n) (v:=v) hl l 0 rfl
 push_cast at hL0
 push_cast[hL0,lpE,lpX,lpI,lpB]
 all_goals first|with_reducible rfl|exact dn_eq (by omega) (by with_reducible rfl)|((repeat' split)<;>(try simp_all)<;>(try (with_reducible refine dn_eq ?_ ?_<;>first|trivial|omega|rfl))<;>(try omega))
theorem f114 {l:List Int}{v:Int}(hl:l.length<140737488355328){st:St}:run Tryz.prog HH 114 [.sl (l.map (.int .i64)),.int .i64 v] st=some (.ret (.bool (l.any (v == ·))),st):=by
 rw[run_shut F114 rfl rfl (by simp)]
 push_cast[f172 hl,ix_ge]
def chansL (l:List Int):List Int→Nat→Int
 |[],_=>0
 |c::r,j=>if c<1∨999<c then 2 else if(l.take j).any (c == ·)=true then 7 else chansL l r (j+1)
theorem anyC {α:Type}{p:α→Bool}{x:α}{r:List α}:(x::r).any p=if p x=true then true else r.any p:=by rw[List.any_cons];cases p x<;>rfl
end Go.Proofs.YteggomljbalaaaaGreatDoor

namespace Go.Proofs.YteggomljbalaaaaGreatDoor
open Go.Sha
set_option maxRecDepth 10000
def B184_0:Cd:=(.g [.b 14 .lss 13 12] (.join [0,1,12,13] (.i 14 .skip (.exit [] 0)) (.join [0,1,12,13] (.block 1 (.g [.m 15 13,.m 5 15] (.q (.dreg 9 [.m 16 0,.m 17 5,.r 18 5 16 17,.d 19 5 18,.m 20 1,.m 21 5,.r 22 5 20 21,.d 23 5 22,.s 24 (.eqs true [.i,.i,.i,.i,.i] (.t 19) (.t 23))]) (.i 24 (.g [.k 4 false] (.ret [4])) .skip)))) (.reg [.v 25 .add 13 1,.m 13 25]))))
theorem F184:compF Tryz.prog 184=some ⟨26,[.tmp 4],(.g [.k 4 false] (.join [0,1] (.g [.m 6 0,.u 7 6,.m 8 1,.u 9 8,.b 10 .neq 7 9] (.i 10 (.g [.k 4 false] (.ret [4])) .skip)) (.join [] (.g [.m 11 0,.u 12 11,.c 13 0] (.block 0 (.loop [0,1,12,13] [] B184_0))) (.g [.k 4 true] (.ret [4])))))⟩:=by kernel_rfl
def B185_0:Cd:=(.g [.b 14 .lss 13 12] (.join [0,1,12,13] (.i 14 .skip (.exit [] 0)) (.join [0,1,12,13] (.block 1 (.g [.m 15 13,.m 5 15] (.q (.dreg 9 [.m 16 0,.m 17 5,.r 18 6 16 17,.d 19 6 18,.m 20 1,.m 21 5,.r 22 6 20 21,.d 23 6 22,.s 24 (.eqs true [.i,.i,.i,.i,.i,.i] (.t 19) (.t 23))]) (.i 24 (.g [.k 4 false] (.ret [4])) .skip)))) (.reg [.v 25 .add 13 1,.m 13 25]))))
theorem F185:compF Tryz.prog 185=some ⟨26,[.tmp 4],(.g [.k 4 false] (.join [0,1] (.g [.m 6 0,.u 7 6,.m 8 1,.u 9 8,.b 10 .neq 7 9] (.i 10 (.g [.k 4 false] (.ret [4])) .skip)) (.join [] (.g [.m 11 0,.u 12 11,.c 13 0] (.block 0 (.loop [0,1,12,13] [] B185_0))) (.g [.k 4 true] (.ret [4])))))⟩:=by kernel_rfl
def B83_0:Cd:=(.g [.b 16 .lss 15 14] (.join [1,13,14,15] (.i 16 .skip (.exit [] 0)) (.join [1,13,14,15] (.block 1 (.g [.r 17 2 13 15,.d 18 2 17,.s 4 (.alloc 171 [.nils,.nilf]),.w 2 4 18] (.z [4] (.join [1,13,14,15,31] (.reg [.a 19 0 4,.l 20 19,.a 21 0 1,.l 22 21,.g' 23 114 20 22,.z 24 23,.m 25 24,.ay 26 1 4 25,.ly 27 26 25,.y 28 (.load (some 35) (.t 1)) 25,.y 29 (.call (.t 27) [.t 28]) 25,.y 30 (.un .not (.t 29)) 25,.e 31 25 30]) (.i 31 (.g [.c 2 3] (.ret [2])) .skip))))) (.reg [.v 32 .add 15 1,.m 15 32]))))
theorem F83:compF Tryz.prog 83=some ⟨33,[.tmp 2],(.g [.q 1 44 0,.c 2 0] (.z [1] (.join [1] (.join [1,12] (.reg [.a 5 0 1,.l 6 5,.v 7 .lss 6 0,.m 8 7,.ax 9 0 1 8,.lx 10 9 8,.vx 11 .gtr 10 13 8,.o 12 8 11]) (.i 12 (.g [.c 2 1] (.ret [2])) .skip)) (.join [] (.g [.s 13 (.f 115 []),.u 14 13,.c 15 0] (.block 0 (.loop [1,13,14,15] [] B83_0))) (.g [.c 2 0] (.ret [2]))))))⟩:=by kernel_rfl
theorem F115:compF Tryz.prog 115=some ⟨43,[.tmp 0],(.g [.s 0 (.mv (.c .nils))] (.g [.s 1 (.mv (.c (.fn (.func 173) [] [])))] (.g [.m 2 1,.s 3 (.bslice 3 1 [.i 0,.i 1,.i 2,.i 4,.i 6,.i 8,.i 10,.i 12]),.s 4 (.call (.t 2) [.t 3]),.s 5 (.build [.nils,.nilf] [(0,1,(.t 4)),(1,1,(.c (.fn (.func 174) [] [])))]),.m 6 1,.s 7 (.bslice 3 1 [.i 12]),.s 8 (.call (.t 6) [.t 7]),.s 9 (.build [.nils,.nilf] [(0,1,(.t 8)),(1,1,(.c (.fn (.func 175) [] [])))]),.m 10 1,.s 11 (.bslice 3 1 [.i 2]),.s 12 (.call (.t 10) [.t 11]),.s 13 (.build [.nils,.nilf] [(0,1,(.t 12)),(1,1,(.c (.fn (.func 176) [] [])))]),.m 14 1,.s 15 (.bslice 3 1 [.i 1,.i 13]),.s 16 (.call (.t 14) [.t 15]),.s 17 (.build [.nils,.nilf] [(0,1,(.t 16)),(1,1,(.c (.fn (.func 177) [] [])))]),.m 18 1,.s 19 (.bslice 3 1 [.i 0]),.s 20 (.call (.t 18) [.t 19]),.s 21 (.build [.nils,.nilf] [(0,1,(.t 20)),(1,1,(.c (.fn (.func 178) [] [])))]),.m 22 1,.s 23 (.bslice 3 1 [.i 3]),.s 24 (.call (.t 22) [.t 23]),.s 25 (.build [.nils,.nilf] [(0,1,(.t 24)),(1,1,(.c (.fn (.func 179) [] [])))]),.m 26 1,.s 27 (.bslice 3 1 [.i 5]),.s 28 (.call (.t 26) [.t 27]),.s 29 (.build [.nils,.nilf] [(0,1,(.t 28)),(1,1,(.c (.fn (.func 180) [] [])))]),.m 30 1,.s 31 (.bslice 3 1 [.i 7]),.s 32 (.call (.t 30) [.t 31]),.s 33 (.build [.nils,.nilf] [(0,1,(.t 32)),(1,1,(.c (.fn (.func 181) [] [])))]),.m 34 1,.s 35 (.bslice 3 1 [.i 9]),.s 36 (.call (.t 34) [.t 35]),.s 37 (.build [.nils,.nilf] [(0,1,(.t 36)),(1,1,(.c (.fn (.func 182) [] [])))]),.m 38 1,.s 39 (.bslice 3 1 [.i 11]),.s 40 (.call (.t 38) [.t 39]),.s 41 (.build [.nils,.nilf] [(0,1,(.t 40)),(1,1,(.c (.fn (.func 183) [] [])))]),.s 42 (.bslice 171 2 [.t 5,.t 9,.t 13,.t 17,.t 21,.t 25,.t 29,.t 33,.t 37,.t 41]),.m 0 42] (.ret [0]))))⟩:=by kernel_rfl
theorem F173:compF Tryz.prog 173=some ⟨4,[.tmp 2],(.g [.s 2 (.mv (.c .nils))] (.g [.m 3 0,.m 2 3] (.ret [2])))⟩:=by kernel_rfl
theorem F174:compF Tryz.prog 174=some ⟨6,[.tmp 2],(.g [.q 1 44 0,.k 2 false] (.z [1] (.g [.a 3 1 1,.l 4 3,.v 5 .eql 4 0,.m 2 5] (.ret [2]))))⟩:=by kernel_rfl
theorem F175:compF Tryz.prog 175=some ⟨6,[.tmp 2],(.g [.q 1 44 0,.k 2 false] (.z [1] (.g [.a 3 2 1,.l 4 3,.v 5 .eql 4 0,.m 2 5] (.ret [2]))))⟩:=by kernel_rfl
theorem F176:compF Tryz.prog 176=some ⟨6,[.tmp 2],(.g [.q 1 44 0,.k 2 false] (.z [1] (.g [.a 3 3 1,.l 4 3,.v 5 .eql 4 0,.m 2 5] (.ret [2]))))⟩:=by kernel_rfl
theorem F177:compF Tryz.prog 177=some ⟨6,[.tmp 2],(.g [.q 1 44 0,.k 2 false] (.z [1] (.g [.a 3 4 1,.l 4 3,.s 5 (.bin .eql (.t 4) (.w [])),.m 2 5] (.ret [2]))))⟩:=by kernel_rfl
theorem F178:compF Tryz.prog 178=some ⟨7,[.tmp 2],(.g [.q 1 44 0,.k 2 false] (.z [1] (.g [.a 3 5 1,.d 4 9 3,.s 5 (.build [(.str []),(.str []),.nils,.nils,(.bool false),(.bool false),.i 0,(.str []),.i 0] []),.g' 6 116 4 5,.m 2 6] (.ret [2]))))⟩:=by kernel_rfl
theorem F116:compF Tryz.prog 116=some ⟨66,[.tmp 4],(.g [.q 2 29 0,.q 3 29 1,.k 4 false] (.z [2,3] (.join [2,3] (.join [2,3,18] (.reg [.a 5 2 2,.l 6 5,.a 7 2 3,.l 8 7,.g' 9 184 6 8,.z 10 9,.m 11 10,.ax 12 3 2 11,.lx 13 12 11,.ax 14 3 3 11,.lx 15 14 11,.x 16 (.f 185 [.t 13,.t 15]) 11,.x 17 (.un .not (.t 16)) 11,.o 18 11 17]) (.i 18 (.g [.k 4 false] (.ret [4])) .skip)) (.join [4] (.reg [.a 19 0 2,.l 20 19,.a 21 0 3,.l 22 21,.b 23 .eql 20 22,.m 24 23,.ay 25 1 2 24,.ly 26 25 24,.ay 27 1 3 24,.ly 28 27 24,.by' 29 .eql 26 28 24,.e 30 24 29,.m 31 30,.ay 32 4 2 31,.ly 33 32 31,.ay 34 4 3 31,.ly 35 34 31,.y 36 (.eqb false (.t 33) (.t 35)) 31,.e 37 31 36,.m 38 37,.ay 39 5 2 38,.ly 40 39 38,.ay 41 5 3 38,.ly 42 41 38,.y 43 (.eqb false (.t 40) (.t 42)) 38,.e 44 38 43,.m 45 44,.ay 46 6 2 45,.ly 47 46 45,.ay 48 6 3 45,.ly 49 48 45,.by' 50 .eql 47 49 45,.e 51 45 50,.m 52 51,.ay 53 7 2 52,.ly 54 53 52,.ay 55 7 3 52,.ly 56 55 52,.by' 57 .eql 54 56 52,.e 58 52 57,.m 59 58,.ay 60 8 2 59,.ly 61 60 59,.ay 62 8 3 59,.ly 63 62 59,.by' 64 .eql 61 63 59,.e 65 59 64,.m 4 65]) (.ret [4])))))⟩:=by kernel_rfl
theorem F179:compF Tryz.prog 179=some ⟨14,[.tmp 2],(.g [.q 1 44 0,.k 2 false] (.z [1] (.join [2] (.reg [.a 3 14 1,.a 4 0 3,.l 5 4,.v 6 .eql 5 0,.m 7 6,.ay 8 14 1 7,.ay 9 1 8 7,.ly 10 9 7,.y 11 (.len (.t 10)) 7,.vy 12 .eql 11 0 7,.e 13 7 12,.m 2 13]) (.ret [2]))))⟩:=by kernel_rfl
theorem F180:compF Tryz.prog 180=some ⟨14,[.tmp 2],(.g [.q 1 44 0,.k 2 false] (.z [1] (.join [2] (.reg [.a 3 16 1,.a 4 0 3,.l 5 4,.v 6 .eql 5 0,.m 7 6,.ay 8 16 1 7,.ay 9 1 8 7,.ly 10 9 7,.y 11 (.len (.t 10)) 7,.vy 12 .eql 11 0 7,.e 13 7 12,.m 2 13]) (.ret [2]))))⟩:=by kernel_rfl
theorem F181:compF Tryz.prog 181=some ⟨25,[.tmp 2],(.g [.q 1 44 0,.k 2 false] (.z [1] (.g [.a 4 18 1,.d 5 4 4,.s 3 (.alloc 37 [.i 0,.i 0,(.bool false),.nils]),.w 4 3 5] (.z [3] (.join [2] (.reg [.a 6 0 3,.l 7 6,.v 8 .eql 7 0,.m 9 8,.ay 10 1 3 9,.ly 11 10 9,.vy 12 .eql 11 0 9,.e 13 9 12,.m 14 13,.ay 15 2 3 14,.ly 16 15 14,.y 17 (.un .not (.t 16)) 14,.e 18 14 17,.m 19 18,.ay 20 3 3 19,.ly 21 20 19,.y 22 (.len (.t 21)) 19,.vy 23 .eql 22 0 19,.e 24 19 23,.m 2 24]) (.ret [2]))))))⟩:=by kernel_rfl
theorem F182:compF Tryz.prog 182=some ⟨35,[.tmp 2],(.g [.q 1 44 0,.k 2 false] (.z [1] (.g [.a 4 22 1,.d 5 6 4,.s 3 (.alloc 40 [.i 0,.i 0,.nils,.i 0,.i 0,.i 0]),.w 6 3 5] (.z [3] (.join [2] (.reg [.a 6 0 3,.l 7 6,.v 8 .eql 7 0,.m 9 8,.ay 10 1 3 9,.ly 11 10 9,.vy 12 .eql 11 0 9,.e 13 9 12,.m 14 13,.ay 15 2 3 14,.ly 16 15 14,.y 17 (.len (.t 16)) 14,.vy 18 .eql 17 0 14,.e 19 14 18,.m 20 19,.ay 21 3 3 20,.ly 22 21 20,.vy 23 .eql 22 0 20,.e 24 20 23,.m 25 24,.ay 26 4 3 25,.ly 27 26 25,.vy 28 .eql 27 0 25,.e 29 25 28,.m 30 29,.ay 31 5 3 30,.ly 32 31 30,.vy 33 .eql 32 0 30,.e 34 30 33,.m 2 34]) (.ret [2]))))))⟩:=by kernel_rfl
theorem F183:compF Tryz.prog 183=some ⟨7,[.tmp 2],(.g [.q 1 44 0,.k 2 false] (.z [1] (.g [.a 3 28 1,.d 4 7 3,.s 5 (.build [.i 0,.i 0,(.str []),.i 0,.i 0,.i 0,(.str [])] []),.s 6 (.eqs false [.i,.i,.s,.i,.i,.i,.s] (.t 4) (.t 5)),.m 2 6] (.ret [2]))))⟩:=by kernel_rfl
end Go.Proofs.YteggomljbalaaaaGreatDoor

namespace Go.Proofs.YteggomljbalaaaaGreatDoor
open Go.Sha
set_option maxRecDepth 100000
variable {g:List (Nat×Obj)}{n:Nat}
theorem f184 {l:List Mov}(hl:l.length<140737488355328){st:St}:run Tryz.prog HH 184 [.sl (l.map Mov.v),.sl []] st=some (.ret (.bool (decide (l.length=0))),st):=by
 by_cases h:l.length=0
 ·have h0:l=[]:=List.length_eq_zero_iff.1 h
  subst h0
  rw[run_shut F184 rfl rfl (by simp)]
  push_cast[runL_of B184_0.eq_1]
 ·have h1:¬(l.length:Int)=0:=by omega
  rw[run_shut F184 rfl rfl (by simp)]
  push_cast[Mov.v,h,h1]
theorem f185 {l:List Tim}(hl:l.length<140737488355328){st:St}:run Tryz.prog HH 185 [.sl (l.map Tim.v),.sl []] st=some (.ret (.bool (decide (l.length=0))),st):=by
 by_cases h:l.length=0
 ·have h0:l=[]:=List.length_eq_zero_iff.1 h
  subst h0
  rw[run_shut F185 rfl rfl (by simp)]
  push_cast[runL_of B185_0.eq_1]
 ·have h1:¬(l.length:Int)=0:=by omega
  rw[run_shut F185 rfl rfl (by simp)]
  push_cast[Tim.v,h,h1]
def zCu (c:Cu):Bool:=decide (c.moves=[])&&decide (c.parts=[])&&(decide (c.num=[])&&(decide (c.label=[])&&(!c.block&&(!c.mark&&(decide (c.follow=0)&&(decide (c.link=[])&&c.loops == 0))))))
theorem f116 {c:Cu}(hl:c.moves.length<140737488355328)(hk:c.parts.length<140737488355328){st:St}:run Tryz.prog HH 116 [c.v,.agg [.str [],.str [],.sl [],.sl [],.bool false,.bool false,.int .i64 0,.str [],.int .i64 0]] st=some (.ret (.bool (zCu c)),st):=by
 have h168:=fun(st:St)=>f184 hl (st:=st)
 have h169:=fun(st:St)=>f185 hk (st:=st)
 rw[run_shut F116 rfl rfl (by simp)]
 push_cast[Cu.v,h168,h169,zCu]
 all_goals first|with_reducible rfl|exact dn_eq (by omega) (by with_reducible rfl)|((repeat' split)<;>(try simp_all)<;>(try (with_reducible refine dn_eq ?_ ?_<;>first|trivial|omega|rfl))<;>(try omega))
theorem f174 {e:Edi}{st:St}:run Tryz.prog HH 174 [e.v] st=some (.ret (.bool (e.num == 0)),st):=by
 rw[run_shut F174 rfl rfl (by simp)]
 push_cast[Edi.v]
 all_goals first|with_reducible rfl|exact dn_eq (by omega) (by with_reducible rfl)|((repeat' split)<;>(try simp_all)<;>(try (with_reducible refine dn_eq ?_ ?_<;>first|trivial|omega|rfl))<;>(try omega))
theorem f175 {e:Edi}{st:St}:run Tryz.prog HH 175 [e.v] st=some (.ret (.bool (e.chan == 0)),st):=by
 rw[run_shut F175 rfl rfl (by simp)]
 push_cast[Edi.v]
 all_goals first|with_reducible rfl|exact dn_eq (by omega) (by with_reducible rfl)|((repeat' split)<;>(try simp_all)<;>(try (with_reducible refine dn_eq ?_ ?_<;>first|trivial|omega|rfl))<;>(try omega))
theorem f176 {e:Edi}{st:St}:run Tryz.prog HH 176 [e.v] st=some (.ret (.bool (e.prio == 0)),st):=by
 rw[run_shut F176 rfl rfl (by simp)]
 push_cast[Edi.v]
 all_goals first|with_reducible rfl|exact dn_eq (by omega) (by with_reducible rfl)|((repeat' split)<;>(try simp_all)<;>(try (with_reducible refine dn_eq ?_ ?_<;>first|trivial|omega|rfl))<;>(try omega))
theorem f177 {e:Edi}{st:St}:run Tryz.prog HH 177 [e.v] st=some (.ret (.bool (e.key == [])),st):=by
 rw[run_shut F177 rfl rfl (by simp)]
 push_cast[Edi.v]
 all_goals first|with_reducible rfl|exact dn_eq (by omega) (by with_reducible rfl)|((repeat' split)<;>(try simp_all)<;>(try (with_reducible refine dn_eq ?_ ?_<;>first|trivial|omega|rfl))<;>(try omega))
theorem f178 {e:Edi}(hl:e.cue.moves.length<140737488355328)(hk:e.cue.parts.length<140737488355328){st:St}:run Tryz.prog HH 178 [e.v] st=some (.ret (.bool (zCu e.cue)),st):=by
 have h:=fun(st:St)=>f116 hl hk (st:=st)
 push_cast[Cu.v]at h
 rw[run_shut F178 rfl rfl (by simp)]
 push_cast[Edi.v,h]
 all_goals first|with_reducible rfl|exact dn_eq (by omega) (by with_reducible rfl)|((repeat' split)<;>(try simp_all)<;>(try (with_reducible refine dn_eq ?_ ?_<;>first|trivial|omega|rfl))<;>(try omega))
theorem f179 {e:Edi}{st:St}:run Tryz.prog HH 179 [e.v] st=some (.ret (.bool (decide (e.pal.num=0)&&(e.pal.hues.length:Int) == 0)),st):=by
 rw[run_shut F179 rfl rfl (by simp)]
 push_cast[Edi.v]
 all_goals first|with_reducible rfl|exact dn_eq (by omega) (by with_reducible rfl)|((repeat' split)<;>(try simp_all)<;>(try (with_reducible refine dn_eq ?_ ?_<;>first|trivial|omega|rfl))<;>(try omega))
theorem f180 {e:Edi}{st:St}:run Tryz.prog HH 180 [e.v] st=some (.ret (.bool (decide (e.grp.num=0)&&(e.grp.chans.length:Int) == 0)),st):=by
 rw[run_shut F180 rfl rfl (by simp)]
 push_cast[Edi.v]
 all_goals first|with_reducible rfl|exact dn_eq (by omega) (by with_reducible rfl)|((repeat' split)<;>(try simp_all)<;>(try (with_reducible refine dn_eq ?_ ?_<;>first|trivial|omega|rfl))<;>(try omega))
theorem f181 {e:Edi}{st:St}:run Tryz.prog HH 181 [e.v] st=some (.ret (.bool (decide (e.sub.num=0)&&(decide (e.sub.prio=0)&&(!e.sub.inh&&(e.sub.gains.length:Int) == 0)))),st):=by
 rw[run_shut F181 rfl rfl (by simp)]
 push_cast[Edi.v]
 all_goals first|with_reducible rfl|exact dn_eq (by omega) (by with_reducible rfl)|((repeat' split)<;>(try simp_all)<;>(try (with_reducible refine dn_eq ?_ ?_<;>first|trivial|omega|rfl))<;>(try omega))
theorem f182 {e:Edi}{st:St}:run Tryz.prog HH 182 [e.v] st=some (.ret (.bool (decide (e.eff.num=0)&&(decide (e.eff.attr=0)&&(decide (e.eff.wave=[])&&(decide (e.eff.period=0)&&(decide (e.eff.spread=0)&&e.eff.size == 0)))))),st):=by
 rw[run_shut F182 rfl rfl (by simp)]
 push_cast[Edi.v]
 all_goals first|with_reducible rfl|exact dn_eq (by omega) (by with_reducible rfl)|((repeat' split)<;>(try simp_all)<;>(try (with_reducible refine dn_eq ?_ ?_<;>first|trivial|omega|rfl))<;>(try omega))
theorem f183 {e:Edi}{st:St}:run Tryz.prog HH 183 [e.v] st=some (.ret (.bool (e.fix.chan == 0&&(e.fix.part == 0&&(e.fix.prof.isEmpty&&(e.fix.univ == 0&&(e.fix.addr == 0&&(e.fix.phase == 0&&e.fix.cable.isEmpty))))))),st):=by
 rw[run_shut F183 rfl rfl (by simp)]
 push_cast[Edi.v]
 all_goals first|with_reducible rfl|exact dn_eq (by omega) (by with_reducible rfl)|((repeat' split)<;>(try simp_all)<;>(try (with_reducible refine dn_eq ?_ ?_<;>first|trivial|omega|rfl))<;>(try omega))
structure Use where
 ks:List Int
 f:FuncId
 z:Edi→Bool
instance:Inhabited Use:=⟨⟨[],0,fun _=>true⟩⟩
@[reducible] def Use.v (u:Use):V:=.agg [.sl (u.ks.map (.int .i64)),.fn (.func u.f) [] []]
def uses:List Use:=[⟨[0,1,2,4,6,8,10,12],174,fun e=>e.num == 0⟩,⟨[12],175,fun e=>e.chan == 0⟩,⟨[2],176,fun e=>e.prio == 0⟩,⟨[1,13],177,fun e=>e.key == []⟩,⟨[0],178,fun e=>zCu e.cue⟩,
 ⟨[3],179,fun e=>decide (e.pal.num=0)&&(e.pal.hues.length:Int) == 0⟩,⟨[5],180,fun e=>decide (e.grp.num=0)&&(e.grp.chans.length:Int) == 0⟩,⟨[7],181,fun e=>decide (e.sub.num=0)&&(decide (e.sub.prio=0)&&(!e.sub.inh&&(e.sub.gains.length:Int) == 0))⟩,
 ⟨[9],182,fun e=>decide (e.eff.num=0)&&(decide (e.eff.attr=0)&&(decide (e.eff.wave=[])&&(decide (e.eff.period=0)&&(decide (e.eff.spread=0)&&e.eff.size == 0))))⟩,⟨[11],183,fun e=>e.fix.chan == 0&&(e.fix.part == 0&&(e.fix.prof.isEmpty&&(e.fix.univ == 0&&(e.fix.addr == 0&&(e.fix.phase == 0&&e.fix.cable.isEmpty)))))⟩]
theorem f115 {st:St}:run Tryz.prog HH 115 [] st=some (.ret (.sl (uses.map Use.v)),st):=by
 rw[run_shut F115 rfl rfl (by simp)]
 push_cast[uses,Use.v,List.map_cons,List.map_nil,(fun(a0:V) (st:St) (h:V.bdL 0 [a0]=true)=>run_shut (P:=Tryz.prog) (H:=HH) (args:=[a0]) (st:=st) F173 rfl rfl h)]
 all_goals first|with_reducible rfl|exact dn_eq (by omega) (by with_reducible rfl)|((repeat' split)<;>(try simp_all)<;>(try (with_reducible refine dn_eq ?_ ?_<;>first|trivial|omega|rfl))<;>(try omega))
def useR (e:Edi):List Use→Int
 |[]=>0
 |u::r=>if u.ks.any (e.kind == ·)||u.z e then useR e r else 3
theorem L83 {e:Edi}{us:List Use}(hl:us.length<140737488355328)(hk:∀u∈us,u.ks.length<140737488355328∧memL u.f HH.raw=false∧∀st:St,run Tryz.prog HH u.f [e.v] st=some (.ret (.bool (u.z e)),st)):∀r j,us.drop j=r→runL Tryz.prog HH [1,13,14,15] n B83_0 [(1,.ep e.v 0),(13,.sl (us.map Use.v)),(14,.int .i64 us.length),(15,.int .i64 j)] (stN g n)=lpE (stN g n) [] 2 (useR e r):=by
 refine drop_ind (fun j h=>?_) (fun q r j h hx hd ih=>?_)
 all_goals rw[runL_of B83_0.eq_1]
 ·have h1:¬(j:Int)<us.length:=by omega
  push_cast[h1,useR]
 ·have h1:(j:Int)<us.length:=by omega
  have hw:=iw1 (j:=j) (by omega)
  obtain⟨h2,h3,h4⟩:=hk q (List.mem_of_mem_drop (hd▸List.mem_cons_self ..))
  have h5:=fun(st:St)=>f114 (v:=e.kind) h2 (st:=st)
  rw[HH_raw]at h3
  push_cast[Edi.v]at h3 h4
  push_cast[h1,hw,hx,Edi.v,Use.v,h3,h4,h5]at ih ⊢
  rw[useR,ih]
  cases q.ks.any (e.kind == ·)<;>cases q.z e<;>simp[lpE]
def edtC (e:Edi):Int:=if e.kind<0∨13<e.kind then 1 else useR e uses
theorem f83 {e:Edi}(hl:e.cue.moves.length<140737488355328)(hk:e.cue.parts.length<140737488355328){st:St}:run Tryz.prog HH 83 [e.v] st=some (.ret (.int .i64 (edtC e)),st):=by
 have hL:=L83 (g:=st.x.gl) (n:=1) (e:=e) (us:=uses) (by decide) (by
  intro u hu
  simp only[uses,List.mem_cons,List.mem_nil_iff,or_false]at hu
  rcases hu with rfl|rfl|rfl|rfl|rfl|rfl|rfl|rfl|rfl|rfl
  ·exact⟨by decide,rfl,fun _=>f174⟩
  ·exact⟨by decide,rfl,fun _=>f175⟩
  ·exact⟨by decide,rfl,fun _=>f176⟩
  ·exact⟨by decide,rfl,fun _=>f177⟩
  ·exact⟨by decide,rfl,fun _=>f178 hl hk⟩
  ·exact⟨by decide,rfl,fun _=>f179⟩
  ·exact⟨by decide,rfl,fun _=>f180⟩
  ·exact⟨by decide,rfl,fun _=>f181⟩
  ·exact⟨by decide,rfl,fun _=>f182⟩
  ·exact⟨by decide,rfl,fun _=>f183⟩) uses 0 rfl
 rw[run_shut F83 rfl rfl (by simp)]
 have h42:=fun(st:St)=>f115 (st:=st)
 have hlen:(uses.length:Int)=10:=rfl
 push_cast[Edi.v,hlen]at hL
 by_cases h1:e.kind<0
 ·have e1:edtC e=1:=if_pos (.inl h1)
  push_cast[Edi.v,e1,h1]
 ·by_cases h2:13<e.kind
  ·have e1:edtC e=1:=if_pos (.inr h2)
   push_cast[Edi.v,e1,h1,h2]
  ·have e1:edtC e=useR e uses:=if_neg (by omega)
   rw[e1]
   generalize useR e uses=c at *
   push_cast[Edi.v,h1,h2,h42,hL,hlen,lpE]
end Go.Proofs.YteggomljbalaaaaGreatDoor

namespace Go.Proofs.YteggomljbalaaaaGreatDoor
open Go.Sha
set_option maxRecDepth 10000
end Go.Proofs.YteggomljbalaaaaGreatDoor

namespace Go.Proofs.YteggomljbalaaaaGreatDoor
open Go.Sha
variable {g:List (Nat×Obj)}{n:Nat}
abbrev lvl (v:Int):Prop:=0≤v∧v≤65535
end Go.Proofs.YteggomljbalaaaaGreatDoor

namespace Go.Proofs.YteggomljbalaaaaGreatDoor
open Go.Sha
set_option maxRecDepth 10000
def B70_0:Cd:=(.g [.b 23 .lss 22 21] (.join [0,3,20,21,22] (.i 23 .skip (.exit [0,3] 0)) (.join [0,3,20,21,22] (.block 1 (.g [.r 24 1 20 22,.l 25 24,.m 6 25] (.g [.m 26 6,.s 27 (.call (.t 26) []),.z 28 27] (.i 28 (.g [.c 2 3] (.ret [2])) .skip)))) (.reg [.v 29 .add 22 1,.m 22 29]))))
theorem F70:compF Tryz.prog 70=some ⟨44,[.tmp 2],(.g [.c 2 0] (.g [.s 3 (.alloc 161 [(.str []),(.str []),(.bool false)])] (.g [.m 8 0,.s 9 (.f 106 [.t 8,(.w [46])]),.m 7 9,.j 10 0 7,.j 11 1 7,.j 12 2 7,.a 13 0 3,.w 1 13 10,.a 14 1 3,.w 1 14 11,.a 15 2 3,.w 1 15 12] (.g [.s 16 (.mkfn (.func 107) [] [.t 3]),.s 17 (.mkfn (.func 109) [] [.t 3]),.s 18 (.mkfn (.func 111) [] [.t 3]),.s 19 (.bslice 48 1 [.t 16,.t 17,.t 18]),.m 4 19] (.join [0,3] (.g [.m 20 4,.u 21 20,.c 22 0] (.block 0 (.loop [0,3,20,21,22] [] B70_0))) (.join [] (.join [43] (.reg [.m 30 0,.s 31 (.bin .eql (.t 30) (.w [48])),.m 32 31,.ax 33 0 3 32,.lx 34 33 32,.x 35 (.lens (.t 34)) 32,.vx 36 .gtr 35 4 32,.o 37 32 36,.m 38 37,.ax 39 1 3 38,.lx 40 39 38,.x 41 (.lens (.t 40)) 38,.vx 42 .gtr 41 3 38,.o 43 38 42]) (.i 43 (.g [.c 2 2] (.ret [2])) .skip)) (.g [.c 2 0] (.ret [2]))))))))⟩:=by kernel_rfl
theorem F107:compF Tryz.prog 107=some ⟨5,[.tmp 1],(.g [.k 1 false] (.g [.a 2 0 0,.l 3 2,.f 4 108 3,.m 1 4] (.ret [1])))⟩:=by kernel_rfl
theorem F109:compF Tryz.prog 109=some ⟨16,[.tmp 1],(.g [.k 1 false] (.join [1] (.reg [.a 2 2 0,.l 3 2,.z 4 3,.m 5 4,.ax 6 1 0 5,.lx 7 6 5,.x 8 (.f 108 [.t 7]) 5,.mx 9 8 5,.ay 10 1 0 9,.ly 11 10 9,.y 12 (.f 110 [.t 11,(.w [48])]) 9,.y 13 (.un .not (.t 12)) 9,.x 14 (.pick (.t 9) (.t 13) (.c (.bool false))) 5,.o 15 5 14,.m 1 15]) (.ret [1])))⟩:=by kernel_rfl
theorem F111:compF Tryz.prog 111=some ⟨12,[.tmp 1],(.g [.k 1 false] (.join [1] (.reg [.a 2 0 0,.l 3 2,.s 4 (.lens (.t 3)),.v 5 .eql 4 1,.m 6 5,.ax 7 0 0 6,.lx 8 7 6,.x 9 (.ichr (.t 8) (.i 0)) 6,.x 10 (.bin .neq (.t 9) (.c (.int .u8 48))) 6,.o 11 6 10,.m 1 11]) (.ret [1])))⟩:=by kernel_rfl
theorem F108:compF Tryz.prog 108=some ⟨10,[.tmp 2],(.g [.k 2 false] (.join [2] (.reg [.m 3 0,.s 4 (.bin .neq (.t 3) (.w [])),.m 5 4,.my 6 0 5,.y 7 (.f 161 [.t 6,(.c (.fn (.func 162) [] []))]) 5,.y 8 (.un .not (.t 7)) 5,.e 9 5 8,.m 2 9]) (.ret [2])))⟩:=by kernel_rfl
theorem F34:compF Tryz.prog 34=some ⟨54,[.tmp 2],(.g [.c 2 0] (.g [.m 7 0,.f 8 54 7,.m 6 8,.j 9 0 6,.j 10 1 6,.j 11 2 6,.m 3 9,.m 4 10,.m 5 11] (.join [0,3,4,5] (.join [0,3,4,5,22] (.reg [.m 12 3,.f 13 55 12,.z 14 13,.m 15 14,.mx 16 5 15,.mx 17 16 15,.my 18 4 17,.y 19 (.f 55 [.t 18]) 17,.y 20 (.un .not (.t 19)) 17,.x 21 (.pick (.t 17) (.t 20) (.c (.bool false))) 15,.o 22 15 21]) (.i 22 (.g [.c 2 3] (.ret [2])) .skip)) (.join [0,3,4] (.join [0,3,4,41] (.reg [.m 23 3,.s 24 (.lens (.t 23)),.v 25 .gtr 24 1,.m 26 25,.my 27 3 26,.y 28 (.ichr (.t 27) (.i 0)) 26,.y 29 (.bin .eql (.t 28) (.c (.int .u8 48))) 26,.e 30 26 29,.m 31 30,.mx 32 5 31,.mx 33 32 31,.my 34 4 33,.my 35 4 33,.y 36 (.lens (.t 35)) 33,.vy 37 .sub 36 1 33,.y 38 (.ichr (.t 34) (.t 37)) 33,.y 39 (.bin .eql (.t 38) (.c (.int .u8 48))) 33,.x 40 (.pick (.t 33) (.t 39) (.c (.bool false))) 31,.o 41 31 40]) (.i 41 (.g [.c 2 3] (.ret [2])) .skip)) (.join [] (.join [53] (.reg [.m 42 0,.s 43 (.bin .eql (.t 42) (.w [48])),.m 44 43,.mx 45 3 44,.x 46 (.lens (.t 45)) 44,.vx 47 .gtr 46 4 44,.o 48 44 47,.m 49 48,.mx 50 4 49,.x 51 (.lens (.t 50)) 49,.vx 52 .gtr 51 3 49,.o 53 49 52]) (.i 53 (.g [.c 2 2] (.ret [2])) .skip)) (.g [.c 2 0] (.ret [2])))))))⟩:=by kernel_rfl
def B54_0:Cd:=(.join [0,5] (.g [.m 6 5,.m 7 0,.s 8 (.lens (.t 7)),.b 9 .lss 6 8] (.i 9 .skip (.exit [0] 0))) (.join [0,5] (.block 1 (.g [.m 12 0,.m 13 5,.s 14 (.ichr (.t 12) (.t 13)),.s 15 (.bin .eql (.t 14) (.c (.int .u8 46)))] (.i 15 (.q (.dreg 10 [.m 16 0,.m 17 5,.s 18 (.slices (.t 16) none (some (.t 17))),.m 19 0,.m 20 5,.v 21 .add 20 1,.s 22 (.slices (.t 19) (some (.t 21)) none),.m 2 18,.m 3 22,.k 4 true]) (.ret [2,3,4])) .skip))) (.reg [.m 10 5,.v 11 .add 10 1,.m 5 11])))
theorem F54:compF Tryz.prog 54=some ⟨24,[.tmp 2,.tmp 3,.tmp 4],(.g [.s 2 (.mv (.w [])),.s 3 (.mv (.w [])),.k 4 false] (.join [0] (.g [.c 5 0] (.block 0 (.loop [0,5] [] B54_0))) (.g [.m 23 0,.m 2 23,.s 3 (.mv (.w [])),.k 4 false] (.ret [2,3,4]))))⟩:=by kernel_rfl
def B55_0:Cd:=(.join [0,3] (.g [.m 4 3,.m 5 0,.s 6 (.lens (.t 5)),.b 7 .lss 4 6] (.i 7 .skip (.exit [0] 0))) (.join [0,3] (.block 1 (.join [0,3,19] (.reg [.m 10 0,.m 11 3,.s 12 (.ichr (.t 10) (.t 11)),.s 13 (.bin .lss (.t 12) (.c (.int .u8 48))),.m 14 13,.mx 15 0 14,.mx 16 3 14,.x 17 (.ichr (.t 15) (.t 16)) 14,.x 18 (.bin .gtr (.t 17) (.c (.int .u8 57))) 14,.o 19 14 18]) (.i 19 (.g [.k 2 false] (.ret [2])) .skip))) (.reg [.m 8 3,.v 9 .add 8 1,.m 3 9])))
theorem F55:compF Tryz.prog 55=some ⟨23,[.tmp 2],(.g [.k 2 false] (.join [0] (.g [.c 3 0] (.block 0 (.loop [0,3] [] B55_0))) (.g [.m 20 0,.s 21 (.lens (.t 20)),.v 22 .gtr 21 0,.m 2 22] (.ret [2]))))⟩:=by kernel_rfl
end Go.Proofs.YteggomljbalaaaaGreatDoor

namespace Go.Proofs.YteggomljbalaaaaGreatDoor
open Go.Sha
set_option maxRecDepth 10000
variable {g:List (Nat×Obj)}{n:Nat}
def nW (s:List UInt8):List UInt8:=s.takeWhile (· != 46)
def nR (s:List UInt8):List UInt8:=(s.dropWhile (· != 46)).drop 1
theorem h259 {s:List UInt8}(hl:s.length<140737488355328){st:St}:run Tryz.prog HH 106 [.str s,.str [46]] st=some (.ret (.tup [.str (nW s),.str (nR s),.bool (s.contains 46)]),st):=run_H (by
 show(hCut [.str s,.str [46]]).map _=_
 rw[hCut,if_pos hl];rfl)
theorem h263 {s t:List UInt8}(hl:s.length<140737488355328)(ht:t.length≤1000){st:St}:run Tryz.prog HH 110 [.str s,.str t] st=some (.ret (.bool (t.isSuffixOf s)),st):=run_H (by
 show(hSuf [.str s,.str t]).map _=_
 rw[hSuf,if_pos ⟨hl,by omega⟩];rfl)
theorem h279 {s:List UInt8}{st:St}:run Tryz.prog HH 161 [.str s,.fn (.func 162) [] []] st=some (.ret (.bool (s.any (!isD ·))),st):=run_H rfl
def digB (s:List UInt8):Bool:=decide (¬s=[])&&!(s.any (!isD ·))
theorem f108 {s:List UInt8}{st:St}:run Tryz.prog HH 108 [.str s] st=some (.ret (.bool (digB s)),st):=by
 rw[run_shut F108 rfl rfl (by simp)]
 push_cast[h279,digB]
 all_goals first|with_reducible rfl|exact dn_eq (by omega) (by with_reducible rfl)|((repeat' split)<;>(try simp_all)<;>(try (with_reducible refine dn_eq ?_ ?_<;>first|trivial|omega|rfl))<;>(try omega))
def numC (s:List UInt8):Int:=if digB (nW s)=false then 3 else if(!s.contains 46||digB (nR s)&&![48].isSuffixOf (nR s))=false then 3 else if(decide (((nW s).length:Int)=1)||(((nW s).getD 0 0).toNat:Int) != 48)=false then 3 else if s=[48]∨4<((nW s).length:Int)∨3<((nR s).length:Int) then 2 else 0
theorem digB_len {s:List UInt8}(h:¬digB s=false):0<s.length:=by cases s<;>simp_all [digB]
theorem nR_le {s:List UInt8}:(nR s).length≤s.length:=by
 have:=(List.dropWhile_sublist (p:=(· != 46)) (l:=s)).length_le
 simp only[nR,List.length_drop];omega
theorem f70 {s:List UInt8}(hl:s.length<140737488355328){st:St}:run Tryz.prog HH 70 [.str s] st=some (.ret (.int .i64 (numC s)),st):=by
 have h259:=fun(st:St)=>h259 (st:=st) hl
 have h263:=fun(st:St)=>h263 (s:=nR s) (t:=[48]) (st:=st) (by have:=nR_le (s:=s);omega) (by decide)
 rw[run_shut F70 rfl rfl (by simp)]
 push_cast[h259,h263,f108,(fun(a0:V) (st:St) (h:V.bdL 0 [a0]=false)=>run_open (P:=Tryz.prog) (H:=HH) (args:=[a0]) (st:=st) F107 rfl rfl h),(fun(a0:V) (st:St) (h:V.bdL 0 [a0]=false)=>run_open (P:=Tryz.prog) (H:=HH) (args:=[a0]) (st:=st) F109 rfl rfl h),(fun(a0:V) (st:St) (h:V.bdL 0 [a0]=false)=>run_open (P:=Tryz.prog) (H:=HH) (args:=[a0]) (st:=st) F111 rfl rfl h),runL_of (B70_0.eq_1),numC]
 exact dn_eq (fun h _ _=>by have:=digB_len h;omega) rfl
theorem take_w {p:UInt8→Bool}:∀{s:List UInt8},s.take (s.takeWhile p).length=s.takeWhile p
 |[]=>rfl
 |b::r=>by by_cases h:p b=true<;>simp[List.takeWhile_cons,h,take_w (s:=r)]
theorem drop_w {p:UInt8→Bool}:∀{s:List UInt8},s.drop (s.takeWhile p).length=s.dropWhile p
 |[]=>rfl
 |b::r=>by by_cases h:p b=true<;>simp[List.takeWhile_cons,List.dropWhile_cons,h,drop_w (s:=r)]
theorem L54 {s:List UInt8}(hl:s.length<140737488355328):∀r j,s.drop j=r→runL Tryz.prog HH [0,5] n B54_0 [(0,.str s),(5,.int .i64 j)] (stN g n)=if r.contains 46=true then some (.ret,[(2,.str (s.take (j+(nW r).length))),(3,.str (s.drop (j+(nW r).length+1))),(4,.bool true)],stN g n) else some (.exit 0,[(0,.str s)],stN g n):=by
 refine drop_ind (fun j h=>?_) (fun q r j h hx hd ih=>?_)
 all_goals rw[runL_of B54_0.eq_1]
 ·have h1:¬(j:Int)<s.length:=by omega
  push_cast[h1,List.contains_nil]
 ·have h1:(j:Int)<s.length:=by omega
  have hw:=iw1 (j:=j) (by omega)
  push_cast[h1,hw,hx]at ih ⊢
  refine dn_eq (fun _=>by omega) ?_
  by_cases hq:q=46
  ·subst hq;simp[show((j:Int)+1).toNat=j+1 by omega,nW]
  ·have h2:¬((q.toNat:Int)=46):=fun e=>hq (UInt8.toNat_inj.1 (by simpa using Int.ofNat_inj.1 e))
   have h3:∀n,j+1+n=j+(n+1):=fun n=>by omega
   rw[if_neg h2,ih]
   simp[hq,Ne.symm hq,List.contains_cons,nW,h3,List.takeWhile_cons]
theorem n_none:∀{s:List UInt8},s.contains 46=false→nW s=s∧nR s=[]
 |[],_=>⟨rfl,rfl⟩
 |b::r,h=>by
  have hb:(b != 46)=true:=by simp at h ⊢;exact fun e=>h.1 e.symm
  have hr:r.contains 46=false:=by simp at h ⊢;exact h.2
  have:=n_none hr
  simp only[nW,nR,List.takeWhile_cons,List.dropWhile_cons,hb,if_true]at this ⊢
  exact⟨by rw[this.1],this.2⟩
theorem f54 {s:List UInt8}(hl:s.length<140737488355328){st:St}:run Tryz.prog HH 54 [.str s] st=some (.ret (.tup [.str (nW s),.str (nR s),.bool (s.contains 46)]),st):=by
 rw[run_shut F54 rfl rfl (by simp)]
 have hL0:=fun n=>L54 (g:=st.x.gl) (n:=n) hl _ 0 rfl
 push_cast at hL0
 push_cast[hL0]
 cases h:s.contains 46 with
 |true=>simp[nW,nR,take_w,←List.drop_drop,drop_w]
 |false=>simp[n_none h]
theorem isD_i {q:UInt8}:(isD q=false)=((q.toNat:Int)<48∨57<(q.toNat:Int)):=by simp only[isD,Bool.and_eq_false_iff,decide_eq_false_iff_not,eq_iff_iff];omega
theorem L55 {s:List UInt8}(hl:s.length<140737488355328):∀r j,s.drop j=r→runL Tryz.prog HH [0,3] n B55_0 [(0,.str s),(3,.int .i64 j)] (stN g n)=lpB (stN g n) [(0,.str s)] 2 (r.any (!isD ·)) false:=by
 refine drop_ind (fun j h=>?_) (fun q r j h hx hd ih=>?_)
 all_goals rw[runL_of B55_0.eq_1]
 ·have h1:¬(j:Int)<s.length:=by omega
  push_cast[h1,anyC,List.any_nil,Bool.not_eq_true',isD_i]
 ·have h1:(j:Int)<s.length:=by omega
  have hw:=iw1 (j:=j) (by omega)
  push_cast[h1,hw,hx]at ih ⊢
  simp only[ih,anyC,List.any_nil,Bool.not_eq_true',isD_i,lps,Int.reduceEq,not_false_eq_true]
  all_goals first|with_reducible rfl|exact dn_eq (by omega) (by with_reducible rfl)|((repeat' split)<;>(try simp_all)<;>(try (with_reducible refine dn_eq ?_ ?_<;>first|trivial|omega|rfl))<;>(try omega))
theorem f55 {s:List UInt8}(hl:s.length<140737488355328){st:St}:run Tryz.prog HH 55 [.str s] st=some (.ret (.bool (digB s)),st):=by
 rw[run_shut F55 rfl rfl (by simp)]
 have hL0:=fun n=>L55 (g:=st.x.gl) (n:=n) hl _ 0 rfl
 push_cast at hL0
 push_cast[hL0,lpB]
 cases s<;>simp[digB]
theorem nW_len {s:List UInt8}(hl:s.length<140737488355328):(nW s).length<140737488355328:=Nat.lt_of_le_of_lt (List.takeWhile_prefix _).length_le hl
theorem nR_len {s:List UInt8}(hl:s.length<140737488355328):(nR s).length<140737488355328:=by
 have:=(List.dropWhile_suffix (l:=s) (· != (46:UInt8))).length_le
 simp only[nR,List.length_drop];omega
theorem suf_last {r:List UInt8}(h:¬r=[]):[48].isSuffixOf r=(((r.getD (r.length-1) 0).toNat:Int) == 48):=by
 obtain⟨a,b,rfl⟩:=(List.eq_nil_or_concat r).resolve_left h
 have h48:∀c:UInt8,(((c.toNat:Int)) == 48)=(48 == c):=fun c=>by
  rw[Bool.eq_iff_iff,beq_iff_eq,beq_iff_eq]
  exact⟨fun e=>UInt8.toNat_inj.1 (by simpa using(Int.ofNat_inj.1 e).symm),fun e=>by rw[←e];rfl⟩
 simp[List.isSuffixOf,h48,List.isPrefixOf]
theorem f34 {s:List UInt8}(hl:s.length<140737488355328){st:St}:run Tryz.prog HH 34 [.str s] st=some (.ret (.int .i64 (numC s)),st):=by
 have h3:=nR_len hl
 rw[run_shut F34 rfl rfl (by simp)]
 push_cast[f54 hl,f55 (nW_len hl),f55 (nR_len hl),iwrap_pred (nR_len hl)]
 refine dn_eq (fun h=>?_) ?_
 ·have h4:s.contains 46=true→0<(nR s).length:=fun e=>by
   by_cases hd:digB (nR s)=false
   ·exact absurd (.inr ⟨e,hd⟩) h
   ·exact digB_len hd
  exact⟨fun _ e=>by have:=h4 e;omega,fun h1=>⟨by omega,fun _ e=>by have:=h4 e;omega⟩⟩
 ·congr 4
  unfold numC
  cases h1:digB (nW s) with
  |false=>simp
  |true =>
   have hw:=digB_len (by simp[h1]:¬digB (nW s)=false)
   have e1:((1:Int)<(nW s).length)=¬((nW s).length:Int)=1:=propext (by omega)
   cases h2:s.contains 46 with
   |false =>
    simp[e1]
   |true =>
    cases h5:digB (nR s) with
    |false=>simp
    |true =>
     rw[suf_last (by rintro e;rw[e]at h5;simp[digB]at h5)]
     simp only[e1]
     generalize (((nR s).getD ((nR s).length-1) 0).toNat:Int)=x
     generalize (((nW s).getD 0 0).toNat:Int)=y
     by_cases p1:((nW s).length:Int)=1<;>by_cases p2:x=48<;>by_cases p3:y=48<;>simp[p1,p2,p3]
end Go.Proofs.YteggomljbalaaaaGreatDoor

namespace Go.Proofs.YteggomljbalaaaaGreatDoor
open Go.Sha
set_option maxRecDepth 10000
-- 0 is not covered
end Go.Proofs.YteggomljbalaaaaGreatDoor

namespace Go.Proofs.YteggomljbalaaaaGreatDoor
open Go.Sha
set_option maxRecDepth 10000
theorem F165:compF Tryz.prog 165=some ⟨24,[.tmp 4],(.g [.q 2 127 0,.c 4 0] (.z [2] (.join [] (.join [23] (.reg [.a 5 0 2,.l 6 5,.m 7 1,.b 8 .lss 6 7,.m 9 8,.ax 10 0 2 9,.lx 11 10 9,.vx 12 .gtr 11 999 9,.o 13 9 12,.m 14 13,.ax 15 1 2 14,.lx 16 15 14,.vx 17 .lss 16 0 14,.o 18 14 17,.m 19 18,.ax 20 1 2 19,.lx 21 20 19,.vx 22 .geq 21 15 19,.o 23 19 22]) (.i 23 (.g [.c 4 2] (.ret [4])) .skip)) (.g [.c 4 0] (.ret [4])))))⟩:=by kernel_rfl
theorem F56:compF Tryz.prog 56=some ⟨21,[.tmp 2],(.g [.q 1 127 0,.c 2 0] (.z [1] (.join [] (.join [20] (.reg [.a 3 0 1,.l 4 3,.v 5 .lss 4 1,.m 6 5,.ax 7 0 1 6,.lx 8 7 6,.vx 9 .gtr 8 999 6,.o 10 6 9,.m 11 10,.ax 12 1 1 11,.lx 13 12 11,.vx 14 .lss 13 0 11,.o 15 11 14,.m 16 15,.ax 17 1 1 16,.lx 18 17 16,.vx 19 .geq 18 15 16,.o 20 16 19]) (.i 20 (.g [.c 2 2] (.ret [2])) .skip)) (.g [.c 2 0] (.ret [2])))))⟩:=by kernel_rfl
theorem F169:compF Tryz.prog 169=some ⟨20,[.tmp 4],(.g [.q 2 127 0,.q 3 127 1,.c 4 0] (.z [2,3] (.join [2,3] (.g [.a 5 0 2,.l 6 5,.a 7 0 3,.l 8 7,.b 9 .neq 6 8] (.i 9 (.g [.a 10 0 2,.l 11 10,.a 12 0 3,.l 13 12,.b 14 .sub 11 13,.m 4 14] (.ret [4])) .skip)) (.g [.a 15 1 2,.l 16 15,.a 17 1 3,.l 18 17,.b 19 .sub 16 18,.m 4 19] (.ret [4])))))⟩:=by kernel_rfl
theorem F58:compF Tryz.prog 58=some ⟨24,[.tmp 4],(.g [.q 2 127 0,.q 3 127 1,.k 4 false] (.z [2,3] (.join [4] (.reg [.a 5 0 2,.l 6 5,.a 7 0 3,.l 8 7,.b 9 .lss 6 8,.m 10 9,.ax 11 0 2 10,.lx 12 11 10,.ax 13 0 3 10,.lx 14 13 10,.bx 15 .eql 12 14 10,.mx 16 15 10,.ay 17 1 2 16,.ly 18 17 16,.ay 19 1 3 16,.ly 20 19 16,.by' 21 .lss 18 20 16,.x 22 (.pick (.t 16) (.t 21) (.c (.bool false))) 10,.o 23 10 22,.m 4 23]) (.ret [4]))))⟩:=by kernel_rfl
theorem F166:compF Tryz.prog 166=some ⟨31,[.tmp 2],(.g [.q 1 129 0,.c 2 0] (.z [1] (.join [] (.block 0 (.join [1,3] (.reg [.a 4 0 1,.l 5 4,.v 6 .eql 5 0,.m 7 6,.ay 8 1 1 7,.ly 9 8 7,.y 10 (.f 229 [.t 9]) 7,.e 11 7 10,.m 3 11]) (.i 3 (.g [.c 2 0] (.ret [2])) (.join [12] (.reg [.a 13 0 1,.l 14 13,.v 15 .geq 14 (-1),.m 16 15,.ay 17 0 1 16,.ly 18 17 16,.vy 19 .neq 18 0 16,.e 20 16 19,.m 21 20,.ay 22 0 1 21,.ly 23 22 21,.vy 24 .leq 23 1048576 21,.e 25 21 24,.m 26 25,.ay 27 1 1 26,.ly 28 27 26,.vy 29 .eql 28 0 26,.e 30 26 29,.m 12 30]) (.i 12 (.g [.c 2 0] (.ret [2])) .skip))))) (.g [.c 2 2] (.ret [2])))))⟩:=by kernel_rfl
theorem F57:compF Tryz.prog 57=some ⟨31,[.tmp 2],(.g [.q 1 129 0,.c 2 0] (.z [1] (.join [] (.join [30] (.reg [.a 3 0 1,.l 4 3,.v 5 .eql 4 0,.m 6 5,.ay 7 1 1 6,.ly 8 7 6,.y 9 (.f 102 [.t 8]) 6,.e 10 6 9,.m 11 10,.ax 12 0 1 11,.lx 13 12 11,.vx 14 .geq 13 (-1) 11,.mx 15 14 11,.ay 16 0 1 15,.ly 17 16 15,.vy 18 .leq 17 1048576 15,.x 19 (.pick (.t 15) (.t 18) (.c (.bool false))) 11,.mx 20 19 11,.ay 21 0 1 20,.ly 22 21 20,.vy 23 .neq 22 0 20,.x 24 (.pick (.t 20) (.t 23) (.c (.bool false))) 11,.mx 25 24 11,.ay 26 1 1 25,.ly 27 26 25,.vy 28 .eql 27 0 25,.x 29 (.pick (.t 25) (.t 28) (.c (.bool false))) 11,.o 30 11 29]) (.i 30 (.g [.c 2 0] (.ret [2])) .skip)) (.g [.c 2 2] (.ret [2])))))⟩:=by kernel_rfl
theorem F102:compF Tryz.prog 102=some ⟨9,[.tmp 2],(.g [.k 2 false] (.join [2] (.reg [.m 3 0,.v 4 .geq 3 0,.m 5 4,.my 6 0 5,.vy 7 .leq 6 65535 5,.e 8 5 7,.m 2 8]) (.ret [2])))⟩:=by kernel_rfl
theorem F229:compF Tryz.prog 229=some ⟨9,[.tmp 2],(.g [.k 2 false] (.join [2] (.reg [.m 3 0,.v 4 .geq 3 0,.m 5 4,.my 6 0 5,.vy 7 .leq 6 65535 5,.e 8 5 7,.m 2 8]) (.ret [2])))⟩:=by kernel_rfl
end Go.Proofs.YteggomljbalaaaaGreatDoor

namespace Go.Proofs.YteggomljbalaaaaGreatDoor
open Go.Sha
set_option maxRecDepth 10000
variable {g:List (Nat×Obj)}{n:Nat}
def prmC (c:Int)(x:Prm):Int:=if x.chan<c∨999<x.chan∨x.attr<0∨15≤x.attr then 2 else 0
theorem f56 {x:Prm}{st:St}:run Tryz.prog HH 56 [x.v] st=some (.ret (.int .i64 (prmC 1 x)),st):=by
 rw[run_shut F56 rfl rfl (by simp)]
 push_cast[Prm.v,prmC]
 all_goals first|with_reducible rfl|exact dn_eq (by omega) (by with_reducible rfl)|((repeat' split)<;>(try simp_all)<;>(try (with_reducible refine dn_eq ?_ ?_<;>first|trivial|omega|rfl))<;>(try omega))
theorem f165 {x:Prm}{c:Int}{st:St}:run Tryz.prog HH 165 [x.v,.int .i64 c] st=some (.ret (.int .i64 (prmC c x)),st):=by
 rw[run_shut F165 rfl rfl (by simp)]
 push_cast[Prm.v,prmC]
 all_goals first|with_reducible rfl|exact dn_eq (by omega) (by with_reducible rfl)|((repeat' split)<;>(try simp_all)<;>(try (with_reducible refine dn_eq ?_ ?_<;>first|trivial|omega|rfl))<;>(try omega))
def cmpP (x y:Prm):Int:=if ¬x.chan=y.chan then IntKind.i64.wrap (x.chan-y.chan) else IntKind.i64.wrap (x.attr-y.attr)
theorem f169 {x y:Prm}{st:St}:run Tryz.prog HH 169 [x.v,y.v] st=some (.ret (.int .i64 (cmpP x y)),st):=by
 rw[run_shut F169 rfl rfl (by simp)]
 push_cast[Prm.v,cmpP]
 all_goals first|with_reducible rfl|exact dn_eq (by omega) (by with_reducible rfl)|((repeat' split)<;>(try simp_all)<;>(try (with_reducible refine dn_eq ?_ ?_<;>first|trivial|omega|rfl))<;>(try omega))
def befP (x y:Prm):Bool:=decide (x.chan<y.chan)||decide (x.chan=y.chan)&&decide (x.attr<y.attr)
theorem f58 {x y:Prm}{st:St}:run Tryz.prog HH 58 [x.v,y.v] st=some (.ret (.bool (befP x y)),st):=by
 rw[run_shut F58 rfl rfl (by simp)]
 push_cast[Prm.v,befP]
 all_goals first|with_reducible rfl|exact dn_eq (by omega) (by with_reducible rfl)|((repeat' split)<;>(try simp_all)<;>(try (with_reducible refine dn_eq ?_ ?_<;>first|trivial|omega|rfl))<;>(try omega))
theorem p56 {a b:Int}{st:St}:run Tryz.prog HH 56 [.agg [.int .i64 a,.int .i64 b]] st=some (.ret (.int .i64 (prmC 1 ⟨a,b⟩)),st):=f56 (x:=⟨a,b⟩)
theorem p58 {a b c d:Int}{st:St}:run Tryz.prog HH 58 [.agg [.int .i64 a,.int .i64 b],.agg [.int .i64 c,.int .i64 d]] st=some (.ret (.bool (befP ⟨a,b⟩ ⟨c,d⟩)),st):=f58 (x:=⟨a,b⟩) (y:=⟨c,d⟩)
abbrev Hue.p (x:Hue):Prm:=⟨x.chan,x.attr⟩
theorem f229 {v:Int}{st:St}:run Tryz.prog HH 229 [.int .i64 v] st=some (.ret (.bool (decide (lvl v))),st):=by
 rw[run_shut F229 rfl rfl (by simp)]
 push_cast
 all_goals first|with_reducible rfl|exact dn_eq (by omega) (by with_reducible rfl)|((repeat' split)<;>(try simp_all)<;>(try (with_reducible refine dn_eq ?_ ?_<;>first|trivial|omega|rfl))<;>(try omega))
theorem f102 {v:Int}{st:St}:run Tryz.prog HH 102 [.int .i64 v] st=some (.ret (.bool (decide (lvl v))),st):=by
 rw[run_shut F102 rfl rfl (by simp)]
 push_cast
 all_goals first|with_reducible rfl|exact dn_eq (by omega) (by with_reducible rfl)|((repeat' split)<;>(try simp_all)<;>(try (with_reducible refine dn_eq ?_ ?_<;>first|trivial|omega|rfl))<;>(try omega))
def valC (x:Val):Int:=if x.pal=0∧lvl x.lev∨-1≤x.pal∧¬x.pal=0∧x.pal≤1048576∧x.lev=0 then 0 else 2
theorem f166 {x:Val}{st:St}:run Tryz.prog HH 166 [x.v] st=some (.ret (.int .i64 (valC x)),st):=by
 rw[run_shut F166 rfl rfl (by simp)]
 push_cast[Val.v,valC,f229]
 by_cases h1:x.pal=0<;>by_cases h2:lvl x.lev<;>simp[h1,h2]
theorem f57 {x:Val}{st:St}:run Tryz.prog HH 57 [x.v] st=some (.ret (.int .i64 (valC x)),st):=by
 rw[run_shut F57 rfl rfl (by simp)]
 push_cast[Val.v,valC,f102]
 by_cases h1:x.pal=0<;>by_cases h2:lvl x.lev<;>simp[h1,h2,and_left_comm]
theorem p57 {a b:Int}{st:St}:run Tryz.prog HH 57 [.agg [.int .i64 a,.int .i64 b]] st=some (.ret (.int .i64 (valC ⟨a,b⟩)),st):=f57 (x:=⟨a,b⟩)
end Go.Proofs.YteggomljbalaaaaGreatDoor

namespace Go.Proofs.YteggomljbalaaaaGreatDoor
open Go.Sha
set_option maxRecDepth 10000
theorem F33:compF Tryz.prog 33=some ⟨21,[.tmp 2],(.g [.k 2 false] (.join [2] (.reg [.m 3 0,.v 4 .geq 3 0,.m 5 4,.my 6 0 5,.vy 7 .leq 6 9 5,.e 8 5 7,.m 9 8,.mx 10 0 9,.vx 11 .eql 10 14 9,.o 12 9 11,.m 13 12,.mx 14 0 13,.vx 15 .eql 14 15 13,.o 16 13 15,.m 17 16,.mx 18 0 17,.vx 19 .eql 18 16 17,.o 20 17 19,.m 2 20]) (.ret [2])))⟩:=by kernel_rfl
theorem F35:compF Tryz.prog 35=some ⟨25,[.tmp 2],(.g [.k 2 false] (.join [2] (.reg [.m 3 0,.v 4 .eql 3 6,.m 5 4,.mx 6 0 5,.vx 7 .eql 6 7 5,.o 8 5 7,.m 9 8,.mx 10 0 9,.vx 11 .eql 10 9 9,.o 12 9 11,.m 13 12,.mx 14 0 13,.vx 15 .eql 14 10 13,.o 16 13 15,.m 17 16,.mx 18 0 17,.vx 19 .eql 18 11 17,.o 20 17 19,.m 21 20,.mx 22 0 21,.vx 23 .eql 22 15 21,.o 24 21 23,.m 2 24]) (.ret [2])))⟩:=by kernel_rfl
theorem F36:compF Tryz.prog 36=some ⟨23,[.tmp 4],(.g [.c 4 0] (.g [.c 5 0,.c 6 65535] (.join [0,1,5,6] (.join [0,1,5,6,12] (.reg [.m 7 0,.v 8 .eql 7 6,.m 9 8,.mx 10 0 9,.vx 11 .eql 10 15 9,.o 12 9 11]) (.i 12 (.reg [.c 5 1,.c 6 400]) .skip)) (.join [1,5,6] (.g [.m 13 0,.v 14 .eql 13 11] (.i 14 (.reg [.c 6 1]) .skip)) (.join [] (.join [22] (.reg [.m 15 1,.m 16 5,.b 17 .lss 15 16,.m 18 17,.mx 19 1 18,.mx 20 6 18,.bx 21 .gtr 19 20 18,.o 22 18 21]) (.i 22 (.g [.c 4 2] (.ret [4])) .skip)) (.g [.c 4 0] (.ret [4])))))))⟩:=by kernel_rfl
theorem F37:compF Tryz.prog 37=some ⟨21,[.tmp 2],(.g [.k 2 false] (.join [2] (.reg [.m 3 0,.v 4 .eql 3 7,.m 5 4,.mx 6 0 5,.vx 7 .eql 6 8 5,.o 8 5 7,.m 9 8,.mx 10 0 9,.vx 11 .eql 10 9 9,.o 12 9 11,.m 13 12,.mx 14 0 13,.vx 15 .eql 14 10 13,.o 16 13 15,.m 17 16,.mx 18 0 17,.vx 19 .eql 18 12 17,.o 20 17 19,.m 2 20]) (.ret [2])))⟩:=by kernel_rfl
def B38_0:Cd:=(.join [0,3] (.g [.m 9 3,.m 10 0,.u 11 10,.b 12 .lss 9 11] (.i 12 .skip (.exit [] 0))) (.join [0,3] (.block 1 (.join [0,3] (.g [.m 15 0,.m 16 3,.r 17 4 15 16,.a 18 0 17,.d 19 2 18,.f 20 56 19,.m 4 20] (.g [.m 21 4,.v 22 .neq 21 0] (.i 22 (.g [.m 23 4,.m 2 23] (.ret [2])) .skip))) (.join [0,3] (.g [.m 24 0,.m 25 3,.r 26 4 24 25,.a 27 2 26,.d 28 2 27,.f 29 57 28,.m 5 29] (.g [.m 30 5,.v 31 .neq 30 0] (.i 31 (.g [.m 32 5,.m 2 32] (.ret [2])) .skip))) (.join [0,3,49] (.dreg 17 [.m 33 3,.v 34 .gtr 33 0,.m 35 34,.my 36 0 35,.my 37 3 35,.vy 38 .sub 37 1 35,.ry 39 4 36 38 35,.ay 40 0 39 35,.y 41 (.load (some 2) (.t 40)) 35,.my 42 0 35,.my 43 3 35,.ry 44 4 42 43 35,.ay 45 0 44 35,.y 46 (.load (some 2) (.t 45)) 35,.y 47 (.f 58 [.t 41,.t 46]) 35,.y 48 (.un .not (.t 47)) 35,.e 49 35 48]) (.i 49 (.g [.c 2 9] (.ret [2])) .skip))))) (.reg [.m 13 3,.v 14 .add 13 1,.m 3 14])))
theorem F38:compF Tryz.prog 38=some ⟨50,[.tmp 2],(.g [.c 2 0] (.join [0] (.g [.m 6 0,.u 7 6,.v 8 .gtr 7 4096] (.i 8 (.g [.c 2 5] (.ret [2])) .skip)) (.join [] (.g [.c 3 0] (.block 0 (.loop [0,3] [] B38_0))) (.g [.c 2 0] (.ret [2])))))⟩:=by kernel_rfl
def B39_0:Cd:=(.join [0,3] (.g [.m 8 3,.m 9 0,.u 10 9,.b 11 .lss 8 10] (.i 11 .skip (.exit [] 0))) (.join [0,3] (.block 1 (.join [0,3] (.g [.m 14 0,.m 15 3,.r 16 2 14 15,.d 17 2 16,.f 18 56 17,.m 4 18] (.g [.m 19 4,.v 20 .neq 19 0] (.i 20 (.g [.m 21 4,.m 2 21] (.ret [2])) .skip))) (.join [0,3,36] (.dreg 15 [.m 22 3,.v 23 .gtr 22 0,.m 24 23,.my 25 0 24,.my 26 3 24,.vy 27 .sub 26 1 24,.ry 28 2 25 27 24,.y 29 (.load (some 2) (.t 28)) 24,.my 30 0 24,.my 31 3 24,.ry 32 2 30 31 24,.y 33 (.load (some 2) (.t 32)) 24,.y 34 (.f 58 [.t 29,.t 33]) 24,.y 35 (.un .not (.t 34)) 24,.e 36 24 35]) (.i 36 (.g [.c 2 9] (.ret [2])) .skip)))) (.reg [.m 12 3,.v 13 .add 12 1,.m 3 13])))
theorem F39:compF Tryz.prog 39=some ⟨37,[.tmp 2],(.g [.c 2 0] (.join [0] (.g [.m 5 0,.u 6 5,.v 7 .gtr 6 4096] (.i 7 (.g [.c 2 5] (.ret [2])) .skip)) (.join [] (.g [.c 3 0] (.block 0 (.loop [0,3] [] B39_0))) (.g [.c 2 0] (.ret [2])))))⟩:=by kernel_rfl
def B40_0:Cd:=(.join [0,3,4] (.g [.m 29 4,.m 30 3,.b 31 .lss 29 30] (.i 31 .skip (.exit [0,3] 2))) (.join [0,3,4] (.block 3 (.q (.dreg 9 [.m 34 0,.m 35 4,.r 36 1 34 35,.l 37 36,.m 38 0,.m 39 3,.r 40 1 38 39,.l 41 40,.b 42 .eql 37 41]) (.i 42 (.g [.c 2 7] (.ret [2])) .skip))) (.reg [.m 32 4,.v 33 .add 32 1,.m 4 33])))
def B40_1:Cd:=(.join [0,3] (.g [.m 11 3,.m 12 0,.u 13 12,.b 14 .lss 11 13] (.i 14 .skip (.exit [] 0))) (.join [0,3] (.block 1 (.join [0,3] (.join [0,3,28] (.reg [.m 17 0,.m 18 3,.r 19 1 17 18,.l 20 19,.v 21 .lss 20 1,.m 22 21,.mx 23 0 22,.mx 24 3 22,.x 25 (.iadr 1 (.t 23) (.t 24)) 22,.lx 26 25 22,.vx 27 .gtr 26 999 22,.o 28 22 27]) (.i 28 (.g [.c 2 2] (.ret [2])) .skip)) (.g [.c 4 0] (.block 2 (.loop [0,3,4] [] B40_0))))) (.reg [.m 15 3,.v 16 .add 15 1,.m 3 16])))
theorem F40:compF Tryz.prog 40=some ⟨43,[.tmp 2],(.g [.c 2 0] (.join [0] (.g [.m 5 0,.u 6 5,.v 7 .eql 6 0] (.i 7 (.g [.c 2 12] (.ret [2])) .skip)) (.join [0] (.g [.m 8 0,.u 9 8,.v 10 .gtr 9 256] (.i 10 (.g [.c 2 5] (.ret [2])) .skip)) (.join [] (.g [.c 3 0] (.block 0 (.loop [0,3] [] B40_1))) (.g [.c 2 0] (.ret [2]))))))⟩:=by kernel_rfl
theorem F41:compF Tryz.prog 41=some ⟨58,[.tmp 2],(.g [.q 1 44 0,.c 2 0] (.z [1] (.join [1] (.join [1,10] (.reg [.a 3 0 1,.l 4 3,.v 5 .lss 4 0,.m 6 5,.ax 7 0 1 6,.lx 8 7 6,.vx 9 .gtr 8 13 6,.o 10 6 9]) (.i 10 (.g [.c 2 1] (.ret [2])) .skip)) (.join [1] (.join [1,39] (.reg [.a 11 0 1,.l 12 11,.f 13 59 12,.z 14 13,.m 15 14,.ay 16 1 1 15,.ly 17 16 15,.vy 18 .neq 17 0 15,.e 19 15 18,.m 20 19,.ax 21 0 1 20,.lx 22 21 20,.vx 23 .neq 22 12 20,.mx 24 23 20,.ay 25 2 1 24,.ly 26 25 24,.vy 27 .neq 26 0 24,.x 28 (.pick (.t 24) (.t 27) (.c (.bool false))) 20,.o 29 20 28,.m 30 29,.ax 31 0 1 30,.lx 32 31 30,.vx 33 .neq 32 2 30,.mx 34 33 30,.ay 35 3 1 34,.ly 36 35 34,.vy 37 .neq 36 0 34,.x 38 (.pick (.t 34) (.t 37) (.c (.bool false))) 30,.o 39 30 38]) (.i 39 (.g [.c 2 3] (.ret [2])) .skip)) (.join [] (.join [57] (.reg [.a 40 0 1,.l 41 40,.v 42 .neq 41 1,.m 43 42,.ay 44 0 1 43,.ly 45 44 43,.vy 46 .neq 45 13 43,.e 47 43 46,.m 48 47,.ay 49 4 1 48,.ly 50 49 48,.y 51 (.bin .neq (.t 50) (.w [])) 48,.e 52 48 51,.m 53 52,.x 54 (.load (some 35) (.t 1)) 53,.x 55 (.f 60 [.t 54]) 53,.x 56 (.un .not (.t 55)) 53,.o 57 53 56]) (.i 57 (.g [.c 2 3] (.ret [2])) .skip)) (.g [.c 2 0] (.ret [2])))))))⟩:=by kernel_rfl
theorem F42:compF Tryz.prog 42=some ⟨81,[.tmp 4],(.g [.q 2 44 0,.q 3 44 1,.k 4 false] (.z [2,3] (.join [2,3] (.join [2,3,45] (.reg [.a 5 0 2,.l 6 5,.a 7 0 3,.l 8 7,.b 9 .neq 6 8,.m 10 9,.ax 11 1 2 10,.lx 12 11 10,.ax 13 1 3 10,.lx 14 13 10,.bx 15 .neq 12 14 10,.o 16 10 15,.m 17 16,.ax 18 2 2 17,.lx 19 18 17,.ax 20 2 3 17,.lx 21 20 17,.bx 22 .neq 19 21 17,.o 23 17 22,.m 24 23,.ax 25 3 2 24,.lx 26 25 24,.ax 27 3 3 24,.lx 28 27 24,.bx 29 .neq 26 28 24,.o 30 24 29,.m 31 30,.ax 32 4 2 31,.lx 33 32 31,.ax 34 4 3 31,.lx 35 34 31,.bx 36 .neq 33 35 31,.o 37 31 36,.m 38 37,.ax 39 5 2 38,.x 40 (.load (some 9) (.t 39)) 38,.ax 41 5 3 38,.x 42 (.load (some 9) (.t 41)) 38,.x 43 (.f 61 [.t 40,.t 42]) 38,.x 44 (.un .not (.t 43)) 38,.o 45 38 44]) (.i 45 (.g [.k 4 false] (.ret [4])) .skip)) (.join [4] (.reg [.a 46 14 2,.d 47 2 46,.s 48 (.bslice 32 2 [.t 47]),.a 49 14 3,.d 50 2 49,.s 51 (.bslice 32 2 [.t 50]),.g' 52 62 48 51,.m 53 52,.ay 54 16 2 53,.y 55 (.load (some 2) (.t 54)) 53,.ay 56 16 3 53,.y 57 (.load (some 2) (.t 56)) 53,.y 58 (.f 63 [.t 55,.t 57]) 53,.e 59 53 58,.m 60 59,.ay 61 18 2 60,.y 62 (.load (some 4) (.t 61)) 60,.ay 63 18 3 60,.y 64 (.load (some 4) (.t 63)) 60,.y 65 (.f 64 [.t 62,.t 64]) 60,.e 66 60 65,.m 67 66,.ay 68 22 2 67,.y 69 (.load (some 6) (.t 68)) 67,.ay 70 22 3 67,.y 71 (.load (some 6) (.t 70)) 67,.y 72 (.f 65 [.t 69,.t 71]) 67,.e 73 67 72,.m 74 73,.ay 75 28 2 74,.y 76 (.load (some 7) (.t 75)) 74,.ay 77 28 3 74,.y 78 (.load (some 7) (.t 77)) 74,.y 79 (.eqs false [.i,.i,.s,.i,.i,.i,.s] (.t 76) (.t 78)) 74,.e 80 74 79,.m 4 80]) (.ret [4])))))⟩:=by kernel_rfl
theorem F43:compF Tryz.prog 43=some ⟨38,[.cell 0 (some 20)],(.g [.s 0 (.alloc 104 [.i 0,.i 0,.i 0,.i 0,.i 0,.i 0,.i 0,.i 0,.i 0,.i 0,.i 0,.i 0,.i 0,.i 0,.i 0,.i 0,.i 0,.i 0,.i 0,.i 0])] (.g [.s 1 (.bslice 3 1 [.i 0]),.f 2 66 1,.s 3 (.bslice 3 1 [.i 0,.i 1]),.f 4 66 3,.s 5 (.bslice 3 1 [.i 0]),.f 6 66 5,.s 7 (.bslice 3 1 [.i 0]),.f 8 66 7,.s 9 (.bslice 3 1 [.i 0]),.f 10 66 9,.s 11 (.bslice 3 1 [.i 0]),.f 12 66 11,.s 13 (.bslice 3 1 [.i 0,.i 2]),.f 14 66 13,.s 15 (.bslice 3 1 [.i 0,.i 2,.i 3]),.f 16 66 15,.s 17 (.bslice 3 1 [.i 0,.i 3]),.f 18 66 17,.s 19 (.bslice 3 1 [.i 0,.i 2,.i 3]),.f 20 66 19,.s 21 (.bslice 3 1 [.i 2,.i 3]),.f 22 66 21,.s 23 (.bslice 3 1 [.i 2]),.f 24 66 23,.s 25 (.bslice 3 1 [.i 3,.i 4]),.f 26 66 25,.s 27 (.bslice 3 1 [.i 5]),.f 28 66 27,.s 29 (.bslice 3 1 [.i 0,.i 6]),.f 30 66 29,.s 31 (.bslice 3 1 [.i 0,.i 2]),.f 32 66 31,.s 33 (.bslice 3 1 [.i 0]),.f 34 66 33,.s 35 (.bslice 3 1 [.i 7]),.f 36 66 35,.s 37 (.build [.i 0,.i 0,.i 0,.i 0,.i 0,.i 0,.i 0,.i 0,.i 0,.i 0,.i 0,.i 0,.i 0,.i 0,.i 0,.i 0,.i 0,.i 0,.i 0,.i 0] [(0,1,(.t 2)),(1,1,(.t 4)),(2,1,(.t 6)),(3,1,(.t 8)),(4,1,(.t 10)),(5,1,(.t 12)),(6,1,(.t 14)),(7,1,(.t 16)),(8,1,(.t 18)),(9,1,(.t 20)),(10,1,(.t 22)),(11,1,(.t 24)),(12,1,(.t 26)),(13,1,(.t 28)),(14,1,(.t 30)),(15,1,(.t 32)),(16,1,(.t 34)),(17,1,(.t 36))]),.w 20 0 37] (.ret [0])))⟩:=by kernel_rfl
theorem F44:compF Tryz.prog 44=some ⟨15,[.tmp 6],(.g [.c 6 0] (.join [] (.join [14] (.reg [.m 7 0,.m 8 1,.b 9 .lss 7 8,.m 10 9,.mx 11 0 10,.mx 12 2 10,.bx 13 .gtr 11 12 10,.o 14 10 13]) (.i 14 (.g [.c 6 2] (.ret [6])) .skip)) (.g [.c 6 0] (.ret [6]))))⟩:=by kernel_rfl
theorem F45:compF Tryz.prog 45=some ⟨10,[.cell 0 (some 16)],(.g [.s 0 (.alloc 109 [.nilf,.nilf,.nilf,.nilf,.nilf,.nilf,.nilf,.nilf,.nilf,.nilf,.nilf,.nilf,.nilf,.nilf,.nilf,.nilf])] (.g [.s 1 (.build [.nilf,.nilf] [(0,1,(.c (.fn (.func 67) [] []))),(1,1,(.c (.fn (.func 68) [] [])))]),.s 2 (.build [.nilf,.nilf] [(0,1,(.c (.fn (.func 69) [] []))),(1,1,(.c (.fn (.func 71) [] [])))]),.s 3 (.build [.nilf,.nilf] [(0,1,(.c (.fn (.func 72) [] []))),(1,1,(.c (.fn (.func 73) [] [])))]),.s 4 (.build [.nilf,.nilf] [(0,1,(.c (.fn (.func 74) [] []))),(1,1,(.c (.fn (.func 75) [] [])))]),.s 5 (.build [.nilf,.nilf] [(0,1,(.c (.fn (.func 76) [] []))),(1,1,(.c (.fn (.func 77) [] [])))]),.s 6 (.build [.nilf,.nilf] [(0,1,(.c (.fn (.func 78) [] []))),(1,1,(.c (.fn (.func 79) [] [])))]),.s 7 (.build [.nilf,.nilf] [(0,1,(.c (.fn (.func 80) [] []))),(1,1,(.c (.fn (.func 81) [] [])))]),.s 8 (.build [.nilf,.nilf] [(0,1,(.c (.fn (.func 82) [] []))),(1,1,(.c (.fn (.func 84) [] [])))]),.s 9 (.build [.nilf,.nilf,.nilf,.nilf,.nilf,.nilf,.nilf,.nilf,.nilf,.nilf,.nilf,.nilf,.nilf,.nilf,.nilf,.nilf] [(0,2,(.t 1)),(2,2,(.t 2)),(4,2,(.t 3)),(6,2,(.t 4)),(8,2,(.t 5)),(10,2,(.t 6)),(12,2,(.t 7)),(14,2,(.t 8))]),.w 16 0 9] (.ret [0])))⟩:=by kernel_rfl
def B48_0:Cd:=(.g [.b 9 .lss 8 7] (.join [0,1,7,8] (.i 9 .skip (.exit [] 0)) (.join [0,1,7,8] (.block 1 (.g [.m 10 8,.m 5 10] (.g [.m 11 1,.m 12 0,.m 13 5,.r 14 44 12 13,.d 15 44 14,.s 16 (.call (.t 11) [.t 15])] (.i 16 (.g [.m 17 5,.m 4 17] (.ret [4])) .skip)))) (.reg [.v 18 .add 8 1,.m 8 18]))))
theorem F48:compF Tryz.prog 48=some ⟨19,[.tmp 4],(.g [.c 4 0] (.join [] (.g [.m 6 0,.u 7 6,.c 8 0] (.block 0 (.loop [0,1,7,8] [] B48_0))) (.g [.c 4 (-1)] (.ret [4]))))⟩:=by kernel_rfl
theorem F49:compF Tryz.prog 49=some ⟨8,[.tmp 3],(.g [.q 2 46 0,.k 3 false] (.z [2] (.g [.a 4 0 2,.l 5 4,.l 6 1,.b 7 .gtr 5 6,.m 3 7] (.ret [3]))))⟩:=by kernel_rfl
end Go.Proofs.YteggomljbalaaaaGreatDoor

namespace Go.Proofs.YteggomljbalaaaaGreatDoor
open Go.Sha
set_option maxRecDepth 10000
def B103_0:Cd:=(.join [0,1,5] (.g [.m 11 5,.m 12 0,.u 13 12,.b 14 .lss 11 13] (.i 14 .skip (.exit [] 0))) (.join [0,1,5] (.block 1 (.q (.dreg 9 [.m 17 0,.m 18 5,.r 19 5 17 18,.d 20 5 19,.m 21 1,.m 22 5,.r 23 5 21 22,.d 24 5 23,.s 25 (.eqs true [.i,.i,.i,.i,.i] (.t 20) (.t 24))]) (.i 25 (.g [.k 4 false] (.ret [4])) .skip))) (.reg [.m 15 5,.v 16 .add 15 1,.m 5 16])))
theorem F103:compF Tryz.prog 103=some ⟨26,[.tmp 4],(.g [.k 4 false] (.join [0,1] (.g [.m 6 0,.u 7 6,.m 8 1,.u 9 8,.b 10 .neq 7 9] (.i 10 (.g [.k 4 false] (.ret [4])) .skip)) (.join [] (.g [.c 5 0] (.block 0 (.loop [0,1,5] [] B103_0))) (.g [.k 4 true] (.ret [4])))))⟩:=by kernel_rfl
def B104_0:Cd:=(.join [0,1,5] (.g [.m 11 5,.m 12 0,.u 13 12,.b 14 .lss 11 13] (.i 14 .skip (.exit [] 0))) (.join [0,1,5] (.block 1 (.q (.dreg 9 [.m 17 0,.m 18 5,.r 19 1 17 18,.l 20 19,.m 21 1,.m 22 5,.r 23 1 21 22,.l 24 23,.b 25 .neq 20 24]) (.i 25 (.g [.k 4 false] (.ret [4])) .skip))) (.reg [.m 15 5,.v 16 .add 15 1,.m 5 16])))
theorem F104:compF Tryz.prog 104=some ⟨26,[.tmp 4],(.g [.k 4 false] (.join [0,1] (.g [.m 6 0,.u 7 6,.m 8 1,.u 9 8,.b 10 .neq 7 9] (.i 10 (.g [.k 4 false] (.ret [4])) .skip)) (.join [] (.g [.c 5 0] (.block 0 (.loop [0,1,5] [] B104_0))) (.g [.k 4 true] (.ret [4])))))⟩:=by kernel_rfl
def B105_0:Cd:=(.join [0,1,5] (.g [.m 11 5,.m 12 0,.u 13 12,.b 14 .lss 11 13] (.i 14 .skip (.exit [] 0))) (.join [0,1,5] (.block 1 (.q (.dreg 9 [.m 17 0,.m 18 5,.r 19 2 17 18,.d 20 2 19,.m 21 1,.m 22 5,.r 23 2 21 22,.d 24 2 23,.s 25 (.eqs true [.i,.i] (.t 20) (.t 24))]) (.i 25 (.g [.k 4 false] (.ret [4])) .skip))) (.reg [.m 15 5,.v 16 .add 15 1,.m 5 16])))
theorem F105:compF Tryz.prog 105=some ⟨26,[.tmp 4],(.g [.k 4 false] (.join [0,1] (.g [.m 6 0,.u 7 6,.m 8 1,.u 9 8,.b 10 .neq 7 9] (.i 10 (.g [.k 4 false] (.ret [4])) .skip)) (.join [] (.g [.c 5 0] (.block 0 (.loop [0,1,5] [] B105_0))) (.g [.k 4 true] (.ret [4])))))⟩:=by kernel_rfl
theorem F112:compF Tryz.prog 112=some ⟨7,[.tmp 2],(.g [.c 2 0] (.g [.s 3 (.mv (.c (.fn (.func 164) [] [])))] (.g [.m 4 0,.m 5 3,.s 6 (.f 167 [.t 4,.i 4096,.t 5,(.c (.fn (.func 168) [] []))]),.m 2 6] (.ret [2]))))⟩:=by kernel_rfl
theorem F113:compF Tryz.prog 113=some ⟨17,[.tmp 4],(.g [.q 2 127 0,.q 3 127 1,.c 4 0] (.z [2,3] (.join [4] (.greg [] [] [[],[],[],[],[],[],[],[],[],[],[false,false,false,false,false,false,false,false,false,false],[],[]] [.a 5 0 2,.l 6 5,.a 7 0 3,.l 8 7,.g' 9 171 6 8,.a 10 1 2,.l 11 10,.a 12 1 3,.l 13 12,.g' 14 171 11 13,.s 15 (.bslice 3 1 [.t 9,.t 14]),.f 16 170 15,.m 4 16]) (.ret [4]))))⟩:=by kernel_rfl
def B117_0:Cd:=(.g [.b 14 .lss 13 12] (.join [0,1,12,13] (.i 14 .skip (.exit [] 0)) (.join [0,1,12,13] (.block 1 (.g [.m 15 13,.m 5 15] (.q (.dreg 9 [.m 16 0,.m 17 5,.r 18 3 16 17,.d 19 3 18,.m 20 1,.m 21 5,.r 22 3 20 21,.d 23 3 22,.s 24 (.eqs true [.i,.i,.i] (.t 19) (.t 23))]) (.i 24 (.g [.k 4 false] (.ret [4])) .skip)))) (.reg [.v 25 .add 13 1,.m 13 25]))))
theorem F117:compF Tryz.prog 117=some ⟨26,[.tmp 4],(.g [.k 4 false] (.join [0,1] (.g [.m 6 0,.u 7 6,.m 8 1,.u 9 8,.b 10 .neq 7 9] (.i 10 (.g [.k 4 false] (.ret [4])) .skip)) (.join [] (.g [.m 11 0,.u 12 11,.c 13 0] (.block 0 (.loop [0,1,12,13] [] B117_0))) (.g [.k 4 true] (.ret [4])))))⟩:=by kernel_rfl
def B118_0:Cd:=(.g [.b 14 .lss 13 12] (.join [0,1,12,13] (.i 14 .skip (.exit [] 0)) (.join [0,1,12,13] (.block 1 (.g [.m 15 13,.m 5 15] (.q (.dreg 9 [.m 16 0,.m 17 5,.r 18 1 16 17,.l 19 18,.m 20 1,.m 21 5,.r 22 1 20 21,.l 23 22,.b 24 .neq 19 23]) (.i 24 (.g [.k 4 false] (.ret [4])) .skip)))) (.reg [.v 25 .add 13 1,.m 13 25]))))
theorem F118:compF Tryz.prog 118=some ⟨26,[.tmp 4],(.g [.k 4 false] (.join [0,1] (.g [.m 6 0,.u 7 6,.m 8 1,.u 9 8,.b 10 .neq 7 9] (.i 10 (.g [.k 4 false] (.ret [4])) .skip)) (.join [] (.g [.m 11 0,.u 12 11,.c 13 0] (.block 0 (.loop [0,1,12,13] [] B118_0))) (.g [.k 4 true] (.ret [4])))))⟩:=by kernel_rfl
def B119_0:Cd:=(.g [.b 14 .lss 13 12] (.join [0,1,12,13] (.i 14 .skip (.exit [] 0)) (.join [0,1,12,13] (.block 1 (.g [.m 15 13,.m 5 15] (.q (.dreg 9 [.m 16 0,.m 17 5,.r 18 3 16 17,.d 19 3 18,.m 20 1,.m 21 5,.r 22 3 20 21,.d 23 3 22,.s 24 (.eqs true [.i,.i,.i] (.t 19) (.t 23))]) (.i 24 (.g [.k 4 false] (.ret [4])) .skip)))) (.reg [.v 25 .add 13 1,.m 13 25]))))
theorem F119:compF Tryz.prog 119=some ⟨26,[.tmp 4],(.g [.k 4 false] (.join [0,1] (.g [.m 6 0,.u 7 6,.m 8 1,.u 9 8,.b 10 .neq 7 9] (.i 10 (.g [.k 4 false] (.ret [4])) .skip)) (.join [] (.g [.m 11 0,.u 12 11,.c 13 0] (.block 0 (.loop [0,1,12,13] [] B119_0))) (.g [.k 4 true] (.ret [4])))))⟩:=by kernel_rfl
def B120_0:Cd:=(.g [.b 14 .lss 13 12] (.join [0,1,12,13] (.i 14 .skip (.exit [] 0)) (.join [0,1,12,13] (.block 1 (.g [.m 15 13,.m 5 15] (.q (.dreg 9 [.m 16 0,.m 17 5,.r 18 2 16 17,.d 19 2 18,.m 20 1,.m 21 5,.r 22 2 20 21,.d 23 2 22,.s 24 (.eqs true [.i,.i] (.t 19) (.t 23))]) (.i 24 (.g [.k 4 false] (.ret [4])) .skip)))) (.reg [.v 25 .add 13 1,.m 13 25]))))
theorem F120:compF Tryz.prog 120=some ⟨26,[.tmp 4],(.g [.k 4 false] (.join [0,1] (.g [.m 6 0,.u 7 6,.m 8 1,.u 9 8,.b 10 .neq 7 9] (.i 10 (.g [.k 4 false] (.ret [4])) .skip)) (.join [] (.g [.m 11 0,.u 12 11,.c 13 0] (.block 0 (.loop [0,1,12,13] [] B120_0))) (.g [.k 4 true] (.ret [4])))))⟩:=by kernel_rfl
theorem F164:compF Tryz.prog 164=some ⟨13,[.tmp 2],(.g [.q 1 131 0,.c 2 0] (.z [1] (.join [1] (.g [.a 4 0 1,.d 5 2 4,.s 6 (.f 165 [.t 5,.i 1]),.m 3 6] (.g [.m 7 3,.v 8 .neq 7 0] (.i 8 (.g [.m 9 3,.m 2 9] (.ret [2])) .skip))) (.g [.a 10 2 1,.d 11 2 10,.f 12 166 11,.m 2 12] (.ret [2])))))⟩:=by kernel_rfl
theorem F168:compF Tryz.prog 168=some ⟨10,[.tmp 4],(.g [.q 2 131 0,.q 3 131 1,.c 4 0] (.z [2,3] (.g [.a 5 0 2,.d 6 2 5,.a 7 0 3,.d 8 2 7,.g' 9 169 6 8,.m 4 9] (.ret [4]))))⟩:=by kernel_rfl
def B170_0:Cd:=(.g [.b 9 .lss 8 7] (.join [3,6,7,8] (.i 9 .skip (.exit [3] 0)) (.join [3,6,7,8] (.block 1 (.g [.r 10 1 6 8,.l 11 10,.m 5 11] (.g [.m 12 5,.m 13 3,.b 14 .neq 12 13] (.i 14 (.g [.m 15 5,.m 2 15] (.ret [2])) .skip)))) (.reg [.v 16 .add 8 1,.m 8 16]))))
theorem F170:compF Tryz.prog 170=some ⟨18,[.tmp 2],(.g [.c 2 0] (.g [.c 3 0] (.join [3] (.g [.m 6 0,.u 7 6,.c 8 0] (.block 0 (.loop [3,6,7,8] [] B170_0))) (.g [.m 17 3,.m 2 17] (.ret [2])))))⟩:=by kernel_rfl
end Go.Proofs.YteggomljbalaaaaGreatDoor

namespace Go.Proofs.YteggomljbalaaaaGreatDoor
open Go.Sha
set_option maxRecDepth 10000
def B167_0:Cd:=(.g [.b 19 .lss 18 17] (.join [0,2,3,16,17,18] (.i 19 .skip (.exit [] 0)) (.join [0,2,3,16,17,18] (.block 1 (.g [.m 20 18,.r 21 4 16 18,.d 22 4 21,.s 10 (.alloc 131 [.i 0,.i 0,.i 0,.i 0]),.m 9 20,.w 4 10 22] (.z [10] (.join [0,2,3,9,10,16,17,18] (.g [.m 23 2,.d 24 4 10,.s 25 (.call (.t 23) [.t 24]),.m 11 25] (.g [.m 26 11,.v 27 .neq 26 0] (.i 27 (.g [.m 28 11,.m 8 28] (.ret [8])) .skip))) (.join [0,2,3,16,17,18,41] (.dreg 13 [.m 29 9,.v 30 .gtr 29 0,.m 31 30,.my 32 3 31,.my 33 0 31,.my 34 9 31,.vy 35 .sub 34 1 31,.ry 36 4 33 35 31,.y 37 (.load (some 4) (.t 36)) 31,.y 38 (.load (some 4) (.t 10)) 31,.y 39 (.call (.t 32) [.t 37,.t 38]) 31,.vy 40 .geq 39 0 31,.e 41 31 40]) (.i 41 (.g [.c 8 9] (.ret [8])) .skip)))))) (.reg [.v 42 .add 18 1,.m 18 42]))))
theorem F167:compF Tryz.prog 167=some ⟨43,[.tmp 8],(.g [.c 8 0] (.join [0,2,3] (.g [.m 12 0,.u 13 12,.m 14 1,.b 15 .gtr 13 14] (.i 15 (.g [.c 8 5] (.ret [8])) .skip)) (.join [] (.g [.m 16 0,.u 17 16,.c 18 0] (.block 0 (.loop [0,2,3,16,17,18] [] B167_0))) (.g [.c 8 0] (.ret [8])))))⟩:=by kernel_rfl
end Go.Proofs.YteggomljbalaaaaGreatDoor

namespace Go.Proofs.YteggomljbalaaaaGreatDoor
open Go.Sha
set_option maxRecDepth 100000
variable {g:List (Nat×Obj)}{n:Nat}
def entC (e:Ent):Int:=if ¬prmC 1 e.prm=0 then prmC 1 e.prm else valC e.val
theorem f164 {e:Ent}{st:St}:run Tryz.prog HH 164 [e.v] st=some (.ret (.int .i64 (entC e)),st):=by
 have h1:=fun(st:St)=>f165 (x:=e.prm) (c:=1) (st:=st)
 have h2:=fun(st:St)=>f166 (x:=e.val) (st:=st)
 unfold entC
 rw[run_shut F164 rfl rfl (by simp)]
 push_cast[Prm.v,Val.v]at h1 h2
 by_cases h:prmC 1 e.prm=0
 ·push_cast[Ent.v,Prm.v,Val.v,h1,h2,h]
 ·push_cast[Ent.v,Prm.v,Val.v,h1,h2,h]
theorem f168 {a b:Ent}{st:St}:run Tryz.prog HH 168 [a.v,b.v] st=some (.ret (.int .i64 (cmpP a.prm b.prm)),st):=by
 have h1:=fun(st:St)=>f169 (x:=a.prm) (y:=b.prm) (st:=st)
 rw[run_shut F168 rfl rfl (by simp)]
 push_cast[Prm.v]at h1
 push_cast[Ent.v,Prm.v,Val.v,h1]
def enP (l:List Ent):List Ent→Nat→Int
 |[],_=>0
 |e::r,j=>if ¬entC e=0 then entC e else if 0<j∧0≤cmpP (l.getD (j-1) default).prm e.prm then 9 else enP l r (j+1)
theorem L167 {l:List Ent}(hl:l.length<140737488355328):∀r j,l.drop j=r→runL Tryz.prog HH [0,2,3,16,17,18] n B167_0 [(0,.sl (l.map Ent.v)),(2,.fn (.func 164) [] []),(3,.fn (.func 168) [] []),(16,.sl (l.map Ent.v)),(17,.int .i64 l.length),(18,.int .i64 j)] (stN g n)=lpX 0 (stN g n) [] 8 (enP l r j):=by
 refine drop_ind (fun j h=>?_) (fun e r j h hx hd ih=>?_)
 all_goals rw[runL_of B167_0.eq_1]
 ·have h1:¬(j:Int)<l.length:=by omega
  push_cast[h1,enP,lps]
 ·have h1:(j:Int)<l.length:=by omega
  have hw:=iw1 (j:=j) (by omega)
  have h164:=fun(st:St)=>f164 (e:=e) (st:=st)
  rw[enP]
  by_cases hc:entC e=0
  ·rw[hc]at h164
   by_cases hj0:j=0
   ·subst hj0
    have e2:¬(¬entC e=0):=by simp[hc]
    have h1z:(0:Int)<(l.length:Int):=by omega
    rw[if_neg e2,if_neg (by omega)]
    push_cast[Ent.v]at h164
    push_cast[h,h1z,hw,hx,h164,Ent.v]at ih ⊢
    exact ih
   ·have e2:¬(¬entC e=0):=by simp[hc]
    rw[if_neg e2]
    obtain⟨p,hp⟩:∃p,p=j-1:=⟨_,rfl⟩
    rw[←hp]
    have hpl:p<l.length:=by omega
    have hp0:(0:Int)<(j:Int):=by omega
    have hp1:(j:Int)-1=(p:Int):=by omega
    have hwp:IntKind.i64.wrap (p:Int)=(p:Int):=iwrap (by omega) (by omega)
    have hg:∀d,l.getD p d=l.getD p default:=fun d=>by rw[List.getD_eq_getElem?_getD,List.getD_eq_getElem?_getD,List.getElem?_eq_getElem hpl];rfl
    generalize l.getD p default=y at *
    have h168:=fun(st:St)=>f168 (a:=y) (b:=e) (st:=st)
    by_cases hq:0≤cmpP y.prm e.prm
    ·rw[if_pos ⟨by omega,hq⟩]
     push_cast[Ent.v]at h164 h168
     push_cast[h,h1,hw,hx,h164,h168,hg,hpl,hp0,hp1,hwp,hq,lps,Ent.v]
     exact dn_eq (by omega) rfl
    ·rw[if_neg (fun h=>hq h.2)]
     push_cast[Ent.v]at h164 h168
     push_cast[h,h1,hw,hx,h164,h168,hg,hpl,hp0,hp1,hwp,hq,Ent.v]at ih ⊢
     exact dn_eq (by omega) ih
  ·rw[if_pos hc]
   generalize entC e=z at *
   push_cast[Ent.v]at h164
   push_cast[h1,hw,hx,h164,hc,lps,Ent.v]
def enS (l:List Ent):Int:=if 4096<(l.length:Int) then 5 else enP l l 0
theorem f112 {l:List Ent}(hl:l.length<140737488355328){st:St}:run Tryz.prog HH 112 [.sl (l.map Ent.v)] st=some (.ret (.int .i64 (enS l)),st):=by
 have h167:∀st:St,run Tryz.prog HH 167 [.sl (l.map Ent.v),.int .i64 4096,.fn (.func 164) [] [],.fn (.func 168) [] []] st=some (.ret (.int .i64 (enS l)),st):=fun st=>by
  have hL:=L167 (g:=st.x.gl) (n:=0) hl _ 0 rfl
  rw[List.drop_zero]at hL
  unfold enS
  rw[run_shut F167 rfl rfl (by simp)]
  by_cases h:4096<(l.length:Int)
  ·push_cast[h]
  ·rw[if_neg h]
   by_cases hz:enP l l 0=0
   ·rw[hz]at hL ⊢
    push_cast[lps]at hL
    push_cast[h,hL]
   ·push_cast[lps,hz]at hL
    push_cast[h,hL]
 rw[run_shut F112 rfl rfl (by simp)]
 push_cast[h167]
def enR (l:List Ent):List Ent→Nat→Int
 |[],_=>0
 |e::r,j=>if ¬prmC 1 e.prm=0 then prmC 1 e.prm else if ¬valC e.val=0 then valC e.val else if 0<j∧¬befP (l.getD (j-1) default).prm e.prm=true then 9 else enR l r (j+1)
theorem L38 {l:List Ent}(hl:l.length<140737488355328):∀r j,l.drop j=r→runL Tryz.prog HH [0,3] n B38_0 [(0,.sl (l.map Ent.v)),(3,.int .i64 j)] (stN g n)=lpE (stN g n) [] 2 (enR l r j):=by
 refine drop_ind (fun j h=>?_) (fun q r j h hx hd ih=>?_)
 all_goals rw[runL_of B38_0.eq_1]
 ·have h1:¬(j:Int)<l.length:=by omega
  push_cast[h1,enR,Ent.v]
 ·have h1:(j:Int)<l.length:=by omega
  have hw:=iw1 (j:=j) (by omega)
  push_cast[h1,hw,hx,Ent.v,p56,p57,p58,iwrap_pred (j:=j) (by omega)]at ih ⊢
  simp only[ih,enR,lps,Int.reduceEq,not_false_eq_true]
  all_goals first|with_reducible rfl|exact dn_eq (by omega) (by with_reducible rfl)|((repeat' split)<;>(try simp_all)<;>(try (with_reducible refine dn_eq ?_ ?_<;>first|trivial|omega|rfl))<;>(try omega))
def enRS (l:List Ent):Int:=if 4096<(l.length:Int) then 5 else enR l l 0
theorem f38 {l:List Ent}(hl:l.length<140737488355328){st:St}:run Tryz.prog HH 38 [.sl (l.map Ent.v)] st=some (.ret (.int .i64 (enRS l)),st):=by
 rw[run_shut F38 rfl rfl (by simp)]
 have hL0:=fun n=>L38 (g:=st.x.gl) (n:=n) hl _ 0 rfl
 push_cast[enRS]at hL0
 push_cast[enRS,hL0,lpE,lpX,lpI,lpB]
 all_goals first|with_reducible rfl|exact dn_eq (by omega) (by with_reducible rfl)|((repeat' split)<;>(try simp_all)<;>(try (with_reducible refine dn_eq ?_ ?_<;>first|trivial|omega|rfl))<;>(try omega))
end Go.Proofs.YteggomljbalaaaaGreatDoor

namespace Go.Proofs.YteggomljbalaaaaGreatDoor
open Go.Sha
set_option maxRecDepth 10000
theorem F59:compF Tryz.prog 59=some ⟨13,[.tmp 2],(.g [.k 2 false] (.join [] (.g [.m 3 0] (.block 0 (.join [4] (.g [.v 5 .eql 3 0,.m 4 5] (.i 4 .skip (.g [.v 6 .eql 3 1,.m 4 6] (.i 4 .skip (.g [.v 7 .eql 3 2,.m 4 7] (.i 4 .skip (.g [.v 8 .eql 3 4,.m 4 8] (.i 4 .skip (.g [.v 9 .eql 3 6,.m 4 9] (.i 4 .skip (.g [.v 10 .eql 3 8,.m 4 10] (.i 4 .skip (.g [.v 11 .eql 3 10,.m 4 11] (.i 4 .skip (.reg [.v 12 .eql 3 12,.m 4 12]))))))))))))))) (.i 4 (.g [.k 2 true] (.ret [2])) .skip)))) (.g [.k 2 false] (.ret [2]))))⟩:=by kernel_rfl
theorem F60:compF Tryz.prog 60=some ⟨74,[.tmp 2],(.g [.q 1 44 0,.k 2 false] (.z [1] (.join [1] (.join [1,12] (.reg [.a 3 0 1,.l 4 3,.v 5 .neq 4 0,.m 6 5,.ay 7 5 1 6,.y 8 (.load (some 9) (.t 7)) 6,.y 9 (.build [(.str []),(.str []),.nils,.nils,(.bool false),(.bool false),.i 0,(.str []),.i 0] []) 6,.y 10 (.f 61 [.t 8,.t 9]) 6,.y 11 (.un .not (.t 10)) 6,.e 12 6 11]) (.i 12 (.g [.k 2 false] (.ret [2])) .skip)) (.join [1] (.join [1,28] (.reg [.a 13 0 1,.l 14 13,.v 15 .neq 14 3,.m 16 15,.ay 17 14 1 16,.ay 18 0 17 16,.ly 19 18 16,.vy 20 .neq 19 0 16,.my 21 20 16,.ax 22 14 1 21,.ax 23 1 22 21,.lx 24 23 21,.x 25 (.len (.t 24)) 21,.vx 26 .gtr 25 0 21,.y 27 (.pick (.t 21) (.c (.bool true)) (.t 26)) 16,.e 28 16 27]) (.i 28 (.g [.k 2 false] (.ret [2])) .skip)) (.join [1] (.join [1,44] (.reg [.a 29 0 1,.l 30 29,.v 31 .neq 30 5,.m 32 31,.ay 33 16 1 32,.ay 34 0 33 32,.ly 35 34 32,.vy 36 .neq 35 0 32,.my 37 36 32,.ax 38 16 1 37,.ax 39 1 38 37,.lx 40 39 37,.x 41 (.len (.t 40)) 37,.vx 42 .gtr 41 0 37,.y 43 (.pick (.t 37) (.c (.bool true)) (.t 42)) 32,.e 44 32 43]) (.i 44 (.g [.k 2 false] (.ret [2])) .skip)) (.join [1] (.join [1,54] (.reg [.a 45 0 1,.l 46 45,.v 47 .neq 46 7,.m 48 47,.ay 49 18 1 48,.y 50 (.load (some 4) (.t 49)) 48,.y 51 (.build [.i 0,.i 0,(.bool false),.nils] []) 48,.y 52 (.f 64 [.t 50,.t 51]) 48,.y 53 (.un .not (.t 52)) 48,.e 54 48 53]) (.i 54 (.g [.k 2 false] (.ret [2])) .skip)) (.join [1] (.join [1,64] (.reg [.a 55 0 1,.l 56 55,.v 57 .neq 56 9,.m 58 57,.ay 59 22 1 58,.y 60 (.load (some 6) (.t 59)) 58,.y 61 (.build [.i 0,.i 0,.nils,.i 0,.i 0,.i 0] []) 58,.y 62 (.f 65 [.t 60,.t 61]) 58,.y 63 (.un .not (.t 62)) 58,.e 64 58 63]) (.i 64 (.g [.k 2 false] (.ret [2])) .skip)) (.join [2] (.reg [.a 65 0 1,.l 66 65,.v 67 .eql 66 11,.m 68 67,.ax 69 28 1 68,.x 70 (.load (some 7) (.t 69)) 68,.x 71 (.build [.i 0,.i 0,(.str []),.i 0,.i 0,.i 0,(.str [])] []) 68,.x 72 (.eqs false [.i,.i,.s,.i,.i,.i,.s] (.t 70) (.t 71)) 68,.o 73 68 72,.m 2 73]) (.ret [2])))))))))⟩:=by kernel_rfl
def B61_0:Cd:=(.join [2,3,5] (.g [.m 68 5,.a 69 3 2,.l 70 69,.u 71 70,.b 72 .lss 68 71] (.i 72 .skip (.exit [] 0))) (.join [2,3,5] (.block 1 (.q (.dreg 11 [.a 75 3 2,.l 76 75,.m 77 5,.r 78 6 76 77,.d 79 6 78,.a 80 3 3,.l 81 80,.m 82 5,.r 83 6 81 82,.d 84 6 83,.s 85 (.eqs true [.i,.i,.i,.i,.i,.i] (.t 79) (.t 84))]) (.i 85 (.g [.k 4 false] (.ret [4])) .skip))) (.reg [.m 73 5,.v 74 .add 73 1,.m 5 74])))
theorem F61:compF Tryz.prog 61=some ⟨86,[.tmp 4],(.g [.q 2 29 0,.q 3 29 1,.k 4 false] (.z [2,3] (.join [2,3] (.join [2,3,52] (.reg [.a 6 0 2,.l 7 6,.a 8 0 3,.l 9 8,.b 10 .neq 7 9,.m 11 10,.ax 12 1 2 11,.lx 13 12 11,.ax 14 1 3 11,.lx 15 14 11,.bx 16 .neq 13 15 11,.o 17 11 16,.m 18 17,.ax 19 4 2 18,.lx 20 19 18,.ax 21 4 3 18,.lx 22 21 18,.x 23 (.eqb true (.t 20) (.t 22)) 18,.o 24 18 23,.m 25 24,.ax 26 5 2 25,.lx 27 26 25,.ax 28 5 3 25,.lx 29 28 25,.x 30 (.eqb true (.t 27) (.t 29)) 25,.o 31 25 30,.m 32 31,.ax 33 6 2 32,.lx 34 33 32,.ax 35 6 3 32,.lx 36 35 32,.bx 37 .neq 34 36 32,.o 38 32 37,.m 39 38,.ax 40 7 2 39,.lx 41 40 39,.ax 42 7 3 39,.lx 43 42 39,.bx 44 .neq 41 43 39,.o 45 39 44,.m 46 45,.ax 47 8 2 46,.lx 48 47 46,.ax 49 8 3 46,.lx 50 49 46,.bx 51 .neq 48 50 46,.o 52 46 51]) (.i 52 (.g [.k 4 false] (.ret [4])) .skip)) (.join [2,3] (.join [2,3,67] (.reg [.a 53 2 2,.l 54 53,.a 55 2 3,.l 56 55,.g' 57 103 54 56,.z 58 57,.m 59 58,.ax 60 3 2 59,.lx 61 60 59,.x 62 (.len (.t 61)) 59,.ax 63 3 3 59,.lx 64 63 59,.x 65 (.len (.t 64)) 59,.bx 66 .neq 62 65 59,.o 67 59 66]) (.i 67 (.g [.k 4 false] (.ret [4])) .skip)) (.join [] (.g [.c 5 0] (.block 0 (.loop [2,3,5] [] B61_0))) (.g [.k 4 true] (.ret [4])))))))⟩:=by kernel_rfl
def B62_0:Cd:=(.join [0,1,5,6] (.g [.m 44 6,.m 45 0,.m 46 5,.r 47 2 45 46,.a 48 1 47,.l 49 48,.u 50 49,.b 51 .lss 44 50] (.i 51 .skip (.exit [0,1,5] 2))) (.join [0,1,5,6] (.block 3 (.q (.dreg 17 [.m 54 0,.m 55 5,.r 56 2 54 55,.a 57 1 56,.l 58 57,.m 59 6,.r 60 3 58 59,.d 61 3 60,.m 62 1,.m 63 5,.r 64 2 62 63,.a 65 1 64,.l 66 65,.m 67 6,.r 68 3 66 67,.d 69 3 68,.s 70 (.eqs true [.i,.i,.i] (.t 61) (.t 69))]) (.i 70 (.g [.k 4 false] (.ret [4])) .skip))) (.reg [.m 52 6,.v 53 .add 52 1,.m 6 53])))
def B62_1:Cd:=(.join [0,1,5] (.g [.m 12 5,.m 13 0,.u 14 13,.b 15 .lss 12 14] (.i 15 .skip (.exit [] 0))) (.join [0,1,5] (.block 1 (.join [0,1,5] (.join [0,1,5,43] (.dreg 26 [.m 18 0,.m 19 5,.r 20 2 18 19,.a 21 0 20,.l 22 21,.m 23 1,.m 24 5,.r 25 2 23 24,.a 26 0 25,.l 27 26,.b 28 .neq 22 27,.m 29 28,.mx 30 0 29,.mx 31 5 29,.x 32 (.iadr 2 (.t 30) (.t 31)) 29,.ax 33 1 32 29,.lx 34 33 29,.x 35 (.len (.t 34)) 29,.mx 36 1 29,.mx 37 5 29,.x 38 (.iadr 2 (.t 36) (.t 37)) 29,.ax 39 1 38 29,.lx 40 39 29,.x 41 (.len (.t 40)) 29,.bx 42 .neq 35 41 29,.o 43 29 42]) (.i 43 (.g [.k 4 false] (.ret [4])) .skip)) (.g [.c 6 0] (.block 2 (.loop [0,1,5,6] [] B62_0))))) (.reg [.m 16 5,.v 17 .add 16 1,.m 5 17])))
theorem F62:compF Tryz.prog 62=some ⟨71,[.tmp 4],(.g [.k 4 false] (.join [0,1] (.g [.m 7 0,.u 8 7,.m 9 1,.u 10 9,.b 11 .neq 8 10] (.i 11 (.g [.k 4 false] (.ret [4])) .skip)) (.join [] (.g [.c 5 0] (.block 0 (.loop [0,1,5] [] B62_1))) (.g [.k 4 true] (.ret [4])))))⟩:=by kernel_rfl
theorem F63:compF Tryz.prog 63=some ⟨17,[.tmp 4],(.g [.q 2 34 0,.q 3 34 1,.k 4 false] (.z [2,3] (.join [4] (.reg [.a 5 0 2,.l 6 5,.a 7 0 3,.l 8 7,.b 9 .eql 6 8,.m 10 9,.ay 11 1 2 10,.ly 12 11 10,.ay 13 1 3 10,.ly 14 13 10,.y 15 (.f 104 [.t 12,.t 14]) 10,.e 16 10 15,.m 4 16]) (.ret [4]))))⟩:=by kernel_rfl
def B64_0:Cd:=(.join [2,3,5] (.g [.m 34 5,.a 35 3 2,.l 36 35,.u 37 36,.b 38 .lss 34 37] (.i 38 .skip (.exit [] 0))) (.join [2,3,5] (.block 1 (.q (.dreg 11 [.a 41 3 2,.l 42 41,.m 43 5,.r 44 3 42 43,.d 45 3 44,.a 46 3 3,.l 47 46,.m 48 5,.r 49 3 47 48,.d 50 3 49,.s 51 (.eqs true [.i,.i,.i] (.t 45) (.t 50))]) (.i 51 (.g [.k 4 false] (.ret [4])) .skip))) (.reg [.m 39 5,.v 40 .add 39 1,.m 5 40])))
theorem F64:compF Tryz.prog 64=some ⟨52,[.tmp 4],(.g [.q 2 37 0,.q 3 37 1,.k 4 false] (.z [2,3] (.join [2,3] (.join [2,3,33] (.reg [.a 6 0 2,.l 7 6,.a 8 0 3,.l 9 8,.b 10 .neq 7 9,.m 11 10,.ax 12 1 2 11,.lx 13 12 11,.ax 14 1 3 11,.lx 15 14 11,.bx 16 .neq 13 15 11,.o 17 11 16,.m 18 17,.ax 19 2 2 18,.lx 20 19 18,.ax 21 2 3 18,.lx 22 21 18,.x 23 (.eqb true (.t 20) (.t 22)) 18,.o 24 18 23,.m 25 24,.ax 26 3 2 25,.lx 27 26 25,.x 28 (.len (.t 27)) 25,.ax 29 3 3 25,.lx 30 29 25,.x 31 (.len (.t 30)) 25,.bx 32 .neq 28 31 25,.o 33 25 32]) (.i 33 (.g [.k 4 false] (.ret [4])) .skip)) (.join [] (.g [.c 5 0] (.block 0 (.loop [2,3,5] [] B64_0))) (.g [.k 4 true] (.ret [4]))))))⟩:=by kernel_rfl
theorem F65:compF Tryz.prog 65=some ⟨45,[.tmp 4],(.g [.q 2 40 0,.q 3 40 1,.k 4 false] (.z [2,3] (.join [4] (.reg [.a 5 0 2,.l 6 5,.a 7 0 3,.l 8 7,.b 9 .eql 6 8,.m 10 9,.ay 11 1 2 10,.ly 12 11 10,.ay 13 1 3 10,.ly 14 13 10,.by' 15 .eql 12 14 10,.e 16 10 15,.m 17 16,.ay 18 2 2 17,.ly 19 18 17,.ay 20 2 3 17,.ly 21 20 17,.y 22 (.f 105 [.t 19,.t 21]) 17,.e 23 17 22,.m 24 23,.ay 25 3 2 24,.ly 26 25 24,.ay 27 3 3 24,.ly 28 27 24,.by' 29 .eql 26 28 24,.e 30 24 29,.m 31 30,.ay 32 4 2 31,.ly 33 32 31,.ay 34 4 3 31,.ly 35 34 31,.by' 36 .eql 33 35 31,.e 37 31 36,.m 38 37,.ay 39 5 2 38,.ly 40 39 38,.ay 41 5 3 38,.ly 42 41 38,.by' 43 .eql 40 42 38,.e 44 38 43,.m 4 44]) (.ret [4]))))⟩:=by kernel_rfl
theorem F67:compF Tryz.prog 67=some ⟨6,[.tmp 2],(.g [.q 1 46 0,.c 2 0] (.z [1] (.g [.a 3 2 1,.l 4 3,.s 5 (.f 44 [.t 4,.i 1,.i 1048576]),.m 2 5] (.ret [2]))))⟩:=by kernel_rfl
theorem F68:compF Tryz.prog 68=some ⟨6,[.tmp 2],(.g [.q 1 46 0,.k 2 false] (.z [1] (.g [.a 3 2 1,.l 4 3,.v 5 .eql 4 0,.m 2 5] (.ret [2]))))⟩:=by kernel_rfl
theorem F69:compF Tryz.prog 69=some ⟨6,[.tmp 2],(.g [.q 1 46 0,.c 2 0] (.z [1] (.g [.a 3 3 1,.l 4 3,.f 5 70 4,.m 2 5] (.ret [2]))))⟩:=by kernel_rfl
theorem F71:compF Tryz.prog 71=some ⟨6,[.tmp 2],(.g [.q 1 46 0,.k 2 false] (.z [1] (.g [.a 3 3 1,.l 4 3,.s 5 (.bin .eql (.t 4) (.w [])),.m 2 5] (.ret [2]))))⟩:=by kernel_rfl
theorem F72:compF Tryz.prog 72=some ⟨19,[.tmp 2],(.g [.q 1 46 0,.c 2 0] (.z [1] (.join [1] (.g [.a 3 1 1,.l 4 3] (.block 0 (.join [1,4,5] (.g [.v 6 .eql 4 6,.m 5 6] (.i 5 .skip (.reg [.v 7 .eql 4 15,.m 5 7]))) (.i 5 (.g [.a 8 4 1,.l 9 8,.s 10 (.f 44 [.t 9,.i 1,.i 400]),.m 2 10] (.ret [2])) (.g [.v 12 .eql 4 11,.m 11 12] (.i 11 (.g [.a 13 4 1,.l 14 13,.s 15 (.f 44 [.t 14,.i 0,.i 1]),.m 2 15] (.ret [2])) .skip)))))) (.g [.a 16 4 1,.l 17 16,.s 18 (.f 44 [.t 17,.i 0,.i 65535]),.m 2 18] (.ret [2])))))⟩:=by kernel_rfl
theorem F73:compF Tryz.prog 73=some ⟨6,[.tmp 2],(.g [.q 1 46 0,.k 2 false] (.z [1] (.g [.a 3 4 1,.l 4 3,.v 5 .eql 4 0,.m 2 5] (.ret [2]))))⟩:=by kernel_rfl
theorem F74:compF Tryz.prog 74=some ⟨6,[.tmp 2],(.g [.q 1 46 0,.c 2 0] (.z [1] (.g [.a 3 5 1,.l 4 3,.s 5 (.f 44 [.t 4,.i 0,.i 10000000]),.m 2 5] (.ret [2]))))⟩:=by kernel_rfl
theorem F75:compF Tryz.prog 75=some ⟨6,[.tmp 2],(.g [.q 1 46 0,.k 2 false] (.z [1] (.g [.a 3 5 1,.l 4 3,.v 5 .eql 4 0,.m 2 5] (.ret [2]))))⟩:=by kernel_rfl
theorem F76:compF Tryz.prog 76=some ⟨10,[.tmp 2],(.g [.q 1 46 0,.c 2 0] (.z [1] (.join [1] (.g [.a 3 6 1,.l 4 3,.u 5 4,.v 6 .eql 5 0] (.i 6 (.g [.c 2 12] (.ret [2])) .skip)) (.g [.a 7 6 1,.l 8 7,.f 9 112 8,.m 2 9] (.ret [2])))))⟩:=by kernel_rfl
theorem F77:compF Tryz.prog 77=some ⟨7,[.tmp 2],(.g [.q 1 46 0,.k 2 false] (.z [1] (.g [.a 3 6 1,.l 4 3,.u 5 4,.v 6 .eql 5 0,.m 2 6] (.ret [2]))))⟩:=by kernel_rfl
def B78_0:Cd:=(.g [.b 13 .lss 12 11] (.join [1,10,11,12] (.i 13 .skip (.exit [] 0)) (.join [1,10,11,12] (.block 1 (.g [.m 14 12,.r 15 2 10 12,.d 16 2 15,.s 4 (.alloc 127 [.i 0,.i 0]),.m 3 14,.w 2 4 16] (.z [4] (.join [1,3,4,10,11,12] (.join [1,3,4,10,11,12,34] (.reg [.a 17 0 4,.l 18 17,.v 19 .lss 18 1,.m 20 19,.ax 21 0 4 20,.lx 22 21 20,.vx 23 .gtr 22 999 20,.o 24 20 23,.m 25 24,.ax 26 1 4 25,.lx 27 26 25,.vx 28 .lss 27 0 25,.o 29 25 28,.m 30 29,.ax 31 1 4 30,.lx 32 31 30,.vx 33 .geq 32 15 30,.o 34 30 33]) (.i 34 (.g [.c 2 2] (.ret [2])) .skip)) (.join [1,10,11,12,47] (.dreg 13 [.m 35 3,.v 36 .gtr 35 0,.m 37 36,.ay 38 7 1 37,.ly 39 38 37,.my 40 3 37,.vy 41 .sub 40 1 37,.ry 42 2 39 41 37,.y 43 (.load (some 2) (.t 42)) 37,.y 44 (.load (some 2) (.t 4)) 37,.y 45 (.f 113 [.t 43,.t 44]) 37,.vy 46 .geq 45 0 37,.e 47 37 46]) (.i 47 (.g [.c 2 9] (.ret [2])) .skip)))))) (.reg [.v 48 .add 12 1,.m 12 48]))))
theorem F78:compF Tryz.prog 78=some ⟨49,[.tmp 2],(.g [.q 1 46 0,.c 2 0] (.z [1] (.join [1] (.g [.a 5 7 1,.l 6 5,.u 7 6,.v 8 .gtr 7 4096] (.i 8 (.g [.c 2 5] (.ret [2])) .skip)) (.join [] (.g [.a 9 7 1,.l 10 9,.u 11 10,.c 12 0] (.block 0 (.loop [1,10,11,12] [] B78_0))) (.g [.c 2 0] (.ret [2]))))))⟩:=by kernel_rfl
theorem F79:compF Tryz.prog 79=some ⟨7,[.tmp 2],(.g [.q 1 46 0,.k 2 false] (.z [1] (.g [.a 3 7 1,.l 4 3,.u 5 4,.v 6 .eql 5 0,.m 2 6] (.ret [2]))))⟩:=by kernel_rfl
def B80_0:Cd:=(.g [.b 20 .lss 19 18] (.join [1,17,18,19] (.i 20 .skip (.exit [] 1)) (.join [1,17,18,19] (.block 2 (.g [.m 21 19,.r 22 1 17 19,.l 23 22,.m 4 21,.m 5 23] (.join [1,4,5,17,18,19] (.g [.m 24 5,.s 25 (.f 44 [.t 24,.i 1,.i 999]),.m 6 25] (.g [.m 26 6,.v 27 .neq 26 0] (.i 27 (.g [.m 28 6,.m 2 28] (.ret [2])) .skip))) (.g [.a 29 8 1,.l 30 29,.m 31 4,.s 32 (.slice 1 (.t 30) none (some (.t 31)) none),.m 33 5,.g' 34 114 32 33] (.i 34 (.g [.c 2 7] (.ret [2])) .skip))))) (.reg [.v 35 .add 19 1,.m 19 35]))))
theorem F80:compF Tryz.prog 80=some ⟨36,[.tmp 2],(.g [.q 1 46 0,.c 2 0] (.z [1] (.join [1] (.g [.a 7 8 1,.l 8 7,.u 9 8,.m 3 9] (.block 0 (.g [.m 11 3,.v 12 .eql 11 0,.m 10 12] (.i 10 (.g [.c 2 12] (.ret [2])) (.g [.m 14 3,.v 15 .gtr 14 256,.m 13 15] (.i 13 (.g [.c 2 5] (.ret [2])) .skip)))))) (.join [] (.g [.a 16 8 1,.l 17 16,.u 18 17,.c 19 0] (.block 1 (.loop [1,17,18,19] [] B80_0))) (.g [.c 2 0] (.ret [2]))))))⟩:=by kernel_rfl
theorem F81:compF Tryz.prog 81=some ⟨7,[.tmp 2],(.g [.q 1 46 0,.k 2 false] (.z [1] (.g [.a 3 8 1,.l 4 3,.u 5 4,.v 6 .eql 5 0,.m 2 6] (.ret [2]))))⟩:=by kernel_rfl
theorem F82:compF Tryz.prog 82=some ⟨6,[.tmp 2],(.g [.q 1 46 0,.c 2 0] (.z [1] (.g [.a 3 9 1,.d 4 35 3,.f 5 83 4,.m 2 5] (.ret [2]))))⟩:=by kernel_rfl
theorem F84:compF Tryz.prog 84=some ⟨7,[.tmp 2],(.g [.q 1 46 0,.k 2 false] (.z [1] (.g [.a 3 9 1,.d 4 35 3,.s 5 (.build [.i 0,.i 0,.i 0,.i 0,(.str []),(.str []),(.str []),.nils,.nils,(.bool false),(.bool false),.i 0,(.str []),.i 0,.i 0,.nils,.i 0,.nils,.i 0,.i 0,(.bool false),.nils,.i 0,.i 0,.nils,.i 0,.i 0,.i 0,.i 0,.i 0,(.str []),.i 0,.i 0,.i 0,(.str [])] []),.g' 6 85 4 5,.m 2 6] (.ret [2]))))⟩:=by kernel_rfl
-- 85 is not covered
end Go.Proofs.YteggomljbalaaaaGreatDoor

namespace Go.Proofs.YteggomljbalaaaaGreatDoor
open Go.Sha
set_option maxRecDepth 10000
theorem F171:compF Tryz.prog 171=some ⟨20,[.tmp 4],(.g [.c 4 0] (.g [.m 7 0,.f 8 230 7,.m 5 8] (.g [.m 9 1,.f 10 230 9,.m 6 10] (.join [0,1,6] (.g [.m 11 5] (.i 11 (.join [] (.g [.m 12 6] (.i 12 (.g [.c 4 0] (.ret [4])) .skip)) (.g [.c 4 (-1)] (.ret [4]))) .skip)) (.join [0,1] (.g [.m 13 6] (.i 13 (.g [.c 4 1] (.ret [4])) .skip)) (.join [0,1] (.g [.m 14 0,.m 15 1,.b 16 .lss 14 15] (.i 16 (.g [.c 4 (-1)] (.ret [4])) .skip)) (.join [] (.g [.m 17 0,.m 18 1,.b 19 .gtr 17 18] (.i 19 (.g [.c 4 1] (.ret [4])) .skip)) (.g [.c 4 0] (.ret [4])))))))))⟩:=by kernel_rfl
theorem F230:compF Tryz.prog 230=some ⟨6,[.tmp 2],(.g [.k 2 false] (.g [.m 3 0,.m 4 0,.b 5 .neq 3 4,.m 2 5] (.ret [2])))⟩:=by kernel_rfl
end Go.Proofs.YteggomljbalaaaaGreatDoor

namespace Go.Proofs.YteggomljbalaaaaGreatDoor
open Go.Sha
set_option maxRecDepth 100000
variable {g:List (Nat×Obj)}{n:Nat}
def inC (v l h:Int):Int:=if v<l∨h<v then 2 else 0
theorem f44 {v l h:Int}{st:St}:run Tryz.prog HH 44 [.int .i64 v,.int .i64 l,.int .i64 h] st=some (.ret (.int .i64 (inC v l h)),st):=by
 rw[run_shut F44 rfl rfl (by simp)]
 push_cast[inC]
 all_goals first|with_reducible rfl|exact dn_eq (by omega) (by with_reducible rfl)|((repeat' split)<;>(try simp_all)<;>(try (with_reducible refine dn_eq ?_ ?_<;>first|trivial|omega|rfl))<;>(try omega))
def cmpI (a b:Int):Int:=if a<b then -1 else if b<a then 1 else 0
theorem f171 {a b:Int}{st:St}:run Tryz.prog HH 171 [.int .i64 a,.int .i64 b] st=some (.ret (.int .i64 (cmpI a b)),st):=by
 rw[run_shut F171 rfl rfl (by simp)]
 push_cast[cmpI,(fun(a0:V) (st:St) (h:V.bdL 0 [a0]=true)=>run_shut (P:=Tryz.prog) (H:=HH) (args:=[a0]) (st:=st) F230 rfl rfl h)]
 all_goals first|with_reducible rfl|exact dn_eq (by omega) (by with_reducible rfl)|((repeat' split)<;>(try simp_all)<;>(try (with_reducible refine dn_eq ?_ ?_<;>first|trivial|omega|rfl))<;>(try omega))
theorem f170 {a b:Int}{st:St}:run Tryz.prog HH 170 [.sl [.int .i64 a,.int .i64 b]] st=some (.ret (.int .i64 (if ¬a=0 then a else b)),st):=by
 rw[run_shut F170 rfl rfl (by simp)]
 by_cases h:a=0
 ·by_cases h2:b=0
  ·push_cast[h,h2,runL_of B170_0.eq_1]
  ·push_cast[h,h2,runL_of B170_0.eq_1]
 ·push_cast[h,runL_of B170_0.eq_1]
theorem f113 {x y:Prm}:∃v,(0≤v↔¬befP x y=true)∧∀st,run Tryz.prog HH 113 [x.v,y.v] st=some (.ret (.int .i64 v),st):=by
 have h1:=fun(st:St)=>f171 (a:=x.chan) (b:=y.chan) (st:=st)
 have h2:=fun(st:St)=>f171 (a:=x.attr) (b:=y.attr) (st:=st)
 have h3:=fun(st:St)=>f170 (a:=cmpI x.chan y.chan) (b:=cmpI x.attr y.attr) (st:=st)
 refine⟨if ¬cmpI x.chan y.chan=0 then cmpI x.chan y.chan else cmpI x.attr y.attr,?_,?_⟩
 ·unfold cmpI befP
  simp only[Bool.or_eq_true,Bool.and_eq_true,decide_eq_true_eq]
  repeat' split
  all_goals omega
 ·intro st
  have h1:=h1
  generalize (if ¬cmpI x.chan y.chan=0 then cmpI x.chan y.chan else cmpI x.attr y.attr)=z at *
  rw[run_shut F113 rfl rfl (by simp)]
  push_cast[Prm.v,h1,h2,h3]
def prR (l:List Prm):List Prm→Nat→Int
 |[],_=>0
 |p::r,j=>if ¬prmC 1 p=0 then prmC 1 p else if 0<j∧¬befP (l.getD (j-1) default) p=true then 9 else prR l r (j+1)
def prRS (l:List Prm):Int:=if 4096<(l.length:Int) then 5 else prR l l 0
theorem L39 {l:List Prm}(hl:l.length<140737488355328):∀r j,l.drop j=r→runL Tryz.prog HH [0,3] n B39_0 [(0,.sl (l.map Prm.v)),(3,.int .i64 j)] (stN g n)=lpE (stN g n) [] 2 (prR l r j):=by
 refine drop_ind (fun j h=>?_) (fun q r j h hx hd ih=>?_)
 all_goals rw[runL_of B39_0.eq_1]
 ·have h1:¬(j:Int)<l.length:=by omega
  push_cast[h1,prR,Prm.v]
 ·have h1:(j:Int)<l.length:=by omega
  have hw:=iw1 (j:=j) (by omega)
  push_cast[h1,hw,hx,Prm.v,p56,p58,iwrap_pred (j:=j) (by omega)]at ih ⊢
  simp only[ih,prR,lps,Int.reduceEq,not_false_eq_true]
  all_goals first|with_reducible rfl|exact dn_eq (by omega) (by with_reducible rfl)|((repeat' split)<;>(try simp_all)<;>(try (with_reducible refine dn_eq ?_ ?_<;>first|trivial|omega|rfl))<;>(try omega))
theorem f39 {l:List Prm}(hl:l.length<140737488355328){st:St}:run Tryz.prog HH 39 [.sl (l.map Prm.v)] st=some (.ret (.int .i64 (prRS l)),st):=by
 rw[run_shut F39 rfl rfl (by simp)]
 have hL0:=fun n=>L39 (g:=st.x.gl) (n:=n) hl _ 0 rfl
 push_cast[prRS]at hL0
 push_cast[prRS,hL0,lpE,lpX,lpI,lpB]
 all_goals first|with_reducible rfl|exact dn_eq (by omega) (by with_reducible rfl)|((repeat' split)<;>(try simp_all)<;>(try (with_reducible refine dn_eq ?_ ?_<;>first|trivial|omega|rfl))<;>(try omega))
theorem L78 {a:Act}(hl:a.prms.length<140737488355328):∀r j,a.prms.drop j=r→runL Tryz.prog HH [1,10,11,12] n B78_0 [(1,.ep a.v 0),(10,.sl (a.prms.map Prm.v)),(11,.int .i64 a.prms.length),(12,.int .i64 j)] (stN g n)=lpE (stN g n) [] 2 (prR a.prms r j):=by
 refine drop_ind (fun j h=>?_) (fun p r j h hx hd ih=>?_)
 all_goals rw[runL_of B78_0.eq_1]
 ·have h1:¬(j:Int)<a.prms.length:=by omega
  push_cast[h1,prR,lps,Act.v]
 ·have h1:(j:Int)<a.prms.length:=by omega
  have hw:=iw1 (j:=j) (by omega)
  rw[prR]
  unfold prmC
  by_cases hc:p.chan<1∨999<p.chan∨p.attr<0∨15≤p.attr
  ·rw[if_pos hc,if_pos (by decide)]
   by_cases c1:p.chan<1
   ·push_cast[h1,hw,hx,c1,lps,Act.v,Prm.v]
   ·by_cases c2:999<p.chan
    ·push_cast[h1,hw,hx,c1,c2,lps,Act.v,Prm.v]
    ·by_cases c3:p.attr<0
     ·push_cast[h1,hw,hx,c1,c2,c3,lps,Act.v,Prm.v]
     ·have c4:15≤p.attr:=by omega
      push_cast[h1,hw,hx,c1,c2,c3,c4,lps,Act.v,Prm.v]
  ·rw[if_neg hc,if_neg (by simp)]
   have c1:¬p.chan<1:=by omega
   have c2:¬999<p.chan:=by omega
   have c3:¬p.attr<0:=by omega
   have c4:¬15≤p.attr:=by omega
   by_cases hj:0<j
   ·obtain⟨k,hk⟩:∃k,k=j-1:=⟨_,rfl⟩
    rw[←hk]
    have hkl:k<a.prms.length:=by omega
    have hj0:(0:Int)<(j:Int):=by omega
    have hk1:(j:Int)-1=(k:Int):=by omega
    have hwk:IntKind.i64.wrap (k:Int)=(k:Int):=iwrap (by omega) (by omega)
    have hg:∀d,a.prms.getD k d=a.prms.getD k default:=fun d=>by rw[List.getD_eq_getElem?_getD,List.getD_eq_getElem?_getD,List.getElem?_eq_getElem hkl];rfl
    generalize a.prms.getD k default=y at *
    obtain⟨v,hv,h113⟩:=f113 (x:=y) (y:=p)
    push_cast[Prm.v]at h113
    by_cases hb:befP y p=true
    ·have hv0:¬0≤v:=fun e=>(hv.1 e) hb
     rw[if_neg (fun e=>e.2 hb)]
     push_cast[h,h1,hw,hx,c1,c2,c3,c4,hkl,hj0,hk1,hwk,hg,h113,hv0,Act.v,Prm.v]at ih ⊢
     exact dn_eq (by omega) ih
    ·have hv0:0≤v:=hv.2 hb
     rw[if_pos ⟨hj,hb⟩]
     push_cast[h,h1,hw,hx,c1,c2,c3,c4,hkl,hj0,hk1,hwk,hg,h113,hv0,lps,Act.v,Prm.v]
     exact dn_eq (by omega) rfl
   ·have hj0:j=0:=by omega
    subst hj0
    rw[if_neg (by omega)]
    have h1z:(0:Int)<(a.prms.length:Int):=by omega
    push_cast[h1,h1z,hw,hx,c1,c2,c3,c4,Act.v,Prm.v]at ih ⊢
    exact ih
end Go.Proofs.YteggomljbalaaaaGreatDoor

namespace Go.Proofs.YteggomljbalaaaaGreatDoor
open Go.Sha
set_option maxRecDepth 10000
end Go.Proofs.YteggomljbalaaaaGreatDoor

namespace Go.Proofs.YteggomljbalaaaaGreatDoor
open Go.Sha
set_option maxRecDepth 10000
variable {g:List (Nat×Obj)}{n:Nat}
end Go.Proofs.YteggomljbalaaaaGreatDoor

namespace Go.Proofs.YteggomljbalaaaaGreatDoor
open Go.Sha
set_option maxRecDepth 10000
end Go.Proofs.YteggomljbalaaaaGreatDoor

namespace Go.Proofs.YteggomljbalaaaaGreatDoor
open Go.Sha
set_option maxRecDepth 10000
variable {g:List (Nat×Obj)}{n:Nat}
structure Cu.ok (x:Cu):Prop where
 a:x.num.length<140737488355328
 b:x.label.length<140737488355328
 c:x.moves.length<140737488355328
 d:x.parts.length<140737488355328
 e:x.link.length<140737488355328
structure Lst.ok (x:Lst):Prop where
 a:x.cues.length<140737488355328
 b:∀q∈x.cues,q.ok
end Go.Proofs.YteggomljbalaaaaGreatDoor

namespace Go.Proofs.YteggomljbalaaaaGreatDoor
open Go.Sha
set_option maxRecDepth 10000
end Go.Proofs.YteggomljbalaaaaGreatDoor

namespace Go.Proofs.YteggomljbalaaaaGreatDoor
open Go.Sha
set_option maxRecDepth 10000
end Go.Proofs.YteggomljbalaaaaGreatDoor

namespace Go.Proofs.YteggomljbalaaaaGreatDoor
open Go.Sha
set_option maxRecDepth 100000
variable {g:List (Nat×Obj)}{n:Nat}
structure Prof.ok (p:Prof):Prop where
 a:p.feats.length<140737488355328
 b:∀q∈p.feats,q.wheel.length<140737488355328
 c:p.name.length<140737488355328
def Cok (l:List (List Pt)):Prop:=l.length<140737488355328∧∀q∈l,q.length<140737488355328
theorem getD_take {α:Type}{l:List α}{i j:Nat}(h:j<i)(d:α):(l.take i).getD j d=l.getD j d:=by
 simp[List.getD_eq_getElem?_getD,List.getElem?_take,h]
theorem len_take {α:Type}{l:List α}{i:Nat}(h:i≤l.length):(l.take i).length=i:=by simp;omega
def twL {α:Type}(p:α→Bool)(e:Int):List α→Int
 |[]=>0
 |x::r=>if p x=true then e else twL p e r
theorem twL_eq {α:Type}{p:α→Bool}{e:Int}:∀{l:List α},twL p e l=if l.any p=true then e else 0
 |[]=>rfl
 |x::r=>by by_cases h:p x=true<;>simp[twL,h,twL_eq (l:=r)]
end Go.Proofs.YteggomljbalaaaaGreatDoor

namespace Go.Proofs.YteggomljbalaaaaGreatDoor
open Go.Sha
set_option maxRecDepth 100000
variable {g:List (Nat×Obj)}{n:Nat}
theorem L40_0 {l:List Int}{i:Nat}{z:Int}(hl:l.length<140737488355328)(hi:i<l.length)(hz:∀d,l.getD i d=z):∀r j,(l.take i).drop j=r→runL Tryz.prog HH [0,3,4] n B40_0 [(0,.sl (l.map (.int .i64))),(3,.int .i64 i),(4,.int .i64 j)] (stN g n)=lpX 2 (stN g n) [(0,.sl (l.map (.int .i64))),(3,.int .i64 i)] 2 (twL (fun p=>z == p) 7 r):=by
 refine drop_ind (fun j h=>?_) (fun q r j h hx hd ih=>?_)
 all_goals rw[len_take (Nat.le_of_lt hi)]at h
 all_goals rw[runL_of B40_0.eq_1]
 ·have h1:¬(j:Int)<i:=by omega
  push_cast[h1,twL,lps]
 ·have h1:(j:Int)<i:=by omega
  have h2:(j:Int)<l.length:=by omega
  have h3:(i:Int)<l.length:=by omega
  have hw:=iw1 (j:=j) (by omega)
  simp only[getD_take h]at hx
  rw[twL]
  by_cases e:z=q
  ·subst e
   push_cast[h1,h2,h3,hw,hx,hz,lps]
  ·have e2:¬q=z:=fun h=>e h.symm
   have e1:(z == q)=false:=by simpa using e
   rw[e1]
   push_cast[h1,h2,h3,hw,hx,hz,e2]at ih ⊢
   exact ih
theorem L40_1 {l:List Int}(hl:l.length<140737488355328):∀r j,l.drop j=r→runL Tryz.prog HH [0,3] n B40_1 [(0,.sl (l.map (.int .i64))),(3,.int .i64 j)] (stN g n)=lpE (stN g n) [] 2 (chansL l r j):=by
 refine drop_ind (fun j h=>?_) (fun q r j h hx hd ih=>?_)
 all_goals rw[runL_of B40_1.eq_1]
 ·have h1:¬(j:Int)<l.length:=by omega
  push_cast[h1,chansL,lps]
 ·have h1:(j:Int)<l.length:=by omega
  have hw:=iw1 (j:=j) (by omega)
  have h0:=L40_0 (g:=g) (n:=n) (l:=l) (i:=j) (z:=q) hl h hx _ 0 rfl
  rw[List.drop_zero,twL_eq]at h0
  rw[chansL]
  by_cases c1:q<1
  ·rw[if_pos (.inl c1)]
   push_cast[h1,hw,hx,c1,lps]
  ·by_cases c2:999<q
   ·rw[if_pos (.inr c2)]
    push_cast[h1,hw,hx,c1,c2,lps]
   ·rw[if_neg (by omega)]
    by_cases e:(l.take j).any (fun p=>q == p)=true
    ·rw[if_pos e]at h0 ⊢
     push_cast[lps]at h0
     push_cast[h1,hw,hx,c1,c2,h0,lps]
    ·rw[if_neg e]at h0 ⊢
     push_cast[lps]at h0
     push_cast[h1,hw,hx,c1,c2,h0,lps]at ih ⊢
     exact ih
def chS (l:List Int):Int:=if(l.length:Int)=0 then 12 else if 256<(l.length:Int) then 5 else chansL l l 0
theorem f40 {l:List Int}(hl:l.length<140737488355328){st:St}:run Tryz.prog HH 40 [.sl (l.map (.int .i64))] st=some (.ret (.int .i64 (chS l)),st):=by
 rw[run_shut F40 rfl rfl (by simp)]
 have hL0:=fun n=>L40_1 (g:=st.x.gl) (n:=n) hl _ 0 rfl
 push_cast[chS]at hL0
 push_cast[chS,hL0,lpE,lpX,lpI,lpB]
 all_goals first|with_reducible rfl|exact dn_eq (by omega) (by with_reducible rfl)|((repeat' split)<;>(try simp_all)<;>(try (with_reducible refine dn_eq ?_ ?_<;>first|trivial|omega|rfl))<;>(try omega))
theorem L80 {a:Act}(hl:a.chans.length<140737488355328):∀r j,a.chans.drop j=r→runL Tryz.prog HH [1,17,18,19] n B80_0 [(1,.ep a.v 0),(17,.sl (a.chans.map (.int .i64))),(18,.int .i64 a.chans.length),(19,.int .i64 j)] (stN g n)=lpX 1 (stN g n) [] 2 (chansL a.chans r j):=by
 refine drop_ind (fun j h=>?_) (fun q r j h hx hd ih=>?_)
 all_goals rw[runL_of B80_0.eq_1]
 ·have h1:¬(j:Int)<a.chans.length:=by omega
  push_cast[h1,chansL,lps,Act.v]
 ·have h1:(j:Int)<a.chans.length:=by omega
  have hw:=iw1 (j:=j) (by omega)
  have h44:=fun(st:St)=>f44 (v:=q) (l:=1) (h:=999) (st:=st)
  have h114:=fun(st:St)=>f114 (l:=a.chans.take j) (v:=q) (st:=st) (by simp;omega)
  have hjl:(j:Int)≤a.chans.length:=by omega
  have hjn:j≤a.chans.length:=by omega
  rw[chansL]
  unfold inC at h44
  by_cases c1:q<1∨999<q
  ·rw[if_pos c1]at h44 ⊢
   push_cast[h1,hw,hx,h44,lps,Act.v]
  ·rw[if_neg c1]at h44 ⊢
   cases e:(a.chans.take j).any (fun p=>q == p) with
   |true =>
    rw[e]at h114
    push_cast[h1,hw,hx,h44,h114,hjl,hjn,lps,Act.v]
   |false =>
    rw[e]at h114
    push_cast[h1,hw,hx,h44,h114,hjl,hjn,lps,Act.v]at ih ⊢
    exact ih
theorem f80 {a:Act}(hl:a.chans.length<140737488355328){st:St}:run Tryz.prog HH 80 [a.v] st=some (.ret (.int .i64 (chS a.chans)),st):=by
 rw[run_shut F80 rfl rfl (by simp)]
 have hL0:=fun n=>L80 (g:=st.x.gl) (n:=n) hl _ 0 rfl
 push_cast[Act.v,chS]at hL0
 push_cast[Act.v,chS,hL0,lpE,lpX,lpI,lpB]
 all_goals first|with_reducible rfl|exact dn_eq (by omega) (by with_reducible rfl)|((repeat' split)<;>(try simp_all)<;>(try (with_reducible refine dn_eq ?_ ?_<;>first|trivial|omega|rfl))<;>(try omega))
theorem f78 {a:Act}(hl:a.prms.length<140737488355328){st:St}:run Tryz.prog HH 78 [a.v] st=some (.ret (.int .i64 (prRS a.prms)),st):=by
 rw[run_shut F78 rfl rfl (by simp)]
 have hL0:=fun n=>L78 (g:=st.x.gl) (n:=n) hl _ 0 rfl
 push_cast[Act.v,prRS]at hL0
 push_cast[Act.v,prRS,hL0,lpE,lpX,lpI,lpB]
 all_goals first|with_reducible rfl|exact dn_eq (by omega) (by with_reducible rfl)|((repeat' split)<;>(try simp_all)<;>(try (with_reducible refine dn_eq ?_ ?_<;>first|trivial|omega|rfl))<;>(try omega))
end Go.Proofs.YteggomljbalaaaaGreatDoor

namespace Go.Proofs.YteggomljbalaaaaGreatDoor
open Go.Sha
set_option maxRecDepth 100000
variable {g:List (Nat×Obj)}{n:Nat}
theorem f103 {l:List Mov}(hl:l.length<140737488355328){st:St}:run Tryz.prog HH 103 [.sl (l.map Mov.v),.sl []] st=some (.ret (.bool (decide (l.length=0))),st):=by
 by_cases h:l.length=0
 ·have h0:l=[]:=List.length_eq_zero_iff.1 h
  subst h0
  rw[run_shut F103 rfl rfl (by simp)]
  push_cast[runL_of B103_0.eq_1]
 ·have h1:¬(l.length:Int)=0:=by omega
  rw[run_shut F103 rfl rfl (by simp)]
  push_cast[Mov.v,h,h1]
theorem f104 {l:List Int}(hl:l.length<140737488355328){st:St}:run Tryz.prog HH 104 [.sl (l.map (.int .i64)),.sl []] st=some (.ret (.bool (decide (l.length=0))),st):=by
 by_cases h:l.length=0
 ·have h0:l=[]:=List.length_eq_zero_iff.1 h
  subst h0
  rw[run_shut F104 rfl rfl (by simp)]
  push_cast[runL_of B104_0.eq_1]
 ·have h1:¬(l.length:Int)=0:=by omega
  rw[run_shut F104 rfl rfl (by simp)]
  push_cast[h,h1]
theorem f105 {l:List Pt}(hl:l.length<140737488355328){st:St}:run Tryz.prog HH 105 [.sl (l.map Pt.v),.sl []] st=some (.ret (.bool (decide (l.length=0))),st):=by
 by_cases h:l.length=0
 ·have h0:l=[]:=List.length_eq_zero_iff.1 h
  subst h0
  rw[run_shut F105 rfl rfl (by simp)]
  push_cast[runL_of B105_0.eq_1]
 ·have h1:¬(l.length:Int)=0:=by omega
  rw[run_shut F105 rfl rfl (by simp)]
  push_cast[Pt.v,h,h1]
theorem zCu_len {c:Cu}:zCu c=(decide (c.moves.length=0)&&decide (c.parts.length=0)&&(decide (c.num=[])&&(decide (c.label=[])&&(!c.block&&(!c.mark&&(decide (c.follow=0)&&(decide (c.link=[])&&decide (c.loops=0)))))))):=by
 unfold zCu
 simp only[←List.length_eq_zero_iff]
 rfl
theorem f61 {c:Cu}(hl:c.moves.length<140737488355328)(hk:c.parts.length<140737488355328){st:St}:run Tryz.prog HH 61 [c.v,.agg [.str [],.str [],.sl [],.sl [],.bool false,.bool false,.int .i64 0,.str [],.int .i64 0]] st=some (.ret (.bool (zCu c)),st):=by
 have h103:=fun(st:St)=>f103 hl (st:=st)
 rw[run_shut F61 rfl rfl (by simp)]
 push_cast[Mov.v]at h103
 rw[zCu_len]
 by_cases a1:c.num=[]
 ·skip
  by_cases a2:c.label=[]
  ·skip
   cases a3:c.block with
   |true =>
    push_cast[Cu.v,h103,a1,a2,a3]
    try simp[a1,a2,a3]
   |false =>
    cases a4:c.mark with
    |true =>
     push_cast[Cu.v,h103,a1,a2,a3,a4]
     try simp[a1,a2,a3,a4]
    |false =>
     by_cases a5:c.follow=0
     ·skip
      by_cases a6:c.link=[]
      ·skip
       by_cases a7:c.loops=0
       ·skip
        by_cases a8:c.moves.length=0
        ·have a8i:(c.moves.length:Int)=0:=by omega
         by_cases a9:c.parts.length=0
         ·have a9i:(c.parts.length:Int)=0:=by omega
          push_cast[Cu.v,h103,a1,a2,a3,a4,a5,a6,a7,a8,a8i,a9,a9i,runL_of B61_0.eq_1]
          try simp[a1,a2,a3,a4,a5,a6,a7,a8,a8i,a9,a9i]
         ·have a9i:¬(c.parts.length:Int)=0:=by omega
          push_cast[Cu.v,h103,a1,a2,a3,a4,a5,a6,a7,a8,a8i,a9,a9i]
          try simp[a1,a2,a3,a4,a5,a6,a7,a8,a8i,a9]
        ·have a8i:¬(c.moves.length:Int)=0:=by omega
         push_cast[Cu.v,h103,a1,a2,a3,a4,a5,a6,a7,a8,a8i]
         try simp[a1,a2,a3,a4,a5,a6,a7,a8]
       ·push_cast[Cu.v,h103,a1,a2,a3,a4,a5,a6,a7]
        try simp[a1,a2,a3,a4,a5,a6,a7]
      ·push_cast[Cu.v,h103,a1,a2,a3,a4,a5,a6]
       try simp[a1,a2,a3,a4,a5,a6]
     ·push_cast[Cu.v,h103,a1,a2,a3,a4,a5]
      try simp[a1,a2,a3,a4,a5]
  ·push_cast[Cu.v,h103,a1,a2]
   try simp[a1,a2]
 ·push_cast[Cu.v,h103,a1]
  try simp[a1]
theorem f62 {p:Pal}{st:St}:run Tryz.prog HH 62 [.sl [p.v],.sl [.agg [.int .i64 0,.sl []]]] st=some (.ret (.bool (decide (p.num=0)&&decide (p.hues.length=0))),st):=by
 rw[run_shut F62 rfl rfl (by simp)]
 by_cases a1:p.num=0
 ·skip
  by_cases a2:p.hues.length=0
  ·have a2i:(p.hues.length:Int)=0:=by omega
   push_cast[Pal.v,runL_of B62_1.eq_1,a1,a2,a2i,runL_of B62_0.eq_1]
   try simp[a1,a2,a2i]
  ·have a2i:¬(p.hues.length:Int)=0:=by omega
   push_cast[Pal.v,runL_of B62_1.eq_1,a1,a2,a2i]
   try simp[a1,a2]
 ·push_cast[Pal.v,runL_of B62_1.eq_1,a1]
  try simp[a1]
theorem f63 {q:Grp}(hl:q.chans.length<140737488355328){st:St}:run Tryz.prog HH 63 [q.v,.agg [.int .i64 0,.sl []]] st=some (.ret (.bool (decide (q.num=0)&&decide (q.chans.length=0))),st):=by
 have h104:=fun(st:St)=>f104 hl (st:=st)
 rw[run_shut F63 rfl rfl (by simp)]
 by_cases a1:q.num=0
 ·skip
  push_cast[Grp.v,h104,a1]
  try simp[a1]
 ·push_cast[Grp.v,h104,a1]
  try simp[a1]
theorem f64 {s:Sb}{st:St}:run Tryz.prog HH 64 [s.v,.agg [.int .i64 0,.int .i64 0,.bool false,.sl []]] st=some (.ret (.bool (decide (s.num=0)&&(decide (s.prio=0)&&(!s.inh&&decide (s.gains.length=0))))),st):=by
 rw[run_shut F64 rfl rfl (by simp)]
 by_cases a1:s.num=0
 ·skip
  by_cases a2:s.prio=0
  ·skip
   cases a3:s.inh with
   |true =>
    push_cast[Sb.v,a1,a2,a3]
    try simp[a1,a2,a3]
   |false =>
    by_cases a4:s.gains.length=0
    ·have a4i:(s.gains.length:Int)=0:=by omega
     push_cast[Sb.v,a1,a2,a3,a4,a4i,runL_of B64_0.eq_1]
     try simp[a1,a2,a3,a4,a4i]
    ·have a4i:¬(s.gains.length:Int)=0:=by omega
     push_cast[Sb.v,a1,a2,a3,a4,a4i]
     try simp[a1,a2,a3,a4]
  ·push_cast[Sb.v,a1,a2]
   try simp[a1,a2]
 ·push_cast[Sb.v,a1]
  try simp[a1]
theorem f65 {s:Eff}(hl:s.wave.length<140737488355328){st:St}:run Tryz.prog HH 65 [s.v,.agg [.int .i64 0,.int .i64 0,.sl [],.int .i64 0,.int .i64 0,.int .i64 0]] st=some (.ret (.bool (decide (s.num=0)&&(decide (s.attr=0)&&(decide (s.wave.length=0)&&(decide (s.period=0)&&(decide (s.spread=0)&&decide (s.size=0))))))),st):=by
 have h105:=fun(st:St)=>f105 hl (st:=st)
 rw[run_shut F65 rfl rfl (by simp)]
 push_cast[Pt.v]at h105
 by_cases a1:s.num=0
 ·skip
  by_cases a2:s.attr=0
  ·skip
   by_cases a3:s.wave.length=0
   ·have a3i:(s.wave.length:Int)=0:=by omega
    by_cases a4:s.period=0
    ·skip
     by_cases a5:s.spread=0
     ·skip
      by_cases a6:s.size=0
      ·skip
       push_cast[Eff.v,h105,a1,a2,a3,a3i,a4,a5,a6]
       try simp[a1,a2,a3,a3i,a4,a5,a6]
      ·push_cast[Eff.v,h105,a1,a2,a3,a3i,a4,a5,a6]
       try simp[a1,a2,a3,a3i,a4,a5,a6]
     ·push_cast[Eff.v,h105,a1,a2,a3,a3i,a4,a5]
      try simp[a1,a2,a3,a3i,a4,a5]
    ·push_cast[Eff.v,h105,a1,a2,a3,a3i,a4]
     try simp[a1,a2,a3,a3i,a4]
   ·have a3i:¬(s.wave.length:Int)=0:=by omega
    push_cast[Eff.v,h105,a1,a2,a3,a3i]
    try simp[a1,a2,a3]
  ·push_cast[Eff.v,h105,a1,a2]
   try simp[a1,a2]
 ·push_cast[Eff.v,h105,a1]
  try simp[a1]
end Go.Proofs.YteggomljbalaaaaGreatDoor

namespace Go.Proofs.YteggomljbalaaaaGreatDoor
open Go.Sha
set_option maxRecDepth 100000
variable {g:List (Nat×Obj)}{n:Nat}
def numbd (k:Int):Bool:=decide (k=0)||(decide (k=1)||(decide (k=2)||(decide (k=4)||(decide (k=6)||(decide (k=8)||(decide (k=10)||decide (k=12)))))))
theorem f59 {k:Int}{st:St}:run Tryz.prog HH 59 [.int .i64 k] st=some (.ret (.bool (numbd k)),st):=by
 unfold numbd
 rw[run_shut F59 rfl rfl (by simp)]
 by_cases h:k=0∨k=1∨k=2∨k=4∨k=6∨k=8∨k=10∨k=12
 ·rcases h with rfl|rfl|rfl|rfl|rfl|rfl|rfl|rfl<;>push_cast
 ·simp only[not_or]at h
  obtain⟨h1,h2,h3,h4,h5,h6,h7,h8⟩:=h
  push_cast[h1,h2,h3,h4,h5,h6,h7,h8]
abbrev zPal (p:Pal):Bool:=decide (p.num=0)&&decide (p.hues.length=0)
abbrev zGrp (q:Grp):Bool:=decide (q.num=0)&&decide (q.chans.length=0)
abbrev zSub (s:Sb):Bool:=decide (s.num=0)&&(decide (s.prio=0)&&(!s.inh&&decide (s.gains.length=0)))
abbrev zEff (s:Eff):Bool:=decide (s.num=0)&&(decide (s.attr=0)&&(decide (s.wave.length=0)&&(decide (s.period=0)&&(decide (s.spread=0)&&decide (s.size=0)))))
abbrev zFix (f:Fixt):Bool:=f.chan == 0&&(f.part == 0&&(f.prof == []&&(f.univ == 0&&(f.addr == 0&&(f.phase == 0&&f.cable == [])))))
structure Edi.okE (e:Edi):Prop where
 moves:e.cue.moves.length<140737488355328
 parts:e.cue.parts.length<140737488355328
 hues:e.pal.hues.length<140737488355328
 chans:e.grp.chans.length<140737488355328
 gains:e.sub.gains.length<140737488355328
 wave:e.eff.wave.length<140737488355328
def idR (e:Edi):Bool:=(decide (e.kind=0)||zCu e.cue)&&((decide (e.kind=3)||zPal e.pal)&&((decide (e.kind=5)||zGrp e.grp)&&((decide (e.kind=7)||zSub e.sub)&&((decide (e.kind=9)||zEff e.eff)&&(decide (e.kind=11)||zFix e.fix)))))
theorem f60 {e:Edi}(h:e.okE){st:St}:run Tryz.prog HH 60 [e.v] st=some (.ret (.bool (idR e)),st):=by
 have h61:=fun(st:St)=>f61 h.moves h.parts (st:=st)
 have h64:=fun(st:St)=>f64 (s:=e.sub) (st:=st)
 have h65:=fun(st:St)=>f65 (s:=e.eff) h.wave (st:=st)
 unfold idR
 rw[run_shut F60 rfl rfl (by simp)]
 push_cast[Cu.v,Sb.v,Eff.v]at h61 h64 h65
 generalize zCu e.cue=z1 at *
 push_cast[Edi.v,h61,h64,h65]
 have q1:(!decide (¬e.kind=0∧z1=false))=(decide (e.kind=0)||z1):=by by_cases h:e.kind=0<;>cases z1<;>simp[h]
 have q2:(!decide (¬e.kind=3∧(¬e.pal.num=0∨0<(e.pal.hues.length:Int))))=(decide (e.kind=3)||zPal e.pal):=by
  by_cases h:e.kind=3<;>by_cases h2:e.pal.num=0<;>by_cases h3:e.pal.hues.length=0<;>simp[h,h2,h3,zPal]<;>omega
 have q3:(!decide (¬e.kind=5∧(¬e.grp.num=0∨0<(e.grp.chans.length:Int))))=(decide (e.kind=5)||zGrp e.grp):=by
  by_cases h:e.kind=5<;>by_cases h2:e.grp.num=0<;>by_cases h3:e.grp.chans.length=0<;>simp[h,h2,h3,zGrp]<;>omega
 have q4:(!decide (¬e.kind=7∧zSub e.sub=false))=(decide (e.kind=7)||zSub e.sub):=by by_cases h:e.kind=7<;>cases zSub e.sub<;>simp[h]
 have q5:(!decide (¬e.kind=9∧zEff e.eff=false))=(decide (e.kind=9)||zEff e.eff):=by by_cases h:e.kind=9<;>cases zEff e.eff<;>simp[h]
 rw[←q1,←q2,←q3,←q4,←q5]
def edtR (e:Edi):Int:=if e.kind<0∨13<e.kind then 1 else if(numbd e.kind=false∧¬e.num=0)∨(¬e.kind=12∧¬e.chan=0)∨(¬e.kind=2∧¬e.prio=0) then 3 else if(¬e.kind=1∧¬e.kind=13∧¬e.key=[])∨idR e=false then 3 else 0
theorem f41 {e:Edi}(h:e.okE){st:St}:run Tryz.prog HH 41 [e.v] st=some (.ret (.int .i64 (edtR e)),st):=by
 have h59:=fun(st:St)=>f59 (k:=e.kind) (st:=st)
 have h60:=fun(st:St)=>f60 h (st:=st)
 unfold edtR
 rw[run_shut F41 rfl rfl (by simp)]
 push_cast[Edi.v]at h60
 generalize numbd e.kind=z1 at *
 generalize idR e=z2 at *
 have r1:((if z1=false then decide ¬e.num=0||if ¬e.kind=12 then decide ¬e.chan=0||decide ¬e.kind=2&&e.prio != 0 else decide ¬e.kind=2&&e.prio != 0 else if ¬e.kind=12 then decide ¬e.chan=0||decide ¬e.kind=2&&e.prio != 0 else decide ¬e.kind=2&&e.prio != 0)=true)=((z1=false∧¬e.num=0)∨(¬e.kind=12∧¬e.chan=0)∨(¬e.kind=2∧¬e.prio=0)):=by
  apply propext
  cases z1<;>by_cases b:e.kind=12<;>by_cases a:e.num=0<;>by_cases c:e.chan=0<;>by_cases d:e.kind=2<;>by_cases f:e.prio=0<;>simp_all
 have r2:((if ¬e.kind=1 then if ¬e.kind=13 then decide ¬e.key=[]||!z2 else !z2 else !z2)=true)=((¬e.kind=1∧¬e.kind=13∧¬e.key=[])∨z2=false):=by
  apply propext
  cases z2<;>by_cases a:e.kind=1<;>by_cases b:e.kind=13<;>by_cases c:e.key=[]<;>simp_all
 push_cast[Edi.v,h59,h60]
 simp only[r1,r2]
theorem any_kinds {k:Int}{l:List Int}:l.any (k == ·)=decide (k∈l):=by
 rw[Bool.eq_iff_iff];simp
theorem edt_ok {e:Edi}(h:edtR e=0):edtC e=0:=by
 unfold edtR at h
 split at h
 ·cases h
 rename_i h1
 split at h
 ·cases h
 rename_i h2
 split at h
 ·cases h
 rename_i h3
 simp only[not_or,not_and,Classical.not_not,Bool.not_eq_false]at h2 h3
 obtain⟨n1,n2,n3⟩:=h2
 obtain⟨k1,k2⟩:=h3
 simp only[idR,Bool.and_eq_true,Bool.or_eq_true,decide_eq_true_eq]at k2
 obtain⟨i1,i2,i3,i4,i5,i6⟩:=k2
 have key:∀{us:List Use},(∀u∈us,(u.ks.any (e.kind == ·)||u.z e)=true)→useR e us=0:=fun {us}=>by
  induction us with
  |nil=>intro _;rfl
  |cons u r ih =>
   intro hu
   rw[useR,if_pos (by simpa using hu u (List.mem_cons_self ..)),ih fun u' hu'=>hu u' (List.mem_cons_of_mem _ hu')]
 rw[edtC,if_neg h1]
 refine key fun u hu=>?_
 simp only[uses,List.mem_cons,List.mem_nil_iff,or_false]at hu
 rw[any_kinds,Bool.or_eq_true,decide_eq_true_eq]
 rcases hu with rfl|rfl|rfl|rfl|rfl|rfl|rfl|rfl|rfl|rfl
 ·simp only[List.mem_cons,List.not_mem_nil,or_false]
  by_cases hn:numbd e.kind=true
  ·left
   simp only[numbd,Bool.or_eq_true,decide_eq_true_eq]at hn
   exact hn
  ·right;simp[n1 (by simpa using hn)]
 ·by_cases hk:e.kind=12
  ·left;simp[hk]
  ·right;simp[n2 hk]
 ·by_cases hk:e.kind=2
  ·left;simp[hk]
  ·right;simp[n3 hk]
 ·by_cases hk:e.kind=1
  ·left;simp[hk]
  ·by_cases hk2:e.kind=13
   ·left;simp[hk2]
   ·right;simp[k1 hk hk2]
 ·rcases i1 with hk|hz
  ·left;simp[hk]
  ·right;exact hz
 ·rcases i2 with hk|hz
  ·left;simp[hk]
  ·right;simpa [zPal] using hz
 ·rcases i3 with hk|hz
  ·left;simp[hk]
  ·right;simpa [zGrp] using hz
 ·rcases i4 with hk|hz
  ·left;simp[hk]
  ·right;simpa [zSub] using hz
 ·rcases i5 with hk|hz
  ·left;simp[hk]
  ·right;simpa [zEff] using hz
 ·rcases i6 with hk|hz
  ·left;simp[hk]
  ·right;simpa [zFix] using hz
end Go.Proofs.YteggomljbalaaaaGreatDoor

namespace Go.Proofs.YteggomljbalaaaaGreatDoor
open Go.Sha
set_option maxRecDepth 10000
def B3_0:Cd:=(.g [.b 105 .lss 104 103] (.join [0,4,7,8,9,11,12,13,14,102,103,104] (.i 105 .skip (.exit [0,4,7,8,9,11,13,14] 0)) (.join [0,4,7,8,9,11,12,13,14,102,103,104] (.block 1 (.g [.r 106 1 102 104,.l 107 106,.m 16 107] (.g [.m 108 16,.m 109 12,.b 110 .lss 108 109] (.i 110 (.reg [.m 111 14,.v 112 .add 111 1,.m 14 112]) .skip)))) (.reg [.v 113 .add 104 1,.m 104 113]))))
theorem F3:compF Tryz.prog 3=some ⟨160,[.tmp 6],(.g [.q 4 46 1,.k 6 false] (.z [4] (.join [0,2,4] (.g [.s 19 (.f 4 []),.z 20 19] (.i 20 (.g [.k 6 false] (.ret [6])) .skip)) (.join [0,2,4] (.join [0,2,4,43] (.reg [.m 21 0,.f 22 5 21,.z 23 22,.m 24 23,.x 25 (.load (some 44) (.t 4)) 24,.x 26 (.f 6 [.t 25]) 24,.x 27 (.un .not (.t 26)) 24,.o 28 24 27,.m 29 28,.mx 30 0 29,.x 31 (.f 7 [.t 30]) 29,.vx 32 .neq 31 0 29,.o 33 29 32,.m 34 33,.x 35 (.load (some 44) (.t 4)) 34,.x 36 (.f 8 [.t 35]) 34,.vx 37 .neq 36 0 34,.o 38 34 37,.m 39 38,.mx 40 0 39,.x 41 (.len (.t 40)) 39,.vx 42 .gtr 41 40 39,.o 43 39 42]) (.i 43 (.g [.k 6 true] (.ret [6])) .skip)) (.g [.m 45 0,.f 46 9 45,.m 44 46,.j 47 0 44,.j 48 1 44,.m 7 47,.m 8 48] (.g [.m 50 0,.d 51 44 4,.g' 52 10 50 51,.m 49 52,.j 53 0 49,.j 54 1 49,.m 9 53,.m 10 54] (.join [0,2,4,7,9] (.join [0,2,4,7,8,9,10,60] (.reg [.m 55 8,.v 56 .neq 55 0,.m 57 56,.mx 58 10 57,.vx 59 .neq 58 0 57,.o 60 57 59]) (.i 60 (.join [6] (.reg [.m 61 8,.v 62 .eql 61 0,.m 63 62,.my 64 10 63,.vy 65 .eql 64 5 63,.e 66 63 65,.m 6 66]) (.ret [6])) .skip)) (.g [.m 68 9,.f 69 9 68,.m 67 69,.j 70 0 67,.j 71 1 67,.m 11 70,.m 8 71] (.g [.m 73 0,.m 74 2,.s 75 (.cvi .i64 (.t 74)),.g' 76 11 73 75,.m 72 76,.j 77 0 72,.j 78 1 72,.m 12 77,.m 10 78] (.join [0,4,7,9,11,12] (.join [0,4,7,9,11,12,94] (.reg [.m 79 8,.v 80 .neq 79 0,.m 81 80,.mx 82 10 81,.vx 83 .neq 82 0 81,.o 84 81 83,.m 85 84,.mx 86 12 85,.vx 87 .lss 86 0 85,.o 88 85 87,.m 89 88,.mx 90 12 89,.mx 91 0 89,.x 92 (.len (.t 91)) 89,.bx 93 .gtr 90 92 89,.o 94 89 93]) (.i 94 (.g [.k 6 false] (.ret [6])) .skip)) (.g [.m 96 0,.m 97 12,.s 98 (.slice 44 (.t 96) none (some (.t 97)) none),.f 99 9 98,.m 95 99,.j 100 0 95,.j 101 1 95,.m 13 100,.m 8 101] (.g [.c 14 0] (.join [0,4,7,8,9,11,13,14] (.g [.m 102 7,.u 103 102,.c 104 0] (.block 0 (.loop [0,4,7,8,9,11,12,13,14,102,103,104] [] B3_0))) (.g [.m 114 11,.u 115 114,.m 116 7,.u 117 116,.b 118 .sub 115 117,.m 17 118] (.join [0,8,9,13,14,17,18] (.reg [.a 119 1 4,.l 120 119,.v 121 .eql 120 17,.m 122 121,.ax 123 1 4 122,.lx 124 123 122,.vx 125 .eql 124 18 122,.o 126 122 125,.m 127 126,.ax 128 1 4 127,.lx 129 128 127,.vx 130 .eql 129 19 127,.o 131 127 130,.m 18 131]) (.join [6] (.reg [.m 132 8,.v 133 .eql 132 0,.m 134 133,.my 135 9 134,.y 136 (.len (.t 135)) 134,.my 137 0 134,.y 138 (.len (.t 137)) 134,.vy 139 .add 138 1 134,.by' 140 .eql 136 139 134,.e 141 134 140,.m 142 141,.my 143 13 142,.y 144 (.len (.t 143)) 142,.my 145 14 142,.by' 146 .eql 144 145 142,.e 147 142 146,.m 148 147,.my 149 17 148,.vy 150 .eql 149 1 148,.my 151 18 148,.y 152 (.eqb false (.t 150) (.t 151)) 148,.e 153 148 152,.m 154 153,.my 155 17 154,.vy 156 .eql 155 0 154,.my 157 18 154,.y 158 (.eqb true (.t 156) (.t 157)) 154,.e 159 154 158,.m 6 159]) (.ret [6])))))))))))))))))⟩:=by kernel_rfl
def B5_0:Cd:=(.join [0,3] (.g [.m 15 3,.m 16 0,.u 17 16,.b 18 .lss 15 17] (.i 18 .skip (.exit [] 0))) (.join [0,3] (.block 1 (.g [.m 21 0,.m 22 3,.r 23 44 21 22,.d 24 44 23,.f 25 6 24,.z 26 25] (.i 26 (.g [.k 2 false] (.ret [2])) .skip))) (.reg [.m 19 3,.v 20 .add 19 1,.m 3 20])))
theorem F5:compF Tryz.prog 5=some ⟨27,[.tmp 2],(.g [.k 2 false] (.join [0] (.g [.m 4 0,.u 5 4,.v 6 .gtr 5 40] (.i 6 (.join [2] (.reg [.m 7 0,.u 8 7,.v 9 .gtr 8 256,.m 10 9,.my 11 0 10,.y 12 (.len (.t 11)) 10,.vy 13 .lss 12 512 10,.e 14 10 13,.m 2 14]) (.ret [2])) .skip)) (.join [] (.g [.c 3 0] (.block 0 (.loop [0,3] [] B5_0))) (.g [.k 2 true] (.ret [2])))))⟩:=by kernel_rfl
theorem F6:compF Tryz.prog 6=some ⟨34,[.tmp 2],(.g [.q 1 46 0,.k 2 false] (.z [1] (.join [1] (.join [1,30] (.reg [.a 3 3 1,.l 4 3,.s 5 (.lens (.t 4)),.v 6 .gtr 5 40,.m 7 6,.ax 8 6 1 7,.lx 9 8 7,.x 10 (.f 15 [.t 9]) 7,.x 11 (.un .not (.t 10)) 7,.o 12 7 11,.m 13 12,.ax 14 7 1 13,.lx 15 14 13,.x 16 (.len (.t 15)) 13,.vx 17 .gtr 16 200 13,.mx 18 17 13,.ay 19 7 1 18,.ly 20 19 18,.y 21 (.len (.t 20)) 18,.vy 22 .leq 21 4096 18,.x 23 (.pick (.t 18) (.t 22) (.c (.bool false))) 13,.o 24 13 23,.m 25 24,.ax 26 8 1 25,.lx 27 26 25,.x 28 (.len (.t 27)) 25,.vx 29 .gtr 28 512 25,.o 30 25 29]) (.i 30 (.g [.k 2 false] (.ret [2])) .skip)) (.g [.a 31 9 1,.d 32 35 31,.f 33 16 32,.m 2 33] (.ret [2])))))⟩:=by kernel_rfl
def B7_0:Cd:=(.join [0,3] (.g [.m 8 3,.m 9 0,.u 10 9,.b 11 .lss 8 10] (.i 11 .skip (.exit [] 0))) (.join [0,3] (.block 1 (.join [0,3] (.g [.m 14 0,.m 15 3,.r 16 44 14 15,.d 17 44 16,.f 18 8 17,.m 4 18] (.g [.m 19 4,.v 20 .neq 19 0] (.i 20 (.g [.m 21 4,.m 2 21] (.ret [2])) .skip))) (.join [0,3,37] (.dreg 16 [.m 22 3,.v 23 .gtr 22 0,.m 24 23,.my 25 0 24,.my 26 3 24,.ry 27 44 25 26 24,.ay 28 0 27 24,.ly 29 28 24,.my 30 0 24,.my 31 3 24,.vy 32 .sub 31 1 24,.ry 33 44 30 32 24,.ay 34 0 33 24,.ly 35 34 24,.by' 36 .lss 29 35 24,.e 37 24 36]) (.i 37 (.g [.c 2 9] (.ret [2])) .skip)))) (.reg [.m 12 3,.v 13 .add 12 1,.m 3 13])))
theorem F7:compF Tryz.prog 7=some ⟨38,[.tmp 2],(.g [.c 2 0] (.join [0] (.g [.m 5 0,.u 6 5,.v 7 .gtr 6 256] (.i 7 (.g [.c 2 5] (.ret [2])) .skip)) (.join [] (.g [.c 3 0] (.block 0 (.loop [0,3] [] B7_0))) (.g [.c 2 0] (.ret [2])))))⟩:=by kernel_rfl
theorem F8:compF Tryz.prog 8=some ⟨34,[.tmp 2],(.g [.q 1 46 0,.c 2 0] (.z [1] (.join [1] (.join [1,12] (.reg [.a 5 1 1,.l 6 5,.v 7 .lss 6 0,.m 8 7,.ax 9 1 1 8,.lx 10 9 8,.vx 11 .gtr 10 19 8,.o 12 8 11]) (.i 12 (.g [.c 2 1] (.ret [2])) .skip)) (.join [1] (.join [1,20] (.reg [.a 13 0 1,.l 14 13,.v 15 .lss 14 0,.m 16 15,.ax 17 0 1 16,.lx 18 17 16,.vx 19 .gtr 18 10000000 16,.o 20 16 19]) (.i 20 (.g [.c 2 2] (.ret [2])) .skip)) (.join [1] (.g [.d 21 44 1,.f 22 17 21,.m 3 22] (.g [.m 23 3,.v 24 .neq 23 0] (.i 24 (.g [.m 25 3,.m 2 25] (.ret [2])) .skip))) (.join [1] (.g [.d 26 44 1,.f 27 18 26,.m 4 27] (.g [.m 28 4,.v 29 .neq 28 0] (.i 29 (.g [.m 30 4,.m 2 30] (.ret [2])) .skip))) (.join [] (.g [.d 31 44 1,.f 32 19 31,.z 33 32] (.i 33 (.g [.c 2 3] (.ret [2])) .skip)) (.g [.c 2 0] (.ret [2])))))))))⟩:=by kernel_rfl
def B9_0:Cd:=(.g [.b 16 .lss 15 14] (.join [5,13,14,15] (.i 16 .skip (.exit [5] 0)) (.join [5,13,14,15] (.block 1 (.g [.m 17 15,.r 18 44 13 15,.d 19 44 18,.s 7 (.alloc 46 [.i 0,.i 0,.i 0,(.str []),.i 0,.i 0,.nils,.nils,.nils,.i 0,.i 0,.i 0,.i 0,(.str []),(.str []),(.str []),.nils,.nils,(.bool false),(.bool false),.i 0,(.str []),.i 0,.i 0,.nils,.i 0,.nils,.i 0,.i 0,(.bool false),.nils,.i 0,.i 0,.nils,.i 0,.i 0,.i 0,.i 0,.i 0,(.str []),.i 0,.i 0,.i 0,(.str [])]),.m 6 17,.w 44 7 19] (.z [7] (.join [5,6,13,14,15,32] (.reg [.a 20 1 7,.l 21 20,.v 22 .eql 21 17,.m 23 22,.ax 24 1 7 23,.lx 25 24 23,.vx 26 .eql 25 18 23,.o 27 23 26,.m 28 27,.ax 29 1 7 28,.lx 30 29 28,.vx 31 .eql 30 19 28,.o 32 28 31]) (.i 32 (.reg [.m 33 5,.m 34 6,.s 35 (.bslice 3 1 [.t 34]),.s 36 (.append 3 1 8 (.t 33) (.t 35)),.m 5 36]) .skip))))) (.reg [.v 37 .add 15 1,.m 15 37]))))
theorem F9:compF Tryz.prog 9=some ⟨39,[.tmp 2,.tmp 3],(.g [.s 2 (.mv (.c .nils)),.c 3 0] (.join [0] (.g [.m 8 0,.f 9 20 8,.m 4 9] (.g [.m 10 4,.v 11 .neq 10 0] (.i 11 (.g [.m 12 4,.s 2 (.mv (.c .nils)),.m 3 12] (.ret [2,3])) .skip))) (.g [.s 5 (.mv (.c .nils))] (.join [5] (.g [.m 13 0,.u 14 13,.c 15 0] (.block 0 (.loop [5,13,14,15] [(5,(3,1))] B9_0))) (.g [.m 38 5,.m 2 38,.c 3 0] (.ret [2,3]))))))⟩:=by kernel_rfl
theorem F11:compF Tryz.prog 11=some ⟨15,[.tmp 4,.tmp 5],(.g [.c 4 0,.c 5 0] (.join [0,1] (.g [.m 7 0,.f 8 20 7,.m 6 8] (.g [.m 9 6,.v 10 .neq 9 0] (.i 10 (.g [.m 11 6,.c 4 0,.m 5 11] (.ret [4,5])) .skip))) (.g [.m 12 0,.m 13 1,.g' 14 24 12 13,.m 4 14,.c 5 0] (.ret [4,5]))))⟩:=by kernel_rfl
theorem F15:compF Tryz.prog 15=some ⟨11,[.tmp 2],(.g [.k 2 false] (.join [2] (.reg [.m 3 0,.u 4 3,.v 5 .leq 4 200,.m 6 5,.mx 7 0 6,.x 8 (.len (.t 7)) 6,.vx 9 .gtr 8 4096 6,.o 10 6 9,.m 2 10]) (.ret [2])))⟩:=by kernel_rfl
theorem F16:compF Tryz.prog 16=some ⟨57,[.tmp 2],(.g [.q 1 44 0,.k 2 false] (.z [1] (.join [2] (.reg [.a 3 5 1,.d 4 9 3,.f 5 28 4,.m 6 5,.ay 7 5 1 6,.ay 8 2 7 6,.ly 9 8 6,.y 10 (.len (.t 9)) 6,.vy 11 .leq 10 20 6,.e 12 6 11,.m 13 12,.ay 14 14 1 13,.y 15 (.load (some 2) (.t 14)) 13,.y 16 (.bslice 32 2 [.t 15]) 13,.y 17 (.f 29 [.t 16]) 13,.e 18 13 17,.m 19 18,.ay 20 16 1 19,.y 21 (.load (some 2) (.t 20)) 19,.y 22 (.bslice 34 2 [.t 21]) 19,.y 23 (.f 30 [.t 22]) 19,.e 24 19 23,.m 25 24,.ay 26 18 1 25,.y 27 (.load (some 4) (.t 26)) 25,.y 28 (.bslice 37 4 [.t 27]) 25,.y 29 (.f 31 [.t 28]) 25,.e 30 25 29,.m 31 30,.ay 32 22 1 31,.y 33 (.load (some 6) (.t 32)) 31,.y 34 (.bslice 40 6 [.t 33]) 31,.y 35 (.f 32 [.t 34,(.c .nils)]) 31,.e 36 31 35,.m 37 36,.ay 38 4 1 37,.ly 39 38 37,.y 40 (.lens (.t 39)) 37,.vy 41 .leq 40 200 37,.e 42 37 41,.m 43 42,.ay 44 28 1 43,.ay 45 2 44 43,.ly 46 45 43,.y 47 (.lens (.t 46)) 43,.vy 48 .leq 47 100 43,.e 49 43 48,.m 50 49,.ay 51 28 1 50,.ay 52 6 51 50,.ly 53 52 50,.y 54 (.lens (.t 53)) 50,.vy 55 .leq 54 100 50,.e 56 50 55,.m 2 56]) (.ret [2]))))⟩:=by kernel_rfl
theorem F17:compF Tryz.prog 17=some ⟨51,[.tmp 2],(.g [.q 1 46 0,.c 2 0] (.z [1] (.join [1] (.join [1,17] (.reg [.a 5 1 1,.l 6 5,.f 7 33 6,.m 8 7,.ay 9 2 1 8,.ly 10 9 8,.vy 11 .lss 10 1 8,.my 12 11 8,.ax 13 2 1 12,.lx 14 13 12,.vx 15 .gtr 14 1048576 12,.y 16 (.pick (.t 12) (.c (.bool true)) (.t 15)) 8,.e 17 8 16]) (.i 17 (.g [.c 2 2] (.ret [2])) .skip)) (.join [1] (.g [.a 18 1 1,.l 19 18,.v 20 .eql 19 1] (.i 20 (.g [.a 21 3 1,.l 22 21,.f 23 34 22,.m 3 23] (.g [.m 24 3,.v 25 .neq 24 0] (.i 25 (.g [.m 26 3,.m 2 26] (.ret [2])) .skip))) .skip)) (.join [1] (.g [.a 27 1 1,.l 28 27,.f 29 35 28] (.i 29 (.g [.a 30 1 1,.l 31 30,.a 32 4 1,.l 33 32,.g' 34 36 31 33,.m 4 34] (.g [.m 35 4,.v 36 .neq 35 0] (.i 36 (.g [.m 37 4,.m 2 37] (.ret [2])) .skip))) .skip)) (.join [] (.join [50] (.reg [.a 38 1 1,.l 39 38,.f 40 37 39,.m 41 40,.ay 42 5 1 41,.ly 43 42 41,.vy 44 .lss 43 0 41,.my 45 44 41,.ax 46 5 1 45,.lx 47 46 45,.vx 48 .gtr 47 10000000 45,.y 49 (.pick (.t 45) (.c (.bool true)) (.t 48)) 41,.e 50 41 49]) (.i 50 (.g [.c 2 2] (.ret [2])) .skip)) (.g [.c 2 0] (.ret [2]))))))))⟩:=by kernel_rfl
theorem F18:compF Tryz.prog 18=some ⟨29,[.tmp 2],(.g [.q 1 46 0,.c 2 0] (.z [1] (.join [] (.g [.a 3 1 1,.l 4 3] (.block 0 (.g [.v 6 .eql 4 12,.m 5 6] (.i 5 (.join [1] (.g [.a 7 6 1,.l 8 7,.u 9 8,.v 10 .eql 9 0] (.i 10 (.g [.c 2 12] (.ret [2])) .skip)) (.g [.a 11 6 1,.l 12 11,.f 13 38 12,.m 2 13] (.ret [2]))) (.g [.v 15 .eql 4 13,.m 14 15] (.i 14 (.g [.a 16 7 1,.l 17 16,.f 18 39 17,.m 2 18] (.ret [2])) (.g [.v 20 .eql 4 14,.m 19 20] (.i 19 (.g [.a 21 8 1,.l 22 21,.f 23 40 22,.m 2 23] (.ret [2])) (.g [.v 25 .eql 4 17,.m 24 25] (.i 24 (.g [.a 26 9 1,.d 27 35 26,.f 28 41 27,.m 2 28] (.ret [2])) .skip)))))))))) (.g [.c 2 0] (.ret [2])))))⟩:=by kernel_rfl
theorem F19:compF Tryz.prog 19=some ⟨84,[.tmp 2],(.g [.q 1 46 0,.k 2 false] (.z [1] (.join [1] (.join [1,43] (.reg [.a 3 1 1,.l 4 3,.f 5 33 4,.z 6 5,.m 7 6,.ay 8 2 1 7,.ly 9 8 7,.vy 10 .neq 9 0 7,.e 11 7 10,.m 12 11,.ax 13 1 1 12,.lx 14 13 12,.vx 15 .neq 14 1 12,.mx 16 15 12,.ay 17 3 1 16,.ly 18 17 16,.y 19 (.bin .neq (.t 18) (.w [])) 16,.x 20 (.pick (.t 16) (.t 19) (.c (.bool false))) 12,.o 21 12 20,.m 22 21,.ax 23 1 1 22,.lx 24 23 22,.x 25 (.f 35 [.t 24]) 22,.x 26 (.un .not (.t 25)) 22,.mx 27 26 22,.ay 28 4 1 27,.ly 29 28 27,.vy 30 .neq 29 0 27,.x 31 (.pick (.t 27) (.t 30) (.c (.bool false))) 22,.o 32 22 31,.m 33 32,.ax 34 1 1 33,.lx 35 34 33,.x 36 (.f 37 [.t 35]) 33,.x 37 (.un .not (.t 36)) 33,.mx 38 37 33,.ay 39 5 1 38,.ly 40 39 38,.vy 41 .neq 40 0 38,.x 42 (.pick (.t 38) (.t 41) (.c (.bool false))) 33,.o 43 33 42]) (.i 43 (.g [.k 2 false] (.ret [2])) .skip)) (.join [1] (.join [1,74] (.reg [.a 44 1 1,.l 45 44,.v 46 .neq 45 12,.m 47 46,.ay 48 6 1 47,.ly 49 48 47,.y 50 (.len (.t 49)) 47,.vy 51 .gtr 50 0 47,.e 52 47 51,.m 53 52,.ax 54 1 1 53,.lx 55 54 53,.vx 56 .neq 55 13 53,.mx 57 56 53,.ay 58 7 1 57,.ly 59 58 57,.y 60 (.len (.t 59)) 57,.vy 61 .gtr 60 0 57,.x 62 (.pick (.t 57) (.t 61) (.c (.bool false))) 53,.o 63 53 62,.m 64 63,.ax 65 1 1 64,.lx 66 65 64,.vx 67 .neq 66 14 64,.mx 68 67 64,.ay 69 8 1 68,.ly 70 69 68,.y 71 (.len (.t 70)) 68,.vy 72 .gtr 71 0 68,.x 73 (.pick (.t 68) (.t 72) (.c (.bool false))) 64,.o 74 64 73]) (.i 74 (.g [.k 2 false] (.ret [2])) .skip)) (.join [2] (.reg [.a 75 1 1,.l 76 75,.v 77 .eql 76 17,.m 78 77,.ax 79 9 1 78,.x 80 (.load (some 35) (.t 79)) 78,.x 81 (.build [.i 0,.i 0,.i 0,.i 0,(.str []),(.str []),(.str []),.nils,.nils,(.bool false),(.bool false),.i 0,(.str []),.i 0,.i 0,.nils,.i 0,.nils,.i 0,.i 0,(.bool false),.nils,.i 0,.i 0,.nils,.i 0,.i 0,.i 0,.i 0,.i 0,(.str []),.i 0,.i 0,.i 0,(.str [])] []) 78,.x 82 (.f 42 [.t 80,.t 81]) 78,.o 83 78 82,.m 2 83]) (.ret [2]))))))⟩:=by kernel_rfl
def B20_0:Cd:=(.g [.b 12 .lss 11 10] (.join [0,9,10,11] (.i 12 .skip (.exit [] 0)) (.join [0,9,10,11] (.block 1 (.g [.m 13 11,.r 14 44 9 11,.d 15 44 14,.s 4 (.alloc 46 [.i 0,.i 0,.i 0,(.str []),.i 0,.i 0,.nils,.nils,.nils,.i 0,.i 0,.i 0,.i 0,(.str []),(.str []),(.str []),.nils,.nils,(.bool false),(.bool false),.i 0,(.str []),.i 0,.i 0,.nils,.i 0,.nils,.i 0,.i 0,(.bool false),.nils,.i 0,.i 0,.nils,.i 0,.i 0,.i 0,.i 0,.i 0,(.str []),.i 0,.i 0,.i 0,(.str [])]),.m 3 13,.w 44 4 15] (.z [4] (.join [0,3,4,9,10,11] (.g [.d 16 44 4,.f 17 21 16,.m 5 17] (.g [.m 18 5,.v 19 .neq 18 0] (.i 19 (.g [.m 20 5,.m 2 20] (.ret [2])) .skip))) (.join [0,9,10,11,33] (.dreg 13 [.m 21 3,.v 22 .gtr 21 0,.m 23 22,.ay 24 0 4 23,.ly 25 24 23,.my 26 0 23,.my 27 3 23,.vy 28 .sub 27 1 23,.ry 29 44 26 28 23,.ay 30 0 29 23,.ly 31 30 23,.by' 32 .lss 25 31 23,.e 33 23 32]) (.i 33 (.g [.c 2 9] (.ret [2])) .skip)))))) (.reg [.v 34 .add 11 1,.m 11 34]))))
theorem F20:compF Tryz.prog 20=some ⟨35,[.tmp 2],(.g [.c 2 0] (.join [0] (.g [.m 6 0,.u 7 6,.v 8 .gtr 7 256] (.i 8 (.g [.c 2 5] (.ret [2])) .skip)) (.join [] (.g [.m 9 0,.u 10 9,.c 11 0] (.block 0 (.loop [0,9,10,11] [] B20_0))) (.g [.c 2 0] (.ret [2])))))⟩:=by kernel_rfl
def B21_0:Cd:=(.g [.v 26 .lss 25 8] (.join [1,3,5,24,25] (.i 26 .skip (.exit [5] 0)) (.join [1,3,5,24,25] (.block 1 (.g [.m 27 25,.s 28 (.gen (.ia 8 (some 2) 2) [.t 24,.t 25]),.s 7 (.alloc 108 [.nilf,.nilf]),.m 6 27,.w 2 7 28] (.z [7] (.join [1,3,5,7,24,25] (.g [.a 29 1 1,.l 30 29,.s 31 (.iadra 20 1 (.t 3) (.t 30)),.l 32 31,.m 33 6,.b 34 .shr 32 33,.v 35 .and 34 1,.v 36 .eql 35 0] (.i 36 (.join [1,3,5,24,25] (.reg [.m 37 5,.m 38 37,.ay 39 1 7 38,.ly 40 39 38,.y 41 (.load (some 44) (.t 1)) 38,.y 42 (.call (.t 40) [.t 41]) 38,.e 43 38 42,.m 5 43]) (.exit [1,3,5,24,25] 1)) .skip)) (.g [.a 44 0 7,.l 45 44,.d 46 44 1,.s 47 (.call (.t 45) [.t 46]),.m 8 47] (.g [.m 48 8,.v 49 .neq 48 0] (.i 49 (.g [.m 50 8,.m 2 50] (.ret [2])) .skip))))))) (.reg [.v 51 .add 25 1,.m 25 51]))))
theorem F21:compF Tryz.prog 21=some ⟨54,[.tmp 2],(.g [.q 1 46 0,.c 2 0] (.z [1] (.g [.s 9 (.f 43 []),.s 3 (.alloc 104 [.i 0,.i 0,.i 0,.i 0,.i 0,.i 0,.i 0,.i 0,.i 0,.i 0,.i 0,.i 0,.i 0,.i 0,.i 0,.i 0,.i 0,.i 0,.i 0,.i 0]),.w 20 3 9] (.z [3] (.join [1,3] (.join [1,3,17] (.reg [.a 10 1 1,.l 11 10,.v 12 .lss 11 0,.m 13 12,.ax 14 1 1 13,.lx 15 14 13,.vx 16 .geq 15 20 13,.o 17 13 16]) (.i 17 (.g [.c 2 1] (.ret [2])) .skip)) (.join [1,3] (.g [.a 18 0 1,.l 19 18,.s 20 (.f 44 [.t 19,.i 0,.i 10000000]),.m 4 20] (.g [.m 21 4,.v 22 .neq 21 0] (.i 22 (.g [.m 23 4,.m 2 23] (.ret [2])) .skip))) (.g [.k 5 true] (.join [5] (.g [.s 24 (.f 45 []),.c 25 0] (.block 0 (.loop [1,3,5,24,25] [] B21_0))) (.join [] (.g [.m 52 5,.z 53 52] (.i 53 (.g [.c 2 3] (.ret [2])) .skip)) (.g [.c 2 0] (.ret [2])))))))))))⟩:=by kernel_rfl
theorem F24:compF Tryz.prog 24=some ⟨14,[.tmp 4],(.g [.q 3 3 1,.c 4 0] (.z [3] (.g [.m 6 0,.s 7 (.mkfn (.func 49) [] [.t 3]),.g' 8 48 6 7,.m 5 8] (.join [5] (.g [.m 9 5,.v 10 .lss 9 0] (.i 10 (.g [.m 11 0,.u 12 11,.m 4 12] (.ret [4])) .skip)) (.g [.m 13 5,.m 4 13] (.ret [4]))))))⟩:=by kernel_rfl
end Go.Proofs.YteggomljbalaaaaGreatDoor

namespace Go.Proofs.YteggomljbalaaaaGreatDoor
open Go.Sha
set_option maxRecDepth 100000
variable {g:List (Nat×Obj)}{n:Nat}
@[reducible] def zEV:V:=.agg [.int .i64 0,.int .i64 0,.int .i64 0,.int .i64 0,.str [],.str [],.str [],.sl [],.sl [],.bool false,.bool false,.int .i64 0,.str [],.int .i64 0,.int .i64 0,.sl [],.int .i64 0,.sl [],.int .i64 0,.int .i64 0,.bool false,.sl [],.int .i64 0,.int .i64 0,.sl [],.int .i64 0,.int .i64 0,.int .i64 0,.int .i64 0,.int .i64 0,.str [],.int .i64 0,.int .i64 0,.int .i64 0,.str []]
def zEd (e:Edi):Bool:=(decide (e.kind=0)&&(decide (e.num=0)&&(decide (e.chan=0)&&(decide (e.prio=0)&&(decide (e.key=[])&&zCu e.cue)))))&&(zPal e.pal&&(zGrp e.grp&&(zSub e.sub&&(zEff e.eff&&zFix e.fix))))
theorem f42 {e:Edi}(h:e.okE){st:St}:run Tryz.prog HH 42 [e.v,zEV] st=some (.ret (.bool (zEd e)),st):=by
 have h61:=fun(st:St)=>f61 h.moves h.parts (st:=st)
 have h62:=fun(st:St)=>f62 (p:=e.pal) (st:=st)
 have h63:=fun(st:St)=>f63 (q:=e.grp) h.chans (st:=st)
 have h64:=fun(st:St)=>f64 (s:=e.sub) (st:=st)
 have h65:=fun(st:St)=>f65 (s:=e.eff) h.wave (st:=st)
 unfold zEd
 rw[show(decide (e.pal.num=0)&&decide (e.pal.hues.length=0))=zPal e.pal from rfl]at h62
 rw[show(decide (e.grp.num=0)&&decide (e.grp.chans.length=0))=zGrp e.grp from rfl]at h63
 rw[show(decide (e.sub.num=0)&&(decide (e.sub.prio=0)&&(!e.sub.inh&&decide (e.sub.gains.length=0))))=zSub e.sub from rfl]at h64
 rw[show(decide (e.eff.num=0)&&(decide (e.eff.attr=0)&&(decide (e.eff.wave.length=0)&&(decide (e.eff.period=0)&&(decide (e.eff.spread=0)&&decide (e.eff.size=0))))))=zEff e.eff from rfl]at h65
 have hfx:zFix e.fix=(e.fix.chan == 0&&(e.fix.part == 0&&(e.fix.prof == []&&(e.fix.univ == 0&&(e.fix.addr == 0&&(e.fix.phase == 0&&e.fix.cable == [])))))):=rfl
 rw[hfx]
 generalize zCu e.cue=z1 at *
 generalize zPal e.pal=z2 at *
 generalize zGrp e.grp=z3 at *
 generalize zSub e.sub=z4 at *
 generalize zEff e.eff=z5 at *
 rw[run_shut F42 rfl rfl (by simp)]
 push_cast[Cu.v,Pal.v,Grp.v,Sb.v,Eff.v]at h61 h62 h63 h64 h65
 have r:(!decide (¬e.kind=0∨¬e.num=0∨¬e.chan=0∨¬e.prio=0∨¬e.key=[]∨z1=false))=(decide (e.kind=0)&&(decide (e.num=0)&&(decide (e.chan=0)&&(decide (e.prio=0)&&(decide (e.key=[])&&z1))))):=by
  rw[Bool.eq_iff_iff];simp[not_or]
 push_cast[Edi.v,h61,h62,h63,h64,h65]
 rw[r]
def tgB (k:Int):Bool:=(decide (0≤k)&&decide (k≤9))||(decide (k=14)||(decide (k=15)||k == 16))
theorem f33 {k:Int}{st:St}:run Tryz.prog HH 33 [.int .i64 k] st=some (.ret (.bool (tgB k)),st):=by
 have e:tgB k=(if 0≤k then decide (k≤9)||(decide (k=14)||(decide (k=15)||k == 16)) else decide (k=14)||(decide (k=15)||k == 16)):=by
  unfold tgB;by_cases h:0≤k<;>simp[h]
 rw[e,run_shut F33 rfl rfl (by simp)]
 push_cast
def lvB (k:Int):Bool:=decide (k=6)||(decide (k=7)||(decide (k=9)||(decide (k=10)||(decide (k=11)||k == 15))))
theorem f35 {k:Int}{st:St}:run Tryz.prog HH 35 [.int .i64 k] st=some (.ret (.bool (lvB k)),st):=by
 rw[lvB,run_shut F35 rfl rfl (by simp)]
 push_cast
def tmB (k:Int):Bool:=decide (k=7)||(decide (k=8)||(decide (k=9)||(decide (k=10)||k == 12)))
theorem f37 {k:Int}{st:St}:run Tryz.prog HH 37 [.int .i64 k] st=some (.ret (.bool (tmB k)),st):=by
 rw[tmB,run_shut F37 rfl rfl (by simp)]
 push_cast
def levC (k v:Int):Int:=if k=6∨k=15 then inC v 1 400 else if k=11 then inC v 0 1 else inC v 0 65535
theorem f36 {k v:Int}{st:St}:run Tryz.prog HH 36 [.int .i64 k,.int .i64 v] st=some (.ret (.int .i64 (levC k v)),st):=by
 unfold levC inC
 rw[run_shut F36 rfl rfl (by simp)]
 by_cases h1:k=6
 ·subst h1;push_cast;simp
 ·by_cases h2:k=15
  ·subst h2;push_cast;simp
  ·by_cases h3:k=11
   ·subst h3;push_cast;simp
   ·push_cast[h1,h2,h3];simp
def numR (a:Act):Int:=if tgB a.kind=true∧(a.targ<1∨1048576<a.targ) then 2 else if a.kind=1∧¬numC a.cue=0 then numC a.cue else if lvB a.kind=true∧¬levC a.kind a.lev=0 then levC a.kind a.lev else if tmB a.kind=true∧(a.dur<0∨10000000<a.dur) then 2 else 0
structure Act.okA (a:Act):Prop where
 cue:a.cue.length<140737488355328
 ents:a.ents.length<140737488355328
 prms:a.prms.length<140737488355328
 chans:a.chans.length<140737488355328
 edt:a.edt.okE
theorem f17 {a:Act}(h:a.okA){st:St}:run Tryz.prog HH 17 [a.v] st=some (.ret (.int .i64 (numR a)),st):=by
 have h33:=fun(st:St)=>f33 (k:=a.kind) (st:=st)
 have h34:=fun(st:St)=>f34 (s:=a.cue) h.cue (st:=st)
 have h35:=fun(st:St)=>f35 (k:=a.kind) (st:=st)
 have h36:=fun(st:St)=>f36 (k:=a.kind) (v:=a.lev) (st:=st)
 have h37:=fun(st:St)=>f37 (k:=a.kind) (st:=st)
 unfold numR
 rw[run_shut F17 rfl rfl (by simp)]
 generalize tgB a.kind=z1 at *
 generalize lvB a.kind=z2 at *
 generalize tmB a.kind=z3 at *
 generalize levC a.kind a.lev=z4 at *
 generalize numC a.cue=z5 at *
 push_cast[Act.v,h33,h34,h35,h36,h37]
def lisR (a:Act):Int:=if a.kind=12 then(if a.ents.length=0 then 12 else enRS a.ents) else if a.kind=13 then prRS a.prms else if a.kind=14 then chS a.chans else if a.kind=17 then edtR a.edt else 0
theorem f18 {a:Act}(h:a.okA){st:St}:run Tryz.prog HH 18 [a.v] st=some (.ret (.int .i64 (lisR a)),st):=by
 have h38:=fun(st:St)=>f38 (l:=a.ents) h.ents (st:=st)
 have h39:=fun(st:St)=>f39 (l:=a.prms) h.prms (st:=st)
 have h40:=fun(st:St)=>f40 (l:=a.chans) h.chans (st:=st)
 have h41:=fun(st:St)=>f41 (e:=a.edt) h.edt (st:=st)
 unfold lisR
 rw[run_shut F18 rfl rfl (by simp)]
 push_cast[Edi.v]at h41
 by_cases k1:a.kind=12
 ·by_cases k2:a.ents.length=0
  ·have k3:(a.ents.length:Int)=0:=by omega
   push_cast[Act.v,h38,k1,k2,k3]
  ·have k3:¬(a.ents.length:Int)=0:=by omega
   push_cast[Act.v,h38,k1,k2,k3]
 ·by_cases k2:a.kind=13
  ·push_cast[Act.v,h39,k1,k2]
  ·by_cases k3:a.kind=14
   ·push_cast[Act.v,h40,k1,k2,k3]
   ·by_cases k4:a.kind=17
    ·push_cast[Act.v,h41,k1,k2,k3,k4]
    ·push_cast[Act.v,k1,k2,k3,k4]
def idlR (a:Act):Bool:=(tgB a.kind||decide (a.targ=0))&&((decide (a.kind=1)||decide (a.cue=[]))&&((lvB a.kind||decide (a.lev=0))&&((tmB a.kind||decide (a.dur=0))&&((decide (a.kind=12)||decide (a.ents.length=0))&&((decide (a.kind=13)||decide (a.prms.length=0))&&((decide (a.kind=14)||decide (a.chans.length=0))&&(decide (a.kind=17)||zEd a.edt)))))))
theorem f19 {a:Act}(h:a.okA){st:St}:run Tryz.prog HH 19 [a.v] st=some (.ret (.bool (idlR a)),st):=by
 have h33:=fun(st:St)=>f33 (k:=a.kind) (st:=st)
 have h35:=fun(st:St)=>f35 (k:=a.kind) (st:=st)
 have h37:=fun(st:St)=>f37 (k:=a.kind) (st:=st)
 have h42:=fun(st:St)=>f42 (e:=a.edt) h.edt (st:=st)
 unfold idlR
 rw[run_shut F19 rfl rfl (by simp)]
 generalize tgB a.kind=z1 at *
 generalize lvB a.kind=z2 at *
 generalize tmB a.kind=z3 at *
 generalize zEd a.edt=z4 at *
 push_cast[Edi.v]at h42
 have n1:(0<(a.ents.length:Int))=¬a.ents.length=0:=propext (by omega)
 have n2:(0<(a.prms.length:Int))=¬a.prms.length=0:=propext (by omega)
 have n3:(0<(a.chans.length:Int))=¬a.chans.length=0:=propext (by omega)
 push_cast[Act.v,h33,h35,h37,h42,n1,n2,n3]
 congr 4
 generalize a.ents.length=l1
 generalize a.prms.length=l2
 generalize a.chans.length=l3
 rw[Bool.eq_iff_iff]
 by_cases k1:a.kind=1
 ·cases z1<;>cases z2<;>cases z3<;>cases z4<;>simp[k1,not_or,and_assoc]
 ·by_cases k2:a.kind=12
  ·cases z1<;>cases z2<;>cases z3<;>cases z4<;>simp[k2,not_or,and_assoc]
  ·by_cases k3:a.kind=13
   ·cases z1<;>cases z2<;>cases z3<;>cases z4<;>simp[k3,not_or,and_assoc]
   ·cases z1<;>cases z2<;>cases z3<;>cases z4<;>simp[k1,k2,k3,not_or,and_assoc]
end Go.Proofs.YteggomljbalaaaaGreatDoor

namespace Go.Proofs.YteggomljbalaaaaGreatDoor
open Go.Sha
set_option maxRecDepth 100000
variable {g:List (Nat×Obj)}{n:Nat}
theorem mem_at {α:Type}{l r:List α}{q:α}{j:Nat}(hd:l.drop j=q::r):q∈l:=List.mem_of_mem_drop (hd▸List.mem_cons_self ..)
structure Ftr.ok (q:Ftr):Prop where
 a:q.wheel.length<140737488355328
 b:∀z∈q.wheel,z.name.length<140737488355328
structure Prof.okR (p:Prof):Prop where
 a:p.feats.length<140737488355328
 b:∀q∈p.feats,q.ok
 c:p.name.length<140737488355328
end Go.Proofs.YteggomljbalaaaaGreatDoor

namespace Go.Proofs.YteggomljbalaaaaGreatDoor
open Go.Sha
set_option maxRecDepth 10000
end Go.Proofs.YteggomljbalaaaaGreatDoor

namespace Go.Proofs.YteggomljbalaaaaGreatDoor
open Go.Sha
set_option maxRecDepth 100000
variable {g:List (Nat×Obj)}{n:Nat}
theorem take_snoc {α:Type}{l r:List α}{q:α}{j:Nat}(hd:l.drop j=q::r):l.take (j+1)=l.take j++[q]:=by
 have h:=congrArg (·[0]?) hd
 simp at h
 rw[List.take_add_one,h];rfl
end Go.Proofs.YteggomljbalaaaaGreatDoor

namespace Go.Proofs.YteggomljbalaaaaGreatDoor
open Go.Sha
set_option maxRecDepth 100000
variable {g:List (Nat×Obj)}{n:Nat}
end Go.Proofs.YteggomljbalaaaaGreatDoor

namespace Go.Proofs.YteggomljbalaaaaGreatDoor
open Go.Sha
set_option maxRecDepth 10000
end Go.Proofs.YteggomljbalaaaaGreatDoor

namespace Go.Proofs.YteggomljbalaaaaGreatDoor
open Go.Sha
set_option maxRecDepth 100000
variable {g:List (Nat×Obj)}{n:Nat}
end Go.Proofs.YteggomljbalaaaaGreatDoor

namespace Go.Proofs.YteggomljbalaaaaGreatDoor
open Go.Sha
set_option maxRecDepth 100000
variable {g:List (Nat×Obj)}{n:Nat}
def Pok (l:List Prof):Prop:=l.length<140737488355328∧(∀q∈l,q.ok)∧∀q∈l,q.okR
def Xok (l:List Fixt):Prop:=l.length<140737488355328∧∀x∈l,x.cable.length<140737488355328
end Go.Proofs.YteggomljbalaaaaGreatDoor

namespace Go.Proofs.YteggomljbalaaaaGreatDoor
open Go.Sha
set_option maxRecDepth 100000
theorem prmC_ok {c:Int}{x:Prm}(h:prmC c x=0):c≤x.chan∧x.chan≤999∧0≤x.attr∧x.attr≤14:=by
 unfold prmC at h;split at h<;>omega
theorem cmp_bef {x y:Prm}{c d:Int}(hc:0≤c)(hd:0≤d)(hx:prmC c x=0)(hy:prmC d y=0):(0≤cmpP x y)=(befP x y=false):=by
 have a:=prmC_ok hx;have b:=prmC_ok hy
 have w1:IntKind.i64.wrap (x.chan-y.chan)=x.chan-y.chan:=iwrap (by omega) (by omega)
 have w2:IntKind.i64.wrap (x.attr-y.attr)=x.attr-y.attr:=iwrap (by omega) (by omega)
 unfold cmpP befP
 rw[w1,w2,eq_iff_iff]
 simp only[Bool.or_eq_false_iff,Bool.and_eq_false_iff,decide_eq_false_iff_not]
 split<;>omega
theorem mem_prev {α:Type}[Inhabited α]{l:List α}{j:Nat}(h0:0<j)(h:j≤l.length):l.getD (j-1) default∈l.take j:=by
 rw[List.getD_eq_getElem?_getD,List.getElem?_eq_getElem (by omega)]
 exact List.mem_iff_getElem?.2 ⟨j-1,by rw[List.getElem?_take,if_pos (by omega),List.getElem?_eq_getElem (by omega)];rfl⟩
theorem drop_le {α:Type}{l r:List α}{q:α}{j:Nat}(hd:l.drop j=q::r):j<l.length:=by
 have:=congrArg List.length hd;simp at this;omega
theorem all_snoc {α:Type}{l r:List α}{q:α}{j:Nat}{P:α→Prop}(hd:l.drop j=q::r)(h:∀z∈l.take j,P z)(hq:P q):∀z∈l.take (j+1),P z:=by
 rw[take_snoc hd];intro z hz
 rcases List.mem_append.1 hz with hz|hz
 ·exact h z hz
 ·rw[List.mem_singleton.1 hz];exact hq
theorem drop_succ {α:Type}{l r:List α}{q:α}{j:Nat}(hd:l.drop j=q::r):l.drop (j+1)=r:=by rw[←List.drop_drop,hd];rfl
end Go.Proofs.YteggomljbalaaaaGreatDoor

namespace Go.Proofs.YteggomljbalaaaaGreatDoor
open Go.Sha
set_option maxRecDepth 100000
variable {g:List (Nat×Obj)}{n:Nat}
def Lok (l:List Lst):Prop:=l.length<140737488355328∧∀q∈l,q.ok
end Go.Proofs.YteggomljbalaaaaGreatDoor

namespace Go.Proofs.YteggomljbalaaaaGreatDoor
open Go.Sha
set_option maxRecDepth 100000
variable {g:List (Nat×Obj)}{n:Nat}
structure Sho.ok (x:Sho):Prop where
 t:x.title.length<140737488355328
 c:Cok x.curves
 p:Pok x.profs
 f:Xok x.fixts
 g:x.grps.length<140737488355328∧∀q∈x.grps,q.chans.length<140737488355328
 l:x.pals.length<140737488355328∧∀q∈x.pals,q.hues.length<140737488355328
 k:Lok x.lsts
 s:x.subs.length<140737488355328∧∀q∈x.subs,q.gains.length<140737488355328
 e:x.effs.length<140737488355328∧∀q∈x.effs,q.wave.length<140737488355328
end Go.Proofs.YteggomljbalaaaaGreatDoor

namespace Go.Proofs.YteggomljbalaaaaGreatDoor
open Go.Sha
set_option maxRecDepth 10000
def B30_0:Cd:=(.join [0,3] (.join [0,3,11] (.reg [.m 4 3,.m 5 0,.u 6 5,.b 7 .lss 4 6,.m 8 7,.my 9 3 8,.vy 10 .lss 9 60 8,.e 11 8 10]) (.i 11 .skip (.exit [0] 0))) (.join [0,3] (.block 1 (.join [0,3,29] (.reg [.m 14 0,.m 15 3,.r 16 2 14 15,.a 17 1 16,.l 18 17,.u 19 18,.v 20 .gtr 19 40,.m 21 20,.my 22 0 21,.my 23 3 21,.ry 24 2 22 23 21,.ay 25 1 24 21,.ly 26 25 21,.y 27 (.len (.t 26)) 21,.vy 28 .leq 27 256 21,.e 29 21 28]) (.i 29 (.g [.k 2 false] (.ret [2])) .skip))) (.reg [.m 12 3,.v 13 .add 12 1,.m 3 13])))
theorem F30:compF Tryz.prog 30=some ⟨33,[.tmp 2],(.g [.k 2 false] (.join [0] (.g [.c 3 0] (.block 0 (.loop [0,3] [] B30_0))) (.g [.m 30 0,.u 31 30,.v 32 .leq 31 60,.m 2 32] (.ret [2]))))⟩:=by kernel_rfl
def B29_0:Cd:=(.join [0,3] (.g [.m 7 3,.m 8 0,.u 9 8,.b 10 .lss 7 9] (.i 10 .skip (.exit [] 0))) (.join [0,3] (.block 1 (.g [.m 13 0,.m 14 3,.r 15 2 13 14,.a 16 1 15,.l 17 16,.u 18 17,.v 19 .gtr 18 512] (.i 19 (.g [.k 2 false] (.ret [2])) .skip))) (.reg [.m 11 3,.v 12 .add 11 1,.m 3 12])))
theorem F29:compF Tryz.prog 29=some ⟨20,[.tmp 2],(.g [.k 2 false] (.join [0] (.g [.m 4 0,.u 5 4,.v 6 .gtr 5 64] (.i 6 (.g [.k 2 false] (.ret [2])) .skip)) (.join [] (.g [.c 3 0] (.block 0 (.loop [0,3] [] B29_0))) (.g [.k 2 true] (.ret [2])))))⟩:=by kernel_rfl
def B31_0:Cd:=(.join [0,3] (.join [0,3,11] (.reg [.m 4 3,.m 5 0,.u 6 5,.b 7 .lss 4 6,.m 8 7,.my 9 3 8,.vy 10 .lss 9 40 8,.e 11 8 10]) (.i 11 .skip (.exit [0] 0))) (.join [0,3] (.block 1 (.join [0,3,29] (.reg [.m 14 0,.m 15 3,.r 16 4 14 15,.a 17 3 16,.l 18 17,.u 19 18,.v 20 .gtr 19 30,.m 21 20,.my 22 0 21,.my 23 3 21,.ry 24 4 22 23 21,.ay 25 3 24 21,.ly 26 25 21,.y 27 (.len (.t 26)) 21,.vy 28 .leq 27 128 21,.e 29 21 28]) (.i 29 (.g [.k 2 false] (.ret [2])) .skip))) (.reg [.m 12 3,.v 13 .add 12 1,.m 3 13])))
theorem F31:compF Tryz.prog 31=some ⟨33,[.tmp 2],(.g [.k 2 false] (.join [0] (.g [.c 3 0] (.block 0 (.loop [0,3] [] B31_0))) (.g [.m 30 0,.u 31 30,.v 32 .leq 31 40,.m 2 32] (.ret [2]))))⟩:=by kernel_rfl
def B32_0:Cd:=(.join [1,5] (.join [1,5,31] (.reg [.m 24 5,.m 25 1,.u 26 25,.b 27 .lss 24 26,.m 28 27,.my 29 5 28,.vy 30 .lss 29 4 28,.e 31 28 30]) (.i 31 .skip (.exit [] 0))) (.join [1,5] (.block 1 (.join [1,5,49] (.reg [.m 34 1,.m 35 5,.r 36 6 34 35,.a 37 1 36,.l 38 37,.u 39 38,.v 40 .gtr 39 8,.m 41 40,.my 42 1 41,.my 43 5 41,.ry 44 6 42 43 41,.ay 45 1 44 41,.ly 46 45 41,.y 47 (.len (.t 46)) 41,.vy 48 .leq 47 256 41,.e 49 41 48]) (.i 49 (.g [.k 4 false] (.ret [4])) .skip))) (.reg [.m 32 5,.v 33 .add 32 1,.m 5 33])))
theorem F32:compF Tryz.prog 32=some ⟨50,[.tmp 4],(.g [.k 4 false] (.join [1] (.join [1,23] (.reg [.m 6 0,.u 7 6,.v 8 .gtr 7 4,.m 9 8,.my 10 0 9,.y 11 (.len (.t 10)) 9,.vy 12 .leq 11 16 9,.e 13 9 12,.m 14 13,.mx 15 1 14,.x 16 (.len (.t 15)) 14,.vx 17 .gtr 16 4 14,.mx 18 17 14,.my 19 1 18,.y 20 (.len (.t 19)) 18,.vy 21 .leq 20 16 18,.x 22 (.pick (.t 18) (.t 21) (.c (.bool false))) 14,.o 23 14 22]) (.i 23 (.g [.k 4 false] (.ret [4])) .skip)) (.join [] (.g [.c 5 0] (.block 0 (.loop [1,5] [] B32_0))) (.g [.k 4 true] (.ret [4])))))⟩:=by kernel_rfl
theorem F28:compF Tryz.prog 28=some ⟨30,[.tmp 2],(.g [.q 1 29 0,.k 2 false] (.z [1] (.join [2] (.reg [.a 3 0 1,.l 4 3,.s 5 (.lens (.t 4)),.v 6 .leq 5 40,.m 7 6,.ay 8 1 1 7,.ly 9 8 7,.y 10 (.lens (.t 9)) 7,.vy 11 .leq 10 100 7,.e 12 7 11,.m 13 12,.ay 14 7 1 13,.ly 15 14 13,.y 16 (.lens (.t 15)) 13,.vy 17 .leq 16 40 13,.e 18 13 17,.m 19 18,.ay 20 3 1 19,.ly 21 20 19,.y 22 (.len (.t 21)) 19,.vy 23 .leq 22 10 19,.e 24 19 23,.m 25 24,.ay 26 2 1 25,.ly 27 26 25,.y 28 (.f 53 [.t 27]) 25,.e 29 25 28,.m 2 29]) (.ret [2]))))⟩:=by kernel_rfl
theorem F53:compF Tryz.prog 53=some ⟨6,[.tmp 2],(.g [.k 2 false] (.g [.m 3 0,.u 4 3,.v 5 .leq 4 300,.m 2 5] (.ret [2])))⟩:=by kernel_rfl
end Go.Proofs.YteggomljbalaaaaGreatDoor

namespace Go.Proofs.YteggomljbalaaaaGreatDoor
open Go.Sha
set_option maxRecDepth 100000
variable {g:List (Nat×Obj)}{n:Nat}
def anyN {α:Type}(m:Int)(p:α→Prop)[DecidablePred p]:List α→Nat→Bool
 |[],_=>false
 |q::r,j=>if(j:Int)<m then if p q then true else anyN m p r (j+1) else false
theorem L30 {l:List Grp}(hl:l.length<140737488355328):∀r j,l.drop j=r→runL Tryz.prog HH [0,3] n B30_0 [(0,.sl (l.map Grp.v)),(3,.int .i64 j)] (stN g n)=lpB (stN g n) [(0,.sl (l.map Grp.v))] 2 (anyN 60 (fun q:Grp=>40<(q.chans.length:Int)∧(q.chans.length:Int)≤256) r j) false:=by
 refine drop_ind (fun j h=>?_) (fun q r j h hx hd ih=>?_)
 all_goals rw[runL_of B30_0.eq_1]
 ·have h1:¬(j:Int)<l.length:=by omega
  push_cast[h1,anyN,Grp.v]
 ·have h1:(j:Int)<l.length:=by omega
  have hw:=iw1 (j:=j) (by omega)
  push_cast[h1,hw,hx,Grp.v]at ih ⊢
  simp only[ih,anyN,lps,Int.reduceEq,not_false_eq_true]
  all_goals first|with_reducible rfl|exact dn_eq (by omega) (by with_reducible rfl)|((repeat' split)<;>(try simp_all)<;>(try (with_reducible refine dn_eq ?_ ?_<;>first|trivial|omega|rfl))<;>(try omega))
theorem f30 {l:List Grp}(hl:l.length<140737488355328):∃b,∀st,run Tryz.prog HH 30 [.sl (l.map Grp.v)] st=some (.ret (.bool b),st):=by
 refine⟨if anyN 60 (fun q:Grp=>40<(q.chans.length:Int)∧(q.chans.length:Int)≤256) l 0=true then false else decide ((l.length:Int)≤60),fun st=>?_⟩
 rw[run_shut F30 rfl rfl (by simp)]
 have hL0:=fun n=>L30 (g:=st.x.gl) (n:=n) hl _ 0 rfl
 push_cast at hL0
 push_cast[hL0,lpE,lpX,lpI,lpB]
 all_goals first|with_reducible rfl|exact dn_eq (by omega) (by with_reducible rfl)|((repeat' split)<;>(try simp_all)<;>(try (with_reducible refine dn_eq ?_ ?_<;>first|trivial|omega|rfl))<;>(try omega))
def anyP {α:Type}(p:α→Prop)[DecidablePred p]:List α→Bool
 |[]=>false
 |q::r=>if p q then true else anyP p r
theorem L29 {l:List Pal}(hl:l.length<140737488355328):∀r j,l.drop j=r→runL Tryz.prog HH [0,3] n B29_0 [(0,.sl (l.map Pal.v)),(3,.int .i64 j)] (stN g n)=lpB (stN g n) [] 2 (anyP (fun q:Pal=>512<(q.hues.length:Int)) r) false:=by
 refine drop_ind (fun j h=>?_) (fun q r j h hx hd ih=>?_)
 all_goals rw[runL_of B29_0.eq_1]
 ·have h1:¬(j:Int)<l.length:=by omega
  push_cast[h1,anyP,Pal.v]
 ·have h1:(j:Int)<l.length:=by omega
  have hw:=iw1 (j:=j) (by omega)
  push_cast[h1,hw,hx,Pal.v]at ih ⊢
  simp only[ih,anyP,lps,Int.reduceEq,not_false_eq_true]
  all_goals first|with_reducible rfl|exact dn_eq (by omega) (by with_reducible rfl)|((repeat' split)<;>(try simp_all)<;>(try (with_reducible refine dn_eq ?_ ?_<;>first|trivial|omega|rfl))<;>(try omega))
theorem f29 {l:List Pal}(hl:l.length<140737488355328):∃b,∀st,run Tryz.prog HH 29 [.sl (l.map Pal.v)] st=some (.ret (.bool b),st):=by
 refine⟨if 64<(l.length:Int) then false else if anyP (fun q:Pal=>512<(q.hues.length:Int)) l=true then false else true,fun st=>?_⟩
 rw[run_shut F29 rfl rfl (by simp)]
 have hL0:=fun n=>L29 (g:=st.x.gl) (n:=n) hl _ 0 rfl
 push_cast at hL0
 push_cast[hL0,lpE,lpX,lpI,lpB]
 all_goals first|with_reducible rfl|exact dn_eq (by omega) (by with_reducible rfl)|((repeat' split)<;>(try simp_all)<;>(try (with_reducible refine dn_eq ?_ ?_<;>first|trivial|omega|rfl))<;>(try omega))
theorem L31 {l:List Sb}(hl:l.length<140737488355328):∀r j,l.drop j=r→runL Tryz.prog HH [0,3] n B31_0 [(0,.sl (l.map Sb.v)),(3,.int .i64 j)] (stN g n)=lpB (stN g n) [(0,.sl (l.map Sb.v))] 2 (anyN 40 (fun q:Sb=>30<(q.gains.length:Int)∧(q.gains.length:Int)≤128) r j) false:=by
 refine drop_ind (fun j h=>?_) (fun q r j h hx hd ih=>?_)
 all_goals rw[runL_of B31_0.eq_1]
 ·have h1:¬(j:Int)<l.length:=by omega
  push_cast[h1,anyN,Sb.v]
 ·have h1:(j:Int)<l.length:=by omega
  have hw:=iw1 (j:=j) (by omega)
  push_cast[h1,hw,hx,Sb.v]at ih ⊢
  simp only[ih,anyN,lps,Int.reduceEq,not_false_eq_true]
  all_goals first|with_reducible rfl|exact dn_eq (by omega) (by with_reducible rfl)|((repeat' split)<;>(try simp_all)<;>(try (with_reducible refine dn_eq ?_ ?_<;>first|trivial|omega|rfl))<;>(try omega))
theorem f31 {l:List Sb}(hl:l.length<140737488355328):∃b,∀st,run Tryz.prog HH 31 [.sl (l.map Sb.v)] st=some (.ret (.bool b),st):=by
 refine⟨if anyN 40 (fun q:Sb=>30<(q.gains.length:Int)∧(q.gains.length:Int)≤128) l 0=true then false else decide ((l.length:Int)≤40),fun st=>?_⟩
 rw[run_shut F31 rfl rfl (by simp)]
 have hL0:=fun n=>L31 (g:=st.x.gl) (n:=n) hl _ 0 rfl
 push_cast at hL0
 push_cast[hL0,lpE,lpX,lpI,lpB]
 all_goals first|with_reducible rfl|exact dn_eq (by omega) (by with_reducible rfl)|((repeat' split)<;>(try simp_all)<;>(try (with_reducible refine dn_eq ?_ ?_<;>first|trivial|omega|rfl))<;>(try omega))
theorem f32 {l:List Eff}:∃b,∀st,run Tryz.prog HH 32 [.sl (l.map Eff.v),.sl []] st=some (.ret (.bool b),st):=by
 refine⟨if 4<(l.length:Int)∧(l.length:Int)≤16 then false else true,fun st=>?_⟩
 rw[run_shut F32 rfl rfl (by simp)]
 push_cast[runL_of B32_0.eq_1]
 all_goals first|with_reducible rfl|exact dn_eq (by omega) (by with_reducible rfl)|((repeat' split)<;>(try simp_all)<;>(try (with_reducible refine dn_eq ?_ ?_<;>first|trivial|omega|rfl))<;>(try omega))
def few129 (x:Cu):Bool:=decide ((x.num.length:Int)≤40)&&(decide ((x.label.length:Int)≤100)&&(decide ((x.link.length:Int)≤40)&&(decide ((x.parts.length:Int)≤10)&&decide ((x.moves.length:Int)≤300))))
theorem f28 {x:Cu}{st:St}:run Tryz.prog HH 28 [x.v] st=some (.ret (.bool (few129 x)),st):=by
 rw[run_shut F28 rfl rfl (by simp)]
 push_cast[Cu.v,(fun(a0:V) (st:St) (h:V.bdL 0 [a0]=true)=>run_shut (P:=Tryz.prog) (H:=HH) (args:=[a0]) (st:=st) F53 rfl rfl h),few129]
end Go.Proofs.YteggomljbalaaaaGreatDoor

namespace Go.Proofs.YteggomljbalaaaaGreatDoor
open Go.Sha
set_option maxRecDepth 100000
variable {g:List (Nat×Obj)}{n:Nat}
def actR (a:Act):Int:=if a.kind<0∨19<a.kind then 1 else if a.when<0∨10000000<a.when then 2 else if ¬numR a=0 then numR a else if ¬lisR a=0 then lisR a else if idlR a=false then 3 else 0
theorem f8 {a:Act}(h:a.okA){st:St}:run Tryz.prog HH 8 [a.v] st=some (.ret (.int .i64 (actR a)),st):=by
 have h17:=fun(st:St)=>f17 h (st:=st)
 have h18:=fun(st:St)=>f18 h (st:=st)
 have h19:=fun(st:St)=>f19 h (st:=st)
 unfold actR
 rw[run_shut F8 rfl rfl (by simp)]
 generalize numR a=z1 at *
 generalize lisR a=z2 at *
 generalize idlR a=z3 at *
 push_cast[Act.v,Edi.v]at h17 h18 h19
 push_cast[Act.v,Edi.v,h17,h18,h19]
def logR (l:List Act):List Act→Nat→Int
 |[],_=>0
 |q::r,j=>if ¬actR q=0 then actR q else if 0<j∧q.when<(l.getD (j-1) default).when then 9 else logR l r (j+1)
theorem L7 {l:List Act}(hl:l.length<140737488355328)(hb:∀q∈l,q.okA):∀r j,l.drop j=r→runL Tryz.prog HH [0,3] n B7_0 [(0,.sl (l.map Act.v)),(3,.int .i64 j)] (stN g n)=lpE (stN g n) [] 2 (logR l r j):=by
 refine drop_ind (fun j h=>?_) (fun q r j h hx hd ih=>?_)
 all_goals rw[runL_of B7_0.eq_1]
 ·have h1:¬(j:Int)<l.length:=by omega
  push_cast[h1,logR,lps]
 ·have h1:(j:Int)<l.length:=by omega
  have hw:=iw1 (j:=j) (by omega)
  have h8:=fun(st:St)=>f8 (hb q (mem_at hd)) (st:=st)
  rw[logR]
  generalize actR q=z at *
  push_cast[Act.v,Edi.v]at h8
  by_cases hz:z=0
  ·rw[if_neg (by simp[hz])]
   by_cases hj:0<j
   ·obtain⟨k,hk⟩:∃k,k=j-1:=⟨_,rfl⟩
    rw[←hk]
    have hkl:k<l.length:=by omega
    have hj0:(0:Int)<(j:Int):=by omega
    have hk1:(j:Int)-1=(k:Int):=by omega
    have hwk:IntKind.i64.wrap (k:Int)=(k:Int):=iwrap (by omega) (by omega)
    have hg:∀d,l.getD k d=l.getD k default:=fun d=>by rw[List.getD_eq_getElem?_getD,List.getD_eq_getElem?_getD,List.getElem?_eq_getElem hkl];rfl
    generalize l.getD k default=y at *
    by_cases hc:q.when<y.when
    ·rw[if_pos ⟨hj,hc⟩]
     push_cast[h,h1,hw,hx,h8,hz,hkl,hj0,hk1,hwk,hg,hc,lps,Act.v,Edi.v]
     exact dn_eq (by omega) rfl
    ·rw[if_neg (fun e=>hc e.2)]
     push_cast[h,h1,hw,hx,h8,hz,hkl,hj0,hk1,hwk,hg,hc,Act.v,Edi.v]at ih ⊢
     exact dn_eq (by omega) ih
   ·have hj0:j=0:=by omega
    subst hj0
    rw[if_neg (by omega)]
    have h1z:(0:Int)<(l.length:Int):=by omega
    push_cast[h1,h1z,hw,hx,h8,hz,Act.v,Edi.v]at ih ⊢
    exact ih
  ·rw[if_pos hz]
   push_cast[h1,hw,hx,h8,hz,lps,Act.v,Edi.v]
def logRS (l:List Act):Int:=if 256<(l.length:Int) then 5 else logR l l 0
theorem f7 {l:List Act}(hl:l.length<140737488355328)(hb:∀q∈l,q.okA){st:St}:run Tryz.prog HH 7 [.sl (l.map Act.v)] st=some (.ret (.int .i64 (logRS l)),st):=by
 have hL:=L7 (g:=st.x.gl) (n:=0) hl hb _ 0 rfl
 rw[List.drop_zero]at hL
 unfold logRS
 generalize logR l l 0=z at *
 rw[run_shut F7 rfl rfl (by simp)]
 by_cases h:256<(l.length:Int)
 ·push_cast[h]
 ·rw[if_neg h]
  by_cases hz:z=0
  ·push_cast[hz,lps]at hL
   push_cast[h,hz,hL]
  ·push_cast[hz,lps]at hL
   push_cast[h,hL]
theorem f16 {e:Edi}(h:e.okE):∃b,∀st,run Tryz.prog HH 16 [e.v] st=some (.ret (.bool b),st):=by
 obtain⟨b1,h29⟩:=f29 (l:=[e.pal]) (by simp)
 obtain⟨b2,h30⟩:=f30 (l:=[e.grp]) (by simp)
 obtain⟨b3,h31⟩:=f31 (l:=[e.sub]) (by simp)
 obtain⟨b4,h32⟩:=f32 (l:=[e.eff])
 have h28:=fun(st:St)=>f28 (x:=e.cue) (st:=st)
 refine⟨?b,fun st=>?_⟩
 rotate_left
 ·rw[run_shut F16 rfl rfl (by simp)]
  push_cast[Cu.v,Pal.v,Grp.v,Sb.v,Eff.v,List.map_cons,List.map_nil]at h28 h29 h30 h31 h32
  push_cast[Edi.v,h28,h29,h30,h31,h32]
  rfl
theorem f15 {l:List Ent}:∃b,∀st,run Tryz.prog HH 15 [.sl (l.map Ent.v)] st=some (.ret (.bool b),st):=by
 refine⟨?b,fun st=>?_⟩
 rotate_left
 ·rw[run_shut F15 rfl rfl (by simp)]
  push_cast
  rfl
theorem f6 {a:Act}(h:a.okA):∃b,∀st,run Tryz.prog HH 6 [a.v] st=some (.ret (.bool b),st):=by
 obtain⟨b1,h15⟩:=f15 (l:=a.ents)
 obtain⟨b2,h16⟩:=f16 h.edt
 refine⟨?b,fun st=>?_⟩
 rotate_left
 ·rw[run_shut F6 rfl rfl (by simp)]
  push_cast[Edi.v]at h16
  push_cast[Act.v,Edi.v,h15,h16]
  rfl
theorem L5 {l:List Act}(hl:l.length<140737488355328)(hb:∀q∈l,q.okA):∀r j,l.drop j=r→∃b:Bool,∀g n,runL Tryz.prog HH [0,3] n B5_0 [(0,.sl (l.map Act.v)),(3,.int .i64 j)] (stN g n)=lpB (stN g n) [] 2 b false:=by
 refine drop_ind (fun j h=>?_) (fun q r j h hx hd ih=>?_)
 ·have h1:¬(j:Int)<l.length:=by omega
  refine⟨false,fun g n=>?_⟩
  rw[runL_of B5_0.eq_1]
  push_cast[h1,lps]
 ·have h1:(j:Int)<l.length:=by omega
  have hw:=iw1 (j:=j) (by omega)
  obtain⟨b,h6⟩:=f6 (hb q (mem_at hd))
  obtain⟨z,ih⟩:=ih
  push_cast[Act.v,Edi.v]at h6
  cases b with
  |true =>
   refine⟨z,fun g n=>?_⟩
   have ih:=ih g n
   rw[runL_of B5_0.eq_1]
   push_cast[h1,hw,hx,h6,Act.v,Edi.v]at ih ⊢
   exact ih
  |false =>
   refine⟨true,fun g n=>?_⟩
   rw[runL_of B5_0.eq_1]
   push_cast[h1,hw,hx,h6,lps,Act.v,Edi.v]
theorem f5 {l:List Act}(hl:l.length<140737488355328)(hb:∀q∈l,q.okA):∃b,∀st,run Tryz.prog HH 5 [.sl (l.map Act.v)] st=some (.ret (.bool b),st):=by
 obtain⟨z,hL⟩:=L5 hl hb _ 0 rfl
 by_cases h:40<(l.length:Int)
 ·refine⟨?b,fun st=>?_⟩
  rotate_left
  ·rw[run_shut F5 rfl rfl (by simp)]
   push_cast[h]
   rfl
 ·cases z with
  |true =>
   refine⟨false,fun st=>?_⟩
   have hL:=hL st.x.gl 0
   rw[run_shut F5 rfl rfl (by simp)]
   push_cast[lps]at hL
   push_cast[h,hL]
  |false =>
   refine⟨true,fun st=>?_⟩
   have hL:=hL st.x.gl 0
   rw[run_shut F5 rfl rfl (by simp)]
   push_cast[lps]at hL
   push_cast[h,hL]
end Go.Proofs.YteggomljbalaaaaGreatDoor

namespace Go.Proofs.YteggomljbalaaaaGreatDoor
open Go.Sha
set_option maxRecDepth 10000
def B4_0:Cd:=(.g [.b 17 .lss 16 15] (.join [1,2,14,15,16] (.i 17 .skip (.exit [1,2] 0)) (.join [1,2,14,15,16] (.block 1 (.g [.r 18 1 14 16,.l 19 18,.m 4 19] (.g [.d 21 11 1,.m 22 4,.s 23 (.build [.i 0,.i 0,.i 0,.i 0,(.str []),(.str []),(.str []),.nils,.nils,(.bool false),(.bool false),.i 0,(.str []),.i 0,.i 0,.nils,.i 0,.nils,.i 0,.i 0,(.bool false),.nils,.i 0,.i 0,.nils,.i 0,.i 0,.i 0,.i 0,.i 0,(.str []),.i 0,.i 0,.i 0,(.str [])] [(0,1,(.i 13)),(4,1,(.t 22))]),.g' 24 12 21 23,.m 20 24,.j 25 0 20,.j 26 1 20,.s 5 (.alloc 73 [.nils,(.str []),.nils,.nils,.nils,.nils,.nils,.nils,.nils,.nils,.nils]),.w 11 5 25,.m 6 26] (.z [5] (.reg [.d 27 11 5,.m 28 2,.m 29 6,.b 30 .add 28 29,.w 11 1 27,.m 2 30]))))) (.reg [.v 31 .add 16 1,.m 16 31]))))
theorem F4:compF Tryz.prog 4=some ⟨73,[.tmp 0],(.g [.k 0 false] (.g [.s 13 (.build [.nils,(.str []),.nils,.nils,.nils,.nils,.nils,.nils,.nils,.nils,.nils] []),.s 1 (.alloc 73 [.nils,(.str []),.nils,.nils,.nils,.nils,.nils,.nils,.nils,.nils,.nils]),.w 11 1 13] (.g [.c 2 0] (.join [1,2] (.g [.s 14 (.bslice 9 1 [(.w [65]),(.w [66])]),.u 15 14,.c 16 0] (.block 0 (.loop [1,2,14,15,16] [] B4_0))) (.g [.d 33 11 1,.f 34 13 33,.m 32 34,.j 35 0 32,.j 36 1 32,.s 7 (.alloc 73 [.nils,(.str []),.nils,.nils,.nils,.nils,.nils,.nils,.nils,.nils,.nils]),.w 11 7 35,.m 8 36] (.z [7] (.g [.d 38 11 7,.f 39 13 38,.m 37 39,.j 40 0 37,.j 41 1 37,.s 9 (.alloc 73 [.nils,(.str []),.nils,.nils,.nils,.nils,.nils,.nils,.nils,.nils,.nils]),.w 11 9 40,.m 10 41] (.z [9] (.g [.d 43 11 9,.f 44 14 43,.m 42 44,.j 45 0 42,.j 46 1 42,.s 11 (.alloc 73 [.nils,(.str []),.nils,.nils,.nils,.nils,.nils,.nils,.nils,.nils,.nils]),.w 11 11 45,.m 12 46] (.z [11] (.join [0] (.reg [.m 47 2,.m 48 8,.b 49 .add 47 48,.m 50 10,.b 51 .add 49 50,.m 52 12,.b 53 .add 51 52,.v 54 .eql 53 0,.m 55 54,.ay 56 1 1 55,.ay 57 0 56 55,.ly 58 57 55,.y 59 (.bin .eql (.t 58) (.w [66])) 55,.e 60 55 59,.m 61 60,.ay 62 1 9 61,.ay 63 0 62 61,.ly 64 63 61,.y 65 (.bin .eql (.t 64) (.w [])) 61,.e 66 61 65,.m 67 66,.ay 68 1 11 67,.ay 69 0 68 67,.ly 70 69 67,.y 71 (.bin .eql (.t 70) (.w [65])) 67,.e 72 67 71,.m 0 72]) (.ret [0]))))))))))))⟩:=by kernel_rfl
end Go.Proofs.YteggomljbalaaaaGreatDoor

namespace Go.Proofs.YteggomljbalaaaaGreatDoor
open Go.Sha
set_option maxRecDepth 100000
theorem e4 (g:List (Nat×Obj)):evK Tryz.prog HH 100 30 4 [] (stG g)=some (.ret (.bool true),stG g):=by kernel_rfl
theorem at_gl {f:FuncId}{args:List V}{st:St}{r:VRes}(h:run Tryz.prog HH f args (stG st.x.gl)=some (r,stG st.x.gl))(hF:(compF Tryz.prog f).isSome=true)(hH:∀s:St,HH f args s=none)(hb:V.bdL 0 args=true):run Tryz.prog HH f args st=some (r,st):=by
 obtain⟨F,hF⟩:=Option.isSome_iff_exists.1 hF
 rw[run_eq (hH _) hF]at h ⊢
 unfold endF at h ⊢
 split at h
 ·rename_i hl
  rw[if_pos hl,if_pos hb]
  change shutR (stG st.x.gl) (rawE F.res (runC Tryz.prog HH F.c (argEnv 0 args) (stG st.x.gl)))=_ at h
  change shutR st (rawE F.res (runC Tryz.prog HH F.c (argEnv 0 args) (stG st.x.gl)))=_
  generalize rawE F.res (runC Tryz.prog HH F.c (argEnv 0 args) (stG st.x.gl))=X at h ⊢
  match X,h with
  |some (.ret v,s),h =>
   simp only[shutR]at h ⊢
   cases hg:(shutV s v).bd 0 with
   |true=>rw[hg]at h;simp only[guardT]at h ⊢;cases h;rfl
   |false=>rw[hg]at h;cases h
  |some (.pan v,s),h =>
   simp only[shutR]at h ⊢
   cases hg:(shutV s v).bd 0 with
   |true=>rw[hg]at h;simp only[guardT]at h ⊢;cases h;rfl
   |false=>rw[hg]at h;cases h
 ·cases h
theorem f4 {st:St}:run Tryz.prog HH 4 [] st=some (.ret (.bool true),st) :=
 at_gl (evK_run (e4 st.x.gl)) (by rw[F4];rfl) (fun _=>rfl) rfl
end Go.Proofs.YteggomljbalaaaaGreatDoor

namespace Go.Proofs.YteggomljbalaaaaGreatDoor
open Go.Sha
def Pt.sh:List CSh:=[.int .i64,.int .i64]
structure Pt.Dk (z:Pt):Prop where
 x:-9223372036854775808≤z.x∧z.x≤9223372036854775807
 y:-9223372036854775808≤z.y∧z.y≤9223372036854775807
theorem Pt.rd {vs:List V}(h:OkCs Pt.sh vs):∃x:Pt,V.agg vs=x.v∧x.Dk:=by
 obtain⟨v0,r0,rfl,h0,t0⟩:=h.cons_inv
 obtain⟨v1,r1,rfl,h1,t1⟩:=t0.cons_inv
 obtain rfl:=t1.nil_inv
 obtain⟨y0,rfl,b0⟩:=h0.i64_inv
 obtain⟨y1,rfl,b1⟩:=h1.i64_inv
 exact⟨⟨y0,y1⟩,rfl,⟨b0,b1⟩⟩
def Slt.sh:List CSh:=[.str,.int .i64,.int .i64]
structure Slt.Dk (z:Slt):Prop where
 name:z.name.length≤140737488351232
 fr:-9223372036854775808≤z.fr∧z.fr≤9223372036854775807
 to_:-9223372036854775808≤z.to_∧z.to_≤9223372036854775807
theorem Slt.rd {vs:List V}(h:OkCs Slt.sh vs):∃x:Slt,V.agg vs=x.v∧x.Dk:=by
 obtain⟨v0,r0,rfl,h0,t0⟩:=h.cons_inv
 obtain⟨v1,r1,rfl,h1,t1⟩:=t0.cons_inv
 obtain⟨v2,r2,rfl,h2,t2⟩:=t1.cons_inv
 obtain rfl:=t2.nil_inv
 obtain⟨y0,rfl,b0⟩:=h0.str_inv
 obtain⟨y1,rfl,b1⟩:=h1.i64_inv
 obtain⟨y2,rfl,b2⟩:=h2.i64_inv
 exact⟨⟨y0,y1,y2⟩,rfl,⟨b0,b1,b2⟩⟩
def Ftr.sh:List CSh:=[.int .i64,.int .i64,.int .i64,.int .i64,.int .i64,.int .i64,.int .i64,.int .i64,.bool,.sl true 32 Slt.sh]
structure Ftr.Dk (z:Ftr):Prop where
 attr:-9223372036854775808≤z.attr∧z.attr≤9223372036854775807
 bits:-9223372036854775808≤z.bits∧z.bits≤9223372036854775807
 coarse:-9223372036854775808≤z.coarse∧z.coarse≤9223372036854775807
 fine:-9223372036854775808≤z.fine∧z.fine≤9223372036854775807
 curve:-9223372036854775808≤z.curve∧z.curve≤9223372036854775807
 home:-9223372036854775808≤z.home∧z.home≤9223372036854775807
 low:-9223372036854775808≤z.low∧z.low≤9223372036854775807
 high:-9223372036854775808≤z.high∧z.high≤9223372036854775807
 snap:True
 wheel:z.wheel.length≤140737488351232∧∀q∈z.wheel,q.Dk
theorem Ftr.rd {vs:List V}(h:OkCs Ftr.sh vs):∃x:Ftr,V.agg vs=x.v∧x.Dk:=by
 obtain⟨v0,r0,rfl,h0,t0⟩:=h.cons_inv
 obtain⟨v1,r1,rfl,h1,t1⟩:=t0.cons_inv
 obtain⟨v2,r2,rfl,h2,t2⟩:=t1.cons_inv
 obtain⟨v3,r3,rfl,h3,t3⟩:=t2.cons_inv
 obtain⟨v4,r4,rfl,h4,t4⟩:=t3.cons_inv
 obtain⟨v5,r5,rfl,h5,t5⟩:=t4.cons_inv
 obtain⟨v6,r6,rfl,h6,t6⟩:=t5.cons_inv
 obtain⟨v7,r7,rfl,h7,t7⟩:=t6.cons_inv
 obtain⟨v8,r8,rfl,h8,t8⟩:=t7.cons_inv
 obtain⟨v9,r9,rfl,h9,t9⟩:=t8.cons_inv
 obtain rfl:=t9.nil_inv
 obtain⟨y0,rfl,b0⟩:=h0.i64_inv
 obtain⟨y1,rfl,b1⟩:=h1.i64_inv
 obtain⟨y2,rfl,b2⟩:=h2.i64_inv
 obtain⟨y3,rfl,b3⟩:=h3.i64_inv
 obtain⟨y4,rfl,b4⟩:=h4.i64_inv
 obtain⟨y5,rfl,b5⟩:=h5.i64_inv
 obtain⟨y6,rfl,b6⟩:=h6.i64_inv
 obtain⟨y7,rfl,b7⟩:=h7.i64_inv
 obtain⟨y8,rfl⟩:=h8.bool_inv
 have b8:=trivial
 obtain⟨y9,rfl,b9⟩:=h9.agg_inv (f:=Slt.v) (by decide) (fun _=>Slt.rd)
 exact⟨⟨y0,y1,y2,y3,y4,y5,y6,y7,y8,y9⟩,rfl,⟨b0,b1,b2,b3,b4,b5,b6,b7,b8,b9⟩⟩
def Prof.sh:List CSh:=[.str,.int .i64,.int .i64,.sl true 96 Ftr.sh]
structure Prof.Dk (z:Prof):Prop where
 name:z.name.length≤140737488351232
 foot:-9223372036854775808≤z.foot∧z.foot≤9223372036854775807
 watts:-9223372036854775808≤z.watts∧z.watts≤9223372036854775807
 feats:z.feats.length≤140737488351232∧∀q∈z.feats,q.Dk
theorem Prof.rd {vs:List V}(h:OkCs Prof.sh vs):∃x:Prof,V.agg vs=x.v∧x.Dk:=by
 obtain⟨v0,r0,rfl,h0,t0⟩:=h.cons_inv
 obtain⟨v1,r1,rfl,h1,t1⟩:=t0.cons_inv
 obtain⟨v2,r2,rfl,h2,t2⟩:=t1.cons_inv
 obtain⟨v3,r3,rfl,h3,t3⟩:=t2.cons_inv
 obtain rfl:=t3.nil_inv
 obtain⟨y0,rfl,b0⟩:=h0.str_inv
 obtain⟨y1,rfl,b1⟩:=h1.i64_inv
 obtain⟨y2,rfl,b2⟩:=h2.i64_inv
 obtain⟨y3,rfl,b3⟩:=h3.agg_inv (f:=Ftr.v) (by decide) (fun _=>Ftr.rd)
 exact⟨⟨y0,y1,y2,y3⟩,rfl,⟨b0,b1,b2,b3⟩⟩
def Fixt.sh:List CSh:=[.int .i64,.int .i64,.str,.int .i64,.int .i64,.int .i64,.str]
structure Fixt.Dk (z:Fixt):Prop where
 chan:-9223372036854775808≤z.chan∧z.chan≤9223372036854775807
 part:-9223372036854775808≤z.part∧z.part≤9223372036854775807
 prof:z.prof.length≤140737488351232
 univ:-9223372036854775808≤z.univ∧z.univ≤9223372036854775807
 addr:-9223372036854775808≤z.addr∧z.addr≤9223372036854775807
 phase:-9223372036854775808≤z.phase∧z.phase≤9223372036854775807
 cable:z.cable.length≤140737488351232
theorem Fixt.rd {vs:List V}(h:OkCs Fixt.sh vs):∃x:Fixt,V.agg vs=x.v∧x.Dk:=by
 obtain⟨v0,r0,rfl,h0,t0⟩:=h.cons_inv
 obtain⟨v1,r1,rfl,h1,t1⟩:=t0.cons_inv
 obtain⟨v2,r2,rfl,h2,t2⟩:=t1.cons_inv
 obtain⟨v3,r3,rfl,h3,t3⟩:=t2.cons_inv
 obtain⟨v4,r4,rfl,h4,t4⟩:=t3.cons_inv
 obtain⟨v5,r5,rfl,h5,t5⟩:=t4.cons_inv
 obtain⟨v6,r6,rfl,h6,t6⟩:=t5.cons_inv
 obtain rfl:=t6.nil_inv
 obtain⟨y0,rfl,b0⟩:=h0.i64_inv
 obtain⟨y1,rfl,b1⟩:=h1.i64_inv
 obtain⟨y2,rfl,b2⟩:=h2.str_inv
 obtain⟨y3,rfl,b3⟩:=h3.i64_inv
 obtain⟨y4,rfl,b4⟩:=h4.i64_inv
 obtain⟨y5,rfl,b5⟩:=h5.i64_inv
 obtain⟨y6,rfl,b6⟩:=h6.str_inv
 exact⟨⟨y0,y1,y2,y3,y4,y5,y6⟩,rfl,⟨b0,b1,b2,b3,b4,b5,b6⟩⟩
def Prm.sh:List CSh:=[.int .i64,.int .i64]
structure Prm.Dk (z:Prm):Prop where
 chan:-9223372036854775808≤z.chan∧z.chan≤9223372036854775807
 attr:-9223372036854775808≤z.attr∧z.attr≤9223372036854775807
theorem Prm.rd {vs:List V}(h:OkCs Prm.sh vs):∃x:Prm,V.agg vs=x.v∧x.Dk:=by
 obtain⟨v0,r0,rfl,h0,t0⟩:=h.cons_inv
 obtain⟨v1,r1,rfl,h1,t1⟩:=t0.cons_inv
 obtain rfl:=t1.nil_inv
 obtain⟨y0,rfl,b0⟩:=h0.i64_inv
 obtain⟨y1,rfl,b1⟩:=h1.i64_inv
 exact⟨⟨y0,y1⟩,rfl,⟨b0,b1⟩⟩
def Val.sh:List CSh:=[.int .i64,.int .i64]
structure Val.Dk (z:Val):Prop where
 pal:-9223372036854775808≤z.pal∧z.pal≤9223372036854775807
 lev:-9223372036854775808≤z.lev∧z.lev≤9223372036854775807
theorem Val.rd {vs:List V}(h:OkCs Val.sh vs):∃x:Val,V.agg vs=x.v∧x.Dk:=by
 obtain⟨v0,r0,rfl,h0,t0⟩:=h.cons_inv
 obtain⟨v1,r1,rfl,h1,t1⟩:=t0.cons_inv
 obtain rfl:=t1.nil_inv
 obtain⟨y0,rfl,b0⟩:=h0.i64_inv
 obtain⟨y1,rfl,b1⟩:=h1.i64_inv
 exact⟨⟨y0,y1⟩,rfl,⟨b0,b1⟩⟩
def Grp.sh:List CSh:=[.int .i64,.sl false 8 [.int .i64]]
structure Grp.Dk (z:Grp):Prop where
 num:-9223372036854775808≤z.num∧z.num≤9223372036854775807
 chans:z.chans.length≤140737488351232∧∀q∈z.chans,-9223372036854775808≤q∧q≤9223372036854775807
theorem Grp.rd {vs:List V}(h:OkCs Grp.sh vs):∃x:Grp,V.agg vs=x.v∧x.Dk:=by
 obtain⟨v0,r0,rfl,h0,t0⟩:=h.cons_inv
 obtain⟨v1,r1,rfl,h1,t1⟩:=t0.cons_inv
 obtain rfl:=t1.nil_inv
 obtain⟨y0,rfl,b0⟩:=h0.i64_inv
 obtain⟨y1,rfl,b1⟩:=h1.one_inv (f:=V.int .i64) (by decide) (fun v h=>h.i64_inv)
 exact⟨⟨y0,y1⟩,rfl,⟨b0,b1⟩⟩
def Hue.sh:List CSh:=[.int .i64,.int .i64,.int .i64]
structure Hue.Dk (z:Hue):Prop where
 chan:-9223372036854775808≤z.chan∧z.chan≤9223372036854775807
 attr:-9223372036854775808≤z.attr∧z.attr≤9223372036854775807
 lev:-9223372036854775808≤z.lev∧z.lev≤9223372036854775807
theorem Hue.rd {vs:List V}(h:OkCs Hue.sh vs):∃x:Hue,V.agg vs=x.v∧x.Dk:=by
 obtain⟨v0,r0,rfl,h0,t0⟩:=h.cons_inv
 obtain⟨v1,r1,rfl,h1,t1⟩:=t0.cons_inv
 obtain⟨v2,r2,rfl,h2,t2⟩:=t1.cons_inv
 obtain rfl:=t2.nil_inv
 obtain⟨y0,rfl,b0⟩:=h0.i64_inv
 obtain⟨y1,rfl,b1⟩:=h1.i64_inv
 obtain⟨y2,rfl,b2⟩:=h2.i64_inv
 exact⟨⟨y0,y1,y2⟩,rfl,⟨b0,b1,b2⟩⟩
def Pal.sh:List CSh:=[.int .i64,.sl true 24 Hue.sh]
structure Pal.Dk (z:Pal):Prop where
 num:-9223372036854775808≤z.num∧z.num≤9223372036854775807
 hues:z.hues.length≤140737488351232∧∀q∈z.hues,q.Dk
theorem Pal.rd {vs:List V}(h:OkCs Pal.sh vs):∃x:Pal,V.agg vs=x.v∧x.Dk:=by
 obtain⟨v0,r0,rfl,h0,t0⟩:=h.cons_inv
 obtain⟨v1,r1,rfl,h1,t1⟩:=t0.cons_inv
 obtain rfl:=t1.nil_inv
 obtain⟨y0,rfl,b0⟩:=h0.i64_inv
 obtain⟨y1,rfl,b1⟩:=h1.agg_inv (f:=Hue.v) (by decide) (fun _=>Hue.rd)
 exact⟨⟨y0,y1⟩,rfl,⟨b0,b1⟩⟩
def Tim.sh:List CSh:=[.int .i64,.int .i64,.int .i64,.int .i64,.int .i64,.int .i64]
structure Tim.Dk (z:Tim):Prop where
 up:-9223372036854775808≤z.up∧z.up≤9223372036854775807
 down:-9223372036854775808≤z.down∧z.down≤9223372036854775807
 posi:-9223372036854775808≤z.posi∧z.posi≤9223372036854775807
 colour:-9223372036854775808≤z.colour∧z.colour≤9223372036854775807
 beam:-9223372036854775808≤z.beam∧z.beam≤9223372036854775807
 delay:-9223372036854775808≤z.delay∧z.delay≤9223372036854775807
theorem Tim.rd {vs:List V}(h:OkCs Tim.sh vs):∃x:Tim,V.agg vs=x.v∧x.Dk:=by
 obtain⟨v0,r0,rfl,h0,t0⟩:=h.cons_inv
 obtain⟨v1,r1,rfl,h1,t1⟩:=t0.cons_inv
 obtain⟨v2,r2,rfl,h2,t2⟩:=t1.cons_inv
 obtain⟨v3,r3,rfl,h3,t3⟩:=t2.cons_inv
 obtain⟨v4,r4,rfl,h4,t4⟩:=t3.cons_inv
 obtain⟨v5,r5,rfl,h5,t5⟩:=t4.cons_inv
 obtain rfl:=t5.nil_inv
 obtain⟨y0,rfl,b0⟩:=h0.i64_inv
 obtain⟨y1,rfl,b1⟩:=h1.i64_inv
 obtain⟨y2,rfl,b2⟩:=h2.i64_inv
 obtain⟨y3,rfl,b3⟩:=h3.i64_inv
 obtain⟨y4,rfl,b4⟩:=h4.i64_inv
 obtain⟨y5,rfl,b5⟩:=h5.i64_inv
 exact⟨⟨y0,y1,y2,y3,y4,y5⟩,rfl,⟨b0,b1,b2,b3,b4,b5⟩⟩
def Mov.sh:List CSh:=[.int .i64,.int .i64,.int .i64,.int .i64,.int .i64]
structure Mov.Dk (z:Mov):Prop where
 prm:z.prm.Dk
 val:z.val.Dk
 part:-9223372036854775808≤z.part∧z.part≤9223372036854775807
theorem Mov.rd {vs:List V}(h:OkCs Mov.sh vs):∃x:Mov,V.agg vs=x.v∧x.Dk:=by
 obtain⟨v0,r0,rfl,h0,t0⟩:=h.cons_inv
 obtain⟨v1,r1,rfl,h1,t1⟩:=t0.cons_inv
 obtain⟨v2,r2,rfl,h2,t2⟩:=t1.cons_inv
 obtain⟨v3,r3,rfl,h3,t3⟩:=t2.cons_inv
 obtain⟨v4,r4,rfl,h4,t4⟩:=t3.cons_inv
 obtain rfl:=t4.nil_inv
 obtain⟨y0,rfl,b0⟩:=h0.i64_inv
 obtain⟨y1,rfl,b1⟩:=h1.i64_inv
 obtain⟨y2,rfl,b2⟩:=h2.i64_inv
 obtain⟨y3,rfl,b3⟩:=h3.i64_inv
 obtain⟨y4,rfl,b4⟩:=h4.i64_inv
 exact⟨⟨⟨y0,y1⟩,⟨y2,y3⟩,y4⟩,rfl,⟨⟨b0,b1⟩,⟨b2,b3⟩,b4⟩⟩
def Cu.sh:List CSh:=[.str,.str,.sl true 40 Mov.sh,.sl true 48 Tim.sh,.bool,.bool,.int .i64,.str,.int .i64]
structure Cu.Dk (z:Cu):Prop where
 num:z.num.length≤140737488351232
 label:z.label.length≤140737488351232
 moves:z.moves.length≤140737488351232∧∀q∈z.moves,q.Dk
 parts:z.parts.length≤140737488351232∧∀q∈z.parts,q.Dk
 block:True
 mark:True
 follow:-9223372036854775808≤z.follow∧z.follow≤9223372036854775807
 link:z.link.length≤140737488351232
 loops:-9223372036854775808≤z.loops∧z.loops≤9223372036854775807
theorem Cu.rd {vs:List V}(h:OkCs Cu.sh vs):∃x:Cu,V.agg vs=x.v∧x.Dk:=by
 obtain⟨v0,r0,rfl,h0,t0⟩:=h.cons_inv
 obtain⟨v1,r1,rfl,h1,t1⟩:=t0.cons_inv
 obtain⟨v2,r2,rfl,h2,t2⟩:=t1.cons_inv
 obtain⟨v3,r3,rfl,h3,t3⟩:=t2.cons_inv
 obtain⟨v4,r4,rfl,h4,t4⟩:=t3.cons_inv
 obtain⟨v5,r5,rfl,h5,t5⟩:=t4.cons_inv
 obtain⟨v6,r6,rfl,h6,t6⟩:=t5.cons_inv
 obtain⟨v7,r7,rfl,h7,t7⟩:=t6.cons_inv
 obtain⟨v8,r8,rfl,h8,t8⟩:=t7.cons_inv
 obtain rfl:=t8.nil_inv
 obtain⟨y0,rfl,b0⟩:=h0.str_inv
 obtain⟨y1,rfl,b1⟩:=h1.str_inv
 obtain⟨y2,rfl,b2⟩:=h2.agg_inv (f:=Mov.v) (by decide) (fun _=>Mov.rd)
 obtain⟨y3,rfl,b3⟩:=h3.agg_inv (f:=Tim.v) (by decide) (fun _=>Tim.rd)
 obtain⟨y4,rfl⟩:=h4.bool_inv
 have b4:=trivial
 obtain⟨y5,rfl⟩:=h5.bool_inv
 have b5:=trivial
 obtain⟨y6,rfl,b6⟩:=h6.i64_inv
 obtain⟨y7,rfl,b7⟩:=h7.str_inv
 obtain⟨y8,rfl,b8⟩:=h8.i64_inv
 exact⟨⟨y0,y1,y2,y3,y4,y5,y6,y7,y8⟩,rfl,⟨b0,b1,b2,b3,b4,b5,b6,b7,b8⟩⟩
def Lst.sh:List CSh:=[.int .i64,.int .i64,.sl true 120 Cu.sh]
structure Lst.Dk (z:Lst):Prop where
 num:-9223372036854775808≤z.num∧z.num≤9223372036854775807
 prio:-9223372036854775808≤z.prio∧z.prio≤9223372036854775807
 cues:z.cues.length≤140737488351232∧∀q∈z.cues,q.Dk
theorem Lst.rd {vs:List V}(h:OkCs Lst.sh vs):∃x:Lst,V.agg vs=x.v∧x.Dk:=by
 obtain⟨v0,r0,rfl,h0,t0⟩:=h.cons_inv
 obtain⟨v1,r1,rfl,h1,t1⟩:=t0.cons_inv
 obtain⟨v2,r2,rfl,h2,t2⟩:=t1.cons_inv
 obtain rfl:=t2.nil_inv
 obtain⟨y0,rfl,b0⟩:=h0.i64_inv
 obtain⟨y1,rfl,b1⟩:=h1.i64_inv
 obtain⟨y2,rfl,b2⟩:=h2.agg_inv (f:=Cu.v) (by decide) (fun _=>Cu.rd)
 exact⟨⟨y0,y1,y2⟩,rfl,⟨b0,b1,b2⟩⟩
def Gan.sh:List CSh:=[.int .i64,.int .i64,.int .i64]
structure Gan.Dk (z:Gan):Prop where
 prm:z.prm.Dk
 lev:-9223372036854775808≤z.lev∧z.lev≤9223372036854775807
theorem Gan.rd {vs:List V}(h:OkCs Gan.sh vs):∃x:Gan,V.agg vs=x.v∧x.Dk:=by
 obtain⟨v0,r0,rfl,h0,t0⟩:=h.cons_inv
 obtain⟨v1,r1,rfl,h1,t1⟩:=t0.cons_inv
 obtain⟨v2,r2,rfl,h2,t2⟩:=t1.cons_inv
 obtain rfl:=t2.nil_inv
 obtain⟨y0,rfl,b0⟩:=h0.i64_inv
 obtain⟨y1,rfl,b1⟩:=h1.i64_inv
 obtain⟨y2,rfl,b2⟩:=h2.i64_inv
 exact⟨⟨⟨y0,y1⟩,y2⟩,rfl,⟨⟨b0,b1⟩,b2⟩⟩
def Sb.sh:List CSh:=[.int .i64,.int .i64,.bool,.sl true 24 Gan.sh]
structure Sb.Dk (z:Sb):Prop where
 num:-9223372036854775808≤z.num∧z.num≤9223372036854775807
 prio:-9223372036854775808≤z.prio∧z.prio≤9223372036854775807
 inh:True
 gains:z.gains.length≤140737488351232∧∀q∈z.gains,q.Dk
theorem Sb.rd {vs:List V}(h:OkCs Sb.sh vs):∃x:Sb,V.agg vs=x.v∧x.Dk:=by
 obtain⟨v0,r0,rfl,h0,t0⟩:=h.cons_inv
 obtain⟨v1,r1,rfl,h1,t1⟩:=t0.cons_inv
 obtain⟨v2,r2,rfl,h2,t2⟩:=t1.cons_inv
 obtain⟨v3,r3,rfl,h3,t3⟩:=t2.cons_inv
 obtain rfl:=t3.nil_inv
 obtain⟨y0,rfl,b0⟩:=h0.i64_inv
 obtain⟨y1,rfl,b1⟩:=h1.i64_inv
 obtain⟨y2,rfl⟩:=h2.bool_inv
 have b2:=trivial
 obtain⟨y3,rfl,b3⟩:=h3.agg_inv (f:=Gan.v) (by decide) (fun _=>Gan.rd)
 exact⟨⟨y0,y1,y2,y3⟩,rfl,⟨b0,b1,b2,b3⟩⟩
def Eff.sh:List CSh:=[.int .i64,.int .i64,.sl true 16 Pt.sh,.int .i64,.int .i64,.int .i64]
structure Eff.Dk (z:Eff):Prop where
 num:-9223372036854775808≤z.num∧z.num≤9223372036854775807
 attr:-9223372036854775808≤z.attr∧z.attr≤9223372036854775807
 wave:z.wave.length≤140737488351232∧∀q∈z.wave,q.Dk
 period:-9223372036854775808≤z.period∧z.period≤9223372036854775807
 spread:-9223372036854775808≤z.spread∧z.spread≤9223372036854775807
 size:-9223372036854775808≤z.size∧z.size≤9223372036854775807
theorem Eff.rd {vs:List V}(h:OkCs Eff.sh vs):∃x:Eff,V.agg vs=x.v∧x.Dk:=by
 obtain⟨v0,r0,rfl,h0,t0⟩:=h.cons_inv
 obtain⟨v1,r1,rfl,h1,t1⟩:=t0.cons_inv
 obtain⟨v2,r2,rfl,h2,t2⟩:=t1.cons_inv
 obtain⟨v3,r3,rfl,h3,t3⟩:=t2.cons_inv
 obtain⟨v4,r4,rfl,h4,t4⟩:=t3.cons_inv
 obtain⟨v5,r5,rfl,h5,t5⟩:=t4.cons_inv
 obtain rfl:=t5.nil_inv
 obtain⟨y0,rfl,b0⟩:=h0.i64_inv
 obtain⟨y1,rfl,b1⟩:=h1.i64_inv
 obtain⟨y2,rfl,b2⟩:=h2.agg_inv (f:=Pt.v) (by decide) (fun _=>Pt.rd)
 obtain⟨y3,rfl,b3⟩:=h3.i64_inv
 obtain⟨y4,rfl,b4⟩:=h4.i64_inv
 obtain⟨y5,rfl,b5⟩:=h5.i64_inv
 exact⟨⟨y0,y1,y2,y3,y4,y5⟩,rfl,⟨b0,b1,b2,b3,b4,b5⟩⟩
def Sho.sh:List CSh:=[.str,.sl false 24 [.sl true 16 Pt.sh],.sl true 56 Prof.sh,.sl true 72 Fixt.sh,.sl true 32 Grp.sh,.sl true 32 Pal.sh,.sl true 40 Lst.sh,.sl true 48 Sb.sh,.sl true 64 Eff.sh]
structure Sho.Dk (z:Sho):Prop where
 title:z.title.length≤140737488351232
 curves:z.curves.length≤140737488351232∧∀l∈z.curves,l.length≤140737488351232∧∀q∈l,q.Dk
 profs:z.profs.length≤140737488351232∧∀q∈z.profs,q.Dk
 fixts:z.fixts.length≤140737488351232∧∀q∈z.fixts,q.Dk
 grps:z.grps.length≤140737488351232∧∀q∈z.grps,q.Dk
 pals:z.pals.length≤140737488351232∧∀q∈z.pals,q.Dk
 lsts:z.lsts.length≤140737488351232∧∀q∈z.lsts,q.Dk
 subs:z.subs.length≤140737488351232∧∀q∈z.subs,q.Dk
 effs:z.effs.length≤140737488351232∧∀q∈z.effs,q.Dk
theorem Sho.rd {vs:List V}(h:OkCs Sho.sh vs):∃x:Sho,V.agg vs=x.v∧x.Dk:=by
 obtain⟨v0,r0,rfl,h0,t0⟩:=h.cons_inv
 obtain⟨v1,r1,rfl,h1,t1⟩:=t0.cons_inv
 obtain⟨v2,r2,rfl,h2,t2⟩:=t1.cons_inv
 obtain⟨v3,r3,rfl,h3,t3⟩:=t2.cons_inv
 obtain⟨v4,r4,rfl,h4,t4⟩:=t3.cons_inv
 obtain⟨v5,r5,rfl,h5,t5⟩:=t4.cons_inv
 obtain⟨v6,r6,rfl,h6,t6⟩:=t5.cons_inv
 obtain⟨v7,r7,rfl,h7,t7⟩:=t6.cons_inv
 obtain⟨v8,r8,rfl,h8,t8⟩:=t7.cons_inv
 obtain rfl:=t8.nil_inv
 obtain⟨y0,rfl,b0⟩:=h0.str_inv
 obtain⟨y1,rfl,b1⟩:=h1.one_inv (f:=Pt.vs) (by decide) (fun v h=>h.agg_inv (f:=Pt.v) (by decide) (fun _=>Pt.rd))
 obtain⟨y2,rfl,b2⟩:=h2.agg_inv (f:=Prof.v) (by decide) (fun _=>Prof.rd)
 obtain⟨y3,rfl,b3⟩:=h3.agg_inv (f:=Fixt.v) (by decide) (fun _=>Fixt.rd)
 obtain⟨y4,rfl,b4⟩:=h4.agg_inv (f:=Grp.v) (by decide) (fun _=>Grp.rd)
 obtain⟨y5,rfl,b5⟩:=h5.agg_inv (f:=Pal.v) (by decide) (fun _=>Pal.rd)
 obtain⟨y6,rfl,b6⟩:=h6.agg_inv (f:=Lst.v) (by decide) (fun _=>Lst.rd)
 obtain⟨y7,rfl,b7⟩:=h7.agg_inv (f:=Sb.v) (by decide) (fun _=>Sb.rd)
 obtain⟨y8,rfl,b8⟩:=h8.agg_inv (f:=Eff.v) (by decide) (fun _=>Eff.rd)
 exact⟨⟨y0,y1,y2,y3,y4,y5,y6,y7,y8⟩,rfl,⟨b0,b1,b2,b3,b4,b5,b6,b7,b8⟩⟩
def Edi.sh:List CSh:=[.int .i64,.int .i64,.int .i64,.int .i64,.str,.str,.str,.sl true 40 Mov.sh,.sl true 48 Tim.sh,.bool,.bool,.int .i64,.str,.int .i64,.int .i64,.sl true 24 Hue.sh,.int .i64,.sl false 8 [.int .i64],.int .i64,.int .i64,.bool,.sl true 24 Gan.sh,.int .i64,.int .i64,.sl true 16 Pt.sh,.int .i64,.int .i64,.int .i64,.int .i64,.int .i64,.str,.int .i64,.int .i64,.int .i64,.str]
structure Edi.Dk (z:Edi):Prop where
 kind:-9223372036854775808≤z.kind∧z.kind≤9223372036854775807
 num:-9223372036854775808≤z.num∧z.num≤9223372036854775807
 chan:-9223372036854775808≤z.chan∧z.chan≤9223372036854775807
 prio:-9223372036854775808≤z.prio∧z.prio≤9223372036854775807
 key:z.key.length≤140737488351232
 cue:z.cue.Dk
 pal:z.pal.Dk
 grp:z.grp.Dk
 sub:z.sub.Dk
 eff:z.eff.Dk
 fix:z.fix.Dk
theorem Edi.rd {vs:List V}(h:OkCs Edi.sh vs):∃x:Edi,V.agg vs=x.v∧x.Dk:=by
 obtain⟨v0,r0,rfl,h0,t0⟩:=h.cons_inv
 obtain⟨v1,r1,rfl,h1,t1⟩:=t0.cons_inv
 obtain⟨v2,r2,rfl,h2,t2⟩:=t1.cons_inv
 obtain⟨v3,r3,rfl,h3,t3⟩:=t2.cons_inv
 obtain⟨v4,r4,rfl,h4,t4⟩:=t3.cons_inv
 obtain⟨v5,r5,rfl,h5,t5⟩:=t4.cons_inv
 obtain⟨v6,r6,rfl,h6,t6⟩:=t5.cons_inv
 obtain⟨v7,r7,rfl,h7,t7⟩:=t6.cons_inv
 obtain⟨v8,r8,rfl,h8,t8⟩:=t7.cons_inv
 obtain⟨v9,r9,rfl,h9,t9⟩:=t8.cons_inv
 obtain⟨v10,r10,rfl,h10,t10⟩:=t9.cons_inv
 obtain⟨v11,r11,rfl,h11,t11⟩:=t10.cons_inv
 obtain⟨v12,r12,rfl,h12,t12⟩:=t11.cons_inv
 obtain⟨v13,r13,rfl,h13,t13⟩:=t12.cons_inv
 obtain⟨v14,r14,rfl,h14,t14⟩:=t13.cons_inv
 obtain⟨v15,r15,rfl,h15,t15⟩:=t14.cons_inv
 obtain⟨v16,r16,rfl,h16,t16⟩:=t15.cons_inv
 obtain⟨v17,r17,rfl,h17,t17⟩:=t16.cons_inv
 obtain⟨v18,r18,rfl,h18,t18⟩:=t17.cons_inv
 obtain⟨v19,r19,rfl,h19,t19⟩:=t18.cons_inv
 obtain⟨v20,r20,rfl,h20,t20⟩:=t19.cons_inv
 obtain⟨v21,r21,rfl,h21,t21⟩:=t20.cons_inv
 obtain⟨v22,r22,rfl,h22,t22⟩:=t21.cons_inv
 obtain⟨v23,r23,rfl,h23,t23⟩:=t22.cons_inv
 obtain⟨v24,r24,rfl,h24,t24⟩:=t23.cons_inv
 obtain⟨v25,r25,rfl,h25,t25⟩:=t24.cons_inv
 obtain⟨v26,r26,rfl,h26,t26⟩:=t25.cons_inv
 obtain⟨v27,r27,rfl,h27,t27⟩:=t26.cons_inv
 obtain⟨v28,r28,rfl,h28,t28⟩:=t27.cons_inv
 obtain⟨v29,r29,rfl,h29,t29⟩:=t28.cons_inv
 obtain⟨v30,r30,rfl,h30,t30⟩:=t29.cons_inv
 obtain⟨v31,r31,rfl,h31,t31⟩:=t30.cons_inv
 obtain⟨v32,r32,rfl,h32,t32⟩:=t31.cons_inv
 obtain⟨v33,r33,rfl,h33,t33⟩:=t32.cons_inv
 obtain⟨v34,r34,rfl,h34,t34⟩:=t33.cons_inv
 obtain rfl:=t34.nil_inv
 obtain⟨y0,rfl,b0⟩:=h0.i64_inv
 obtain⟨y1,rfl,b1⟩:=h1.i64_inv
 obtain⟨y2,rfl,b2⟩:=h2.i64_inv
 obtain⟨y3,rfl,b3⟩:=h3.i64_inv
 obtain⟨y4,rfl,b4⟩:=h4.str_inv
 obtain⟨y5,rfl,b5⟩:=h5.str_inv
 obtain⟨y6,rfl,b6⟩:=h6.str_inv
 obtain⟨y7,rfl,b7⟩:=h7.agg_inv (f:=Mov.v) (by decide) (fun _=>Mov.rd)
 obtain⟨y8,rfl,b8⟩:=h8.agg_inv (f:=Tim.v) (by decide) (fun _=>Tim.rd)
 obtain⟨y9,rfl⟩:=h9.bool_inv
 have b9:=trivial
 obtain⟨y10,rfl⟩:=h10.bool_inv
 have b10:=trivial
 obtain⟨y11,rfl,b11⟩:=h11.i64_inv
 obtain⟨y12,rfl,b12⟩:=h12.str_inv
 obtain⟨y13,rfl,b13⟩:=h13.i64_inv
 obtain⟨y14,rfl,b14⟩:=h14.i64_inv
 obtain⟨y15,rfl,b15⟩:=h15.agg_inv (f:=Hue.v) (by decide) (fun _=>Hue.rd)
 obtain⟨y16,rfl,b16⟩:=h16.i64_inv
 obtain⟨y17,rfl,b17⟩:=h17.one_inv (f:=V.int .i64) (by decide) (fun v h=>h.i64_inv)
 obtain⟨y18,rfl,b18⟩:=h18.i64_inv
 obtain⟨y19,rfl,b19⟩:=h19.i64_inv
 obtain⟨y20,rfl⟩:=h20.bool_inv
 have b20:=trivial
 obtain⟨y21,rfl,b21⟩:=h21.agg_inv (f:=Gan.v) (by decide) (fun _=>Gan.rd)
 obtain⟨y22,rfl,b22⟩:=h22.i64_inv
 obtain⟨y23,rfl,b23⟩:=h23.i64_inv
 obtain⟨y24,rfl,b24⟩:=h24.agg_inv (f:=Pt.v) (by decide) (fun _=>Pt.rd)
 obtain⟨y25,rfl,b25⟩:=h25.i64_inv
 obtain⟨y26,rfl,b26⟩:=h26.i64_inv
 obtain⟨y27,rfl,b27⟩:=h27.i64_inv
 obtain⟨y28,rfl,b28⟩:=h28.i64_inv
 obtain⟨y29,rfl,b29⟩:=h29.i64_inv
 obtain⟨y30,rfl,b30⟩:=h30.str_inv
 obtain⟨y31,rfl,b31⟩:=h31.i64_inv
 obtain⟨y32,rfl,b32⟩:=h32.i64_inv
 obtain⟨y33,rfl,b33⟩:=h33.i64_inv
 obtain⟨y34,rfl,b34⟩:=h34.str_inv
 exact⟨⟨y0,y1,y2,y3,y4,⟨y5,y6,y7,y8,y9,y10,y11,y12,y13⟩,⟨y14,y15⟩,⟨y16,y17⟩,⟨y18,y19,y20,y21⟩,⟨y22,y23,y24,y25,y26,y27⟩,⟨y28,y29,y30,y31,y32,y33,y34⟩⟩,rfl,⟨b0,b1,b2,b3,b4,⟨b5,b6,b7,b8,b9,b10,b11,b12,b13⟩,⟨b14,b15⟩,⟨b16,b17⟩,⟨b18,b19,b20,b21⟩,⟨b22,b23,b24,b25,b26,b27⟩,⟨b28,b29,b30,b31,b32,b33,b34⟩⟩⟩
def His.sh:List CSh:=[.sl true 208 Sho.sh,.str,.sl false 24 [.sl true 16 Pt.sh],.sl true 56 Prof.sh,.sl true 72 Fixt.sh,.sl true 32 Grp.sh,.sl true 32 Pal.sh,.sl true 40 Lst.sh,.sl true 48 Sb.sh,.sl true 64 Eff.sh,.sl true 208 Sho.sh]
structure His.Dk (z:His):Prop where
 past:z.past.length≤140737488351232∧∀q∈z.past,q.Dk
 shw:z.shw.Dk
 fut:z.fut.length≤140737488351232∧∀q∈z.fut,q.Dk
theorem His.rd {vs:List V}(h:OkCs His.sh vs):∃x:His,V.agg vs=x.v∧x.Dk:=by
 obtain⟨v0,r0,rfl,h0,t0⟩:=h.cons_inv
 obtain⟨v1,r1,rfl,h1,t1⟩:=t0.cons_inv
 obtain⟨v2,r2,rfl,h2,t2⟩:=t1.cons_inv
 obtain⟨v3,r3,rfl,h3,t3⟩:=t2.cons_inv
 obtain⟨v4,r4,rfl,h4,t4⟩:=t3.cons_inv
 obtain⟨v5,r5,rfl,h5,t5⟩:=t4.cons_inv
 obtain⟨v6,r6,rfl,h6,t6⟩:=t5.cons_inv
 obtain⟨v7,r7,rfl,h7,t7⟩:=t6.cons_inv
 obtain⟨v8,r8,rfl,h8,t8⟩:=t7.cons_inv
 obtain⟨v9,r9,rfl,h9,t9⟩:=t8.cons_inv
 obtain⟨v10,r10,rfl,h10,t10⟩:=t9.cons_inv
 obtain rfl:=t10.nil_inv
 obtain⟨y0,rfl,b0⟩:=h0.agg_inv (f:=Sho.v) (by decide) (fun _=>Sho.rd)
 obtain⟨y1,rfl,b1⟩:=h1.str_inv
 obtain⟨y2,rfl,b2⟩:=h2.one_inv (f:=Pt.vs) (by decide) (fun v h=>h.agg_inv (f:=Pt.v) (by decide) (fun _=>Pt.rd))
 obtain⟨y3,rfl,b3⟩:=h3.agg_inv (f:=Prof.v) (by decide) (fun _=>Prof.rd)
 obtain⟨y4,rfl,b4⟩:=h4.agg_inv (f:=Fixt.v) (by decide) (fun _=>Fixt.rd)
 obtain⟨y5,rfl,b5⟩:=h5.agg_inv (f:=Grp.v) (by decide) (fun _=>Grp.rd)
 obtain⟨y6,rfl,b6⟩:=h6.agg_inv (f:=Pal.v) (by decide) (fun _=>Pal.rd)
 obtain⟨y7,rfl,b7⟩:=h7.agg_inv (f:=Lst.v) (by decide) (fun _=>Lst.rd)
 obtain⟨y8,rfl,b8⟩:=h8.agg_inv (f:=Sb.v) (by decide) (fun _=>Sb.rd)
 obtain⟨y9,rfl,b9⟩:=h9.agg_inv (f:=Eff.v) (by decide) (fun _=>Eff.rd)
 obtain⟨y10,rfl,b10⟩:=h10.agg_inv (f:=Sho.v) (by decide) (fun _=>Sho.rd)
 exact⟨⟨y0,⟨y1,y2,y3,y4,y5,y6,y7,y8,y9⟩,y10⟩,rfl,⟨b0,⟨b1,b2,b3,b4,b5,b6,b7,b8,b9⟩,b10⟩⟩
def Ent.sh:List CSh:=[.int .i64,.int .i64,.int .i64,.int .i64]
structure Ent.Dk (z:Ent):Prop where
 prm:z.prm.Dk
 val:z.val.Dk
theorem Ent.rd {vs:List V}(h:OkCs Ent.sh vs):∃x:Ent,V.agg vs=x.v∧x.Dk:=by
 obtain⟨v0,r0,rfl,h0,t0⟩:=h.cons_inv
 obtain⟨v1,r1,rfl,h1,t1⟩:=t0.cons_inv
 obtain⟨v2,r2,rfl,h2,t2⟩:=t1.cons_inv
 obtain⟨v3,r3,rfl,h3,t3⟩:=t2.cons_inv
 obtain rfl:=t3.nil_inv
 obtain⟨y0,rfl,b0⟩:=h0.i64_inv
 obtain⟨y1,rfl,b1⟩:=h1.i64_inv
 obtain⟨y2,rfl,b2⟩:=h2.i64_inv
 obtain⟨y3,rfl,b3⟩:=h3.i64_inv
 exact⟨⟨⟨y0,y1⟩,⟨y2,y3⟩⟩,rfl,⟨⟨b0,b1⟩,⟨b2,b3⟩⟩⟩
def Act.sh:List CSh:=[.int .i64,.int .i64,.int .i64,.str,.int .i64,.int .i64,.sl true 32 Ent.sh,.sl true 16 Prm.sh,.sl false 8 [.int .i64],.int .i64,.int .i64,.int .i64,.int .i64,.str,.str,.str,.sl true 40 Mov.sh,.sl true 48 Tim.sh,.bool,.bool,.int .i64,.str,.int .i64,.int .i64,.sl true 24 Hue.sh,.int .i64,.sl false 8 [.int .i64],.int .i64,.int .i64,.bool,.sl true 24 Gan.sh,.int .i64,.int .i64,.sl true 16 Pt.sh,.int .i64,.int .i64,.int .i64,.int .i64,.int .i64,.str,.int .i64,.int .i64,.int .i64,.str]
structure Act.Dk (z:Act):Prop where
 when:-9223372036854775808≤z.when∧z.when≤9223372036854775807
 kind:-9223372036854775808≤z.kind∧z.kind≤9223372036854775807
 targ:-9223372036854775808≤z.targ∧z.targ≤9223372036854775807
 cue:z.cue.length≤140737488351232
 lev:-9223372036854775808≤z.lev∧z.lev≤9223372036854775807
 dur:-9223372036854775808≤z.dur∧z.dur≤9223372036854775807
 ents:z.ents.length≤140737488351232∧∀q∈z.ents,q.Dk
 prms:z.prms.length≤140737488351232∧∀q∈z.prms,q.Dk
 chans:z.chans.length≤140737488351232∧∀q∈z.chans,-9223372036854775808≤q∧q≤9223372036854775807
 edt:z.edt.Dk
theorem Act.rd {vs:List V}(h:OkCs Act.sh vs):∃x:Act,V.agg vs=x.v∧x.Dk:=by
 obtain⟨v0,r0,rfl,h0,t0⟩:=h.cons_inv
 obtain⟨v1,r1,rfl,h1,t1⟩:=t0.cons_inv
 obtain⟨v2,r2,rfl,h2,t2⟩:=t1.cons_inv
 obtain⟨v3,r3,rfl,h3,t3⟩:=t2.cons_inv
 obtain⟨v4,r4,rfl,h4,t4⟩:=t3.cons_inv
 obtain⟨v5,r5,rfl,h5,t5⟩:=t4.cons_inv
 obtain⟨v6,r6,rfl,h6,t6⟩:=t5.cons_inv
 obtain⟨v7,r7,rfl,h7,t7⟩:=t6.cons_inv
 obtain⟨v8,r8,rfl,h8,t8⟩:=t7.cons_inv
 obtain⟨v9,r9,rfl,h9,t9⟩:=t8.cons_inv
 obtain⟨v10,r10,rfl,h10,t10⟩:=t9.cons_inv
 obtain⟨v11,r11,rfl,h11,t11⟩:=t10.cons_inv
 obtain⟨v12,r12,rfl,h12,t12⟩:=t11.cons_inv
 obtain⟨v13,r13,rfl,h13,t13⟩:=t12.cons_inv
 obtain⟨v14,r14,rfl,h14,t14⟩:=t13.cons_inv
 obtain⟨v15,r15,rfl,h15,t15⟩:=t14.cons_inv
 obtain⟨v16,r16,rfl,h16,t16⟩:=t15.cons_inv
 obtain⟨v17,r17,rfl,h17,t17⟩:=t16.cons_inv
 obtain⟨v18,r18,rfl,h18,t18⟩:=t17.cons_inv
 obtain⟨v19,r19,rfl,h19,t19⟩:=t18.cons_inv
 obtain⟨v20,r20,rfl,h20,t20⟩:=t19.cons_inv
 obtain⟨v21,r21,rfl,h21,t21⟩:=t20.cons_inv
 obtain⟨v22,r22,rfl,h22,t22⟩:=t21.cons_inv
 obtain⟨v23,r23,rfl,h23,t23⟩:=t22.cons_inv
 obtain⟨v24,r24,rfl,h24,t24⟩:=t23.cons_inv
 obtain⟨v25,r25,rfl,h25,t25⟩:=t24.cons_inv
 obtain⟨v26,r26,rfl,h26,t26⟩:=t25.cons_inv
 obtain⟨v27,r27,rfl,h27,t27⟩:=t26.cons_inv
 obtain⟨v28,r28,rfl,h28,t28⟩:=t27.cons_inv
 obtain⟨v29,r29,rfl,h29,t29⟩:=t28.cons_inv
 obtain⟨v30,r30,rfl,h30,t30⟩:=t29.cons_inv
 obtain⟨v31,r31,rfl,h31,t31⟩:=t30.cons_inv
 obtain⟨v32,r32,rfl,h32,t32⟩:=t31.cons_inv
 obtain⟨v33,r33,rfl,h33,t33⟩:=t32.cons_inv
 obtain⟨v34,r34,rfl,h34,t34⟩:=t33.cons_inv
 obtain⟨v35,r35,rfl,h35,t35⟩:=t34.cons_inv
 obtain⟨v36,r36,rfl,h36,t36⟩:=t35.cons_inv
 obtain⟨v37,r37,rfl,h37,t37⟩:=t36.cons_inv
 obtain⟨v38,r38,rfl,h38,t38⟩:=t37.cons_inv
 obtain⟨v39,r39,rfl,h39,t39⟩:=t38.cons_inv
 obtain⟨v40,r40,rfl,h40,t40⟩:=t39.cons_inv
 obtain⟨v41,r41,rfl,h41,t41⟩:=t40.cons_inv
 obtain⟨v42,r42,rfl,h42,t42⟩:=t41.cons_inv
 obtain⟨v43,r43,rfl,h43,t43⟩:=t42.cons_inv
 obtain rfl:=t43.nil_inv
 obtain⟨y0,rfl,b0⟩:=h0.i64_inv
 obtain⟨y1,rfl,b1⟩:=h1.i64_inv
 obtain⟨y2,rfl,b2⟩:=h2.i64_inv
 obtain⟨y3,rfl,b3⟩:=h3.str_inv
 obtain⟨y4,rfl,b4⟩:=h4.i64_inv
 obtain⟨y5,rfl,b5⟩:=h5.i64_inv
 obtain⟨y6,rfl,b6⟩:=h6.agg_inv (f:=Ent.v) (by decide) (fun _=>Ent.rd)
 obtain⟨y7,rfl,b7⟩:=h7.agg_inv (f:=Prm.v) (by decide) (fun _=>Prm.rd)
 obtain⟨y8,rfl,b8⟩:=h8.one_inv (f:=V.int .i64) (by decide) (fun v h=>h.i64_inv)
 obtain⟨y9,rfl,b9⟩:=h9.i64_inv
 obtain⟨y10,rfl,b10⟩:=h10.i64_inv
 obtain⟨y11,rfl,b11⟩:=h11.i64_inv
 obtain⟨y12,rfl,b12⟩:=h12.i64_inv
 obtain⟨y13,rfl,b13⟩:=h13.str_inv
 obtain⟨y14,rfl,b14⟩:=h14.str_inv
 obtain⟨y15,rfl,b15⟩:=h15.str_inv
 obtain⟨y16,rfl,b16⟩:=h16.agg_inv (f:=Mov.v) (by decide) (fun _=>Mov.rd)
 obtain⟨y17,rfl,b17⟩:=h17.agg_inv (f:=Tim.v) (by decide) (fun _=>Tim.rd)
 obtain⟨y18,rfl⟩:=h18.bool_inv
 have b18:=trivial
 obtain⟨y19,rfl⟩:=h19.bool_inv
 have b19:=trivial
 obtain⟨y20,rfl,b20⟩:=h20.i64_inv
 obtain⟨y21,rfl,b21⟩:=h21.str_inv
 obtain⟨y22,rfl,b22⟩:=h22.i64_inv
 obtain⟨y23,rfl,b23⟩:=h23.i64_inv
 obtain⟨y24,rfl,b24⟩:=h24.agg_inv (f:=Hue.v) (by decide) (fun _=>Hue.rd)
 obtain⟨y25,rfl,b25⟩:=h25.i64_inv
 obtain⟨y26,rfl,b26⟩:=h26.one_inv (f:=V.int .i64) (by decide) (fun v h=>h.i64_inv)
 obtain⟨y27,rfl,b27⟩:=h27.i64_inv
 obtain⟨y28,rfl,b28⟩:=h28.i64_inv
 obtain⟨y29,rfl⟩:=h29.bool_inv
 have b29:=trivial
 obtain⟨y30,rfl,b30⟩:=h30.agg_inv (f:=Gan.v) (by decide) (fun _=>Gan.rd)
 obtain⟨y31,rfl,b31⟩:=h31.i64_inv
 obtain⟨y32,rfl,b32⟩:=h32.i64_inv
 obtain⟨y33,rfl,b33⟩:=h33.agg_inv (f:=Pt.v) (by decide) (fun _=>Pt.rd)
 obtain⟨y34,rfl,b34⟩:=h34.i64_inv
 obtain⟨y35,rfl,b35⟩:=h35.i64_inv
 obtain⟨y36,rfl,b36⟩:=h36.i64_inv
 obtain⟨y37,rfl,b37⟩:=h37.i64_inv
 obtain⟨y38,rfl,b38⟩:=h38.i64_inv
 obtain⟨y39,rfl,b39⟩:=h39.str_inv
 obtain⟨y40,rfl,b40⟩:=h40.i64_inv
 obtain⟨y41,rfl,b41⟩:=h41.i64_inv
 obtain⟨y42,rfl,b42⟩:=h42.i64_inv
 obtain⟨y43,rfl,b43⟩:=h43.str_inv
 exact⟨⟨y0,y1,y2,y3,y4,y5,y6,y7,y8,⟨y9,y10,y11,y12,y13,⟨y14,y15,y16,y17,y18,y19,y20,y21,y22⟩,⟨y23,y24⟩,⟨y25,y26⟩,⟨y27,y28,y29,y30⟩,⟨y31,y32,y33,y34,y35,y36⟩,⟨y37,y38,y39,y40,y41,y42,y43⟩⟩⟩,rfl,⟨b0,b1,b2,b3,b4,b5,b6,b7,b8,⟨b9,b10,b11,b12,b13,⟨b14,b15,b16,b17,b18,b19,b20,b21,b22⟩,⟨b23,b24⟩,⟨b25,b26⟩,⟨b27,b28,b29,b30⟩,⟨b31,b32,b33,b34,b35,b36⟩,⟨b37,b38,b39,b40,b41,b42,b43⟩⟩⟩⟩
theorem Pt.inj {x y:Pt}(h:x.v=y.v):x=y:=by
 obtain⟨x0,x1⟩:=x;obtain⟨y0,y1⟩:=y
 simp only[Pt.v,V.agg.injEq,List.cons.injEq,V.int.injEq,V.str.injEq,V.bool.injEq,V.sl.injEq,true_and,and_true]at h
 obtain⟨h0,h1⟩:=h
 cases h0
 cases h1
 rfl
theorem Slt.inj {x y:Slt}(h:x.v=y.v):x=y:=by
 obtain⟨x0,x1,x2⟩:=x;obtain⟨y0,y1,y2⟩:=y
 simp only[Slt.v,V.agg.injEq,List.cons.injEq,V.int.injEq,V.str.injEq,V.bool.injEq,V.sl.injEq,true_and,and_true]at h
 obtain⟨h0,h1,h2⟩:=h
 cases h0
 cases h1
 cases h2
 rfl
theorem Ftr.inj {x y:Ftr}(h:x.v=y.v):x=y:=by
 obtain⟨x0,x1,x2,x3,x4,x5,x6,x7,x8,x9⟩:=x;obtain⟨y0,y1,y2,y3,y4,y5,y6,y7,y8,y9⟩:=y
 simp only[Ftr.v,V.agg.injEq,List.cons.injEq,V.int.injEq,V.str.injEq,V.bool.injEq,V.sl.injEq,true_and,and_true]at h
 obtain⟨h0,h1,h2,h3,h4,h5,h6,h7,h8,h9⟩:=h
 cases h0
 cases h1
 cases h2
 cases h3
 cases h4
 cases h5
 cases h6
 cases h7
 cases h8
 cases map_inj Slt.inj h9
 rfl
theorem Prof.inj {x y:Prof}(h:x.v=y.v):x=y:=by
 obtain⟨x0,x1,x2,x3⟩:=x;obtain⟨y0,y1,y2,y3⟩:=y
 simp only[Prof.v,V.agg.injEq,List.cons.injEq,V.int.injEq,V.str.injEq,V.bool.injEq,V.sl.injEq,true_and,and_true]at h
 obtain⟨h0,h1,h2,h3⟩:=h
 cases h0
 cases h1
 cases h2
 cases map_inj Ftr.inj h3
 rfl
theorem Fixt.inj {x y:Fixt}(h:x.v=y.v):x=y:=by
 obtain⟨x0,x1,x2,x3,x4,x5,x6⟩:=x;obtain⟨y0,y1,y2,y3,y4,y5,y6⟩:=y
 simp only[Fixt.v,V.agg.injEq,List.cons.injEq,V.int.injEq,V.str.injEq,V.bool.injEq,V.sl.injEq,true_and,and_true]at h
 obtain⟨h0,h1,h2,h3,h4,h5,h6⟩:=h
 cases h0
 cases h1
 cases h2
 cases h3
 cases h4
 cases h5
 cases h6
 rfl
theorem Prm.inj {x y:Prm}(h:x.v=y.v):x=y:=by
 obtain⟨x0,x1⟩:=x;obtain⟨y0,y1⟩:=y
 simp only[Prm.v,V.agg.injEq,List.cons.injEq,V.int.injEq,V.str.injEq,V.bool.injEq,V.sl.injEq,true_and,and_true]at h
 obtain⟨h0,h1⟩:=h
 cases h0
 cases h1
 rfl
theorem Val.inj {x y:Val}(h:x.v=y.v):x=y:=by
 obtain⟨x0,x1⟩:=x;obtain⟨y0,y1⟩:=y
 simp only[Val.v,V.agg.injEq,List.cons.injEq,V.int.injEq,V.str.injEq,V.bool.injEq,V.sl.injEq,true_and,and_true]at h
 obtain⟨h0,h1⟩:=h
 cases h0
 cases h1
 rfl
theorem Grp.inj {x y:Grp}(h:x.v=y.v):x=y:=by
 obtain⟨x0,x1⟩:=x;obtain⟨y0,y1⟩:=y
 simp only[Grp.v,V.agg.injEq,List.cons.injEq,V.int.injEq,V.str.injEq,V.bool.injEq,V.sl.injEq,true_and,and_true]at h
 obtain⟨h0,h1⟩:=h
 cases h0
 cases map_inj (f:=V.int .i64) (fun h=>(V.int.inj h).2) h1
 rfl
theorem Hue.inj {x y:Hue}(h:x.v=y.v):x=y:=by
 obtain⟨x0,x1,x2⟩:=x;obtain⟨y0,y1,y2⟩:=y
 simp only[Hue.v,V.agg.injEq,List.cons.injEq,V.int.injEq,V.str.injEq,V.bool.injEq,V.sl.injEq,true_and,and_true]at h
 obtain⟨h0,h1,h2⟩:=h
 cases h0
 cases h1
 cases h2
 rfl
theorem Pal.inj {x y:Pal}(h:x.v=y.v):x=y:=by
 obtain⟨x0,x1⟩:=x;obtain⟨y0,y1⟩:=y
 simp only[Pal.v,V.agg.injEq,List.cons.injEq,V.int.injEq,V.str.injEq,V.bool.injEq,V.sl.injEq,true_and,and_true]at h
 obtain⟨h0,h1⟩:=h
 cases h0
 cases map_inj Hue.inj h1
 rfl
theorem Tim.inj {x y:Tim}(h:x.v=y.v):x=y:=by
 obtain⟨x0,x1,x2,x3,x4,x5⟩:=x;obtain⟨y0,y1,y2,y3,y4,y5⟩:=y
 simp only[Tim.v,V.agg.injEq,List.cons.injEq,V.int.injEq,V.str.injEq,V.bool.injEq,V.sl.injEq,true_and,and_true]at h
 obtain⟨h0,h1,h2,h3,h4,h5⟩:=h
 cases h0
 cases h1
 cases h2
 cases h3
 cases h4
 cases h5
 rfl
theorem Mov.inj {x y:Mov}(h:x.v=y.v):x=y:=by
 obtain⟨⟨x0,x1⟩,⟨x2,x3⟩,x4⟩:=x;obtain⟨⟨y0,y1⟩,⟨y2,y3⟩,y4⟩:=y
 simp only[Mov.v,V.agg.injEq,List.cons.injEq,V.int.injEq,V.str.injEq,V.bool.injEq,V.sl.injEq,true_and,and_true]at h
 obtain⟨h0,h1,h2,h3,h4⟩:=h
 cases h0
 cases h1
 cases h2
 cases h3
 cases h4
 rfl
theorem Cu.inj {x y:Cu}(h:x.v=y.v):x=y:=by
 obtain⟨x0,x1,x2,x3,x4,x5,x6,x7,x8⟩:=x;obtain⟨y0,y1,y2,y3,y4,y5,y6,y7,y8⟩:=y
 simp only[Cu.v,V.agg.injEq,List.cons.injEq,V.int.injEq,V.str.injEq,V.bool.injEq,V.sl.injEq,true_and,and_true]at h
 obtain⟨h0,h1,h2,h3,h4,h5,h6,h7,h8⟩:=h
 cases h0
 cases h1
 cases map_inj Mov.inj h2
 cases map_inj Tim.inj h3
 cases h4
 cases h5
 cases h6
 cases h7
 cases h8
 rfl
theorem Lst.inj {x y:Lst}(h:x.v=y.v):x=y:=by
 obtain⟨x0,x1,x2⟩:=x;obtain⟨y0,y1,y2⟩:=y
 simp only[Lst.v,V.agg.injEq,List.cons.injEq,V.int.injEq,V.str.injEq,V.bool.injEq,V.sl.injEq,true_and,and_true]at h
 obtain⟨h0,h1,h2⟩:=h
 cases h0
 cases h1
 cases map_inj Cu.inj h2
 rfl
theorem Gan.inj {x y:Gan}(h:x.v=y.v):x=y:=by
 obtain⟨⟨x0,x1⟩,x2⟩:=x;obtain⟨⟨y0,y1⟩,y2⟩:=y
 simp only[Gan.v,V.agg.injEq,List.cons.injEq,V.int.injEq,V.str.injEq,V.bool.injEq,V.sl.injEq,true_and,and_true]at h
 obtain⟨h0,h1,h2⟩:=h
 cases h0
 cases h1
 cases h2
 rfl
theorem Sb.inj {x y:Sb}(h:x.v=y.v):x=y:=by
 obtain⟨x0,x1,x2,x3⟩:=x;obtain⟨y0,y1,y2,y3⟩:=y
 simp only[Sb.v,V.agg.injEq,List.cons.injEq,V.int.injEq,V.str.injEq,V.bool.injEq,V.sl.injEq,true_and,and_true]at h
 obtain⟨h0,h1,h2,h3⟩:=h
 cases h0
 cases h1
 cases h2
 cases map_inj Gan.inj h3
 rfl
theorem Eff.inj {x y:Eff}(h:x.v=y.v):x=y:=by
 obtain⟨x0,x1,x2,x3,x4,x5⟩:=x;obtain⟨y0,y1,y2,y3,y4,y5⟩:=y
 simp only[Eff.v,V.agg.injEq,List.cons.injEq,V.int.injEq,V.str.injEq,V.bool.injEq,V.sl.injEq,true_and,and_true]at h
 obtain⟨h0,h1,h2,h3,h4,h5⟩:=h
 cases h0
 cases h1
 cases map_inj Pt.inj h2
 cases h3
 cases h4
 cases h5
 rfl
theorem Sho.inj {x y:Sho}(h:x.v=y.v):x=y:=by
 obtain⟨x0,x1,x2,x3,x4,x5,x6,x7,x8⟩:=x;obtain⟨y0,y1,y2,y3,y4,y5,y6,y7,y8⟩:=y
 simp only[Sho.v,V.agg.injEq,List.cons.injEq,V.int.injEq,V.str.injEq,V.bool.injEq,V.sl.injEq,true_and,and_true]at h
 obtain⟨h0,h1,h2,h3,h4,h5,h6,h7,h8⟩:=h
 cases h0
 cases map_inj (f:=Pt.vs) (fun h=>map_inj Pt.inj (V.sl.inj h)) h1
 cases map_inj Prof.inj h2
 cases map_inj Fixt.inj h3
 cases map_inj Grp.inj h4
 cases map_inj Pal.inj h5
 cases map_inj Lst.inj h6
 cases map_inj Sb.inj h7
 cases map_inj Eff.inj h8
 rfl
theorem Edi.inj {x y:Edi}(h:x.v=y.v):x=y:=by
 obtain⟨x0,x1,x2,x3,x4,⟨x5,x6,x7,x8,x9,x10,x11,x12,x13⟩,⟨x14,x15⟩,⟨x16,x17⟩,⟨x18,x19,x20,x21⟩,⟨x22,x23,x24,x25,x26,x27⟩,⟨x28,x29,x30,x31,x32,x33,x34⟩⟩:=x;obtain⟨y0,y1,y2,y3,y4,⟨y5,y6,y7,y8,y9,y10,y11,y12,y13⟩,⟨y14,y15⟩,⟨y16,y17⟩,⟨y18,y19,y20,y21⟩,⟨y22,y23,y24,y25,y26,y27⟩,⟨y28,y29,y30,y31,y32,y33,y34⟩⟩:=y
 simp only[Edi.v,V.agg.injEq,List.cons.injEq,V.int.injEq,V.str.injEq,V.bool.injEq,V.sl.injEq,true_and,and_true]at h
 obtain⟨h0,h1,h2,h3,h4,h5,h6,h7,h8,h9,h10,h11,h12,h13,h14,h15,h16,h17,h18,h19,h20,h21,h22,h23,h24,h25,h26,h27,h28,h29,h30,h31,h32,h33,h34⟩:=h
 cases h0
 cases h1
 cases h2
 cases h3
 cases h4
 cases h5
 cases h6
 cases map_inj Mov.inj h7
 cases map_inj Tim.inj h8
 cases h9
 cases h10
 cases h11
 cases h12
 cases h13
 cases h14
 cases map_inj Hue.inj h15
 cases h16
 cases map_inj (f:=V.int .i64) (fun h=>(V.int.inj h).2) h17
 cases h18
 cases h19
 cases h20
 cases map_inj Gan.inj h21
 cases h22
 cases h23
 cases map_inj Pt.inj h24
 cases h25
 cases h26
 cases h27
 cases h28
 cases h29
 cases h30
 cases h31
 cases h32
 cases h33
 cases h34
 rfl
theorem His.inj {x y:His}(h:x.v=y.v):x=y:=by
 obtain⟨x0,⟨x1,x2,x3,x4,x5,x6,x7,x8,x9⟩,x10⟩:=x;obtain⟨y0,⟨y1,y2,y3,y4,y5,y6,y7,y8,y9⟩,y10⟩:=y
 simp only[His.v,V.agg.injEq,List.cons.injEq,V.int.injEq,V.str.injEq,V.bool.injEq,V.sl.injEq,true_and,and_true]at h
 obtain⟨h0,h1,h2,h3,h4,h5,h6,h7,h8,h9,h10⟩:=h
 cases map_inj Sho.inj h0
 cases h1
 cases map_inj (f:=Pt.vs) (fun h=>map_inj Pt.inj (V.sl.inj h)) h2
 cases map_inj Prof.inj h3
 cases map_inj Fixt.inj h4
 cases map_inj Grp.inj h5
 cases map_inj Pal.inj h6
 cases map_inj Lst.inj h7
 cases map_inj Sb.inj h8
 cases map_inj Eff.inj h9
 cases map_inj Sho.inj h10
 rfl
theorem Ent.inj {x y:Ent}(h:x.v=y.v):x=y:=by
 obtain⟨⟨x0,x1⟩,⟨x2,x3⟩⟩:=x;obtain⟨⟨y0,y1⟩,⟨y2,y3⟩⟩:=y
 simp only[Ent.v,V.agg.injEq,List.cons.injEq,V.int.injEq,V.str.injEq,V.bool.injEq,V.sl.injEq,true_and,and_true]at h
 obtain⟨h0,h1,h2,h3⟩:=h
 cases h0
 cases h1
 cases h2
 cases h3
 rfl
theorem Act.inj {x y:Act}(h:x.v=y.v):x=y:=by
 obtain⟨x0,x1,x2,x3,x4,x5,x6,x7,x8,⟨x9,x10,x11,x12,x13,⟨x14,x15,x16,x17,x18,x19,x20,x21,x22⟩,⟨x23,x24⟩,⟨x25,x26⟩,⟨x27,x28,x29,x30⟩,⟨x31,x32,x33,x34,x35,x36⟩,⟨x37,x38,x39,x40,x41,x42,x43⟩⟩⟩:=x;obtain⟨y0,y1,y2,y3,y4,y5,y6,y7,y8,⟨y9,y10,y11,y12,y13,⟨y14,y15,y16,y17,y18,y19,y20,y21,y22⟩,⟨y23,y24⟩,⟨y25,y26⟩,⟨y27,y28,y29,y30⟩,⟨y31,y32,y33,y34,y35,y36⟩,⟨y37,y38,y39,y40,y41,y42,y43⟩⟩⟩:=y
 simp only[Act.v,V.agg.injEq,List.cons.injEq,V.int.injEq,V.str.injEq,V.bool.injEq,V.sl.injEq,true_and,and_true]at h
 obtain⟨h0,h1,h2,h3,h4,h5,h6,h7,h8,h9,h10,h11,h12,h13,h14,h15,h16,h17,h18,h19,h20,h21,h22,h23,h24,h25,h26,h27,h28,h29,h30,h31,h32,h33,h34,h35,h36,h37,h38,h39,h40,h41,h42,h43⟩:=h
 cases h0
 cases h1
 cases h2
 cases h3
 cases h4
 cases h5
 cases map_inj Ent.inj h6
 cases map_inj Prm.inj h7
 cases map_inj (f:=V.int .i64) (fun h=>(V.int.inj h).2) h8
 cases h9
 cases h10
 cases h11
 cases h12
 cases h13
 cases h14
 cases h15
 cases map_inj Mov.inj h16
 cases map_inj Tim.inj h17
 cases h18
 cases h19
 cases h20
 cases h21
 cases h22
 cases h23
 cases map_inj Hue.inj h24
 cases h25
 cases map_inj (f:=V.int .i64) (fun h=>(V.int.inj h).2) h26
 cases h27
 cases h28
 cases h29
 cases map_inj Gan.inj h30
 cases h31
 cases h32
 cases map_inj Pt.inj h33
 cases h34
 cases h35
 cases h36
 cases h37
 cases h38
 cases h39
 cases h40
 cases h41
 cases h42
 cases h43
 rfl
end Go.Proofs.YteggomljbalaaaaGreatDoor

namespace Go.Proofs.YteggomljbalaaaaGreatDoor
open Go.Sha
set_option maxRecDepth 100000
open Classical in
noncomputable def hSame:List V→Option VRes
 |[v,w]=>if h:w=zEV∧∃e:Edi,v=e.v∧e.okE then some (.ret (.bool (zEd (Classical.choose h.2)))) else none
 |_=>none
noncomputable def HS:EvF:=⟨[22],fun f args st=>bif memL f [3,9,10,11,20,21,84] then none else bif Nat.beq f 85 then(hSame args).map fun r=>(r,st) else run Tryz.prog HH f args st⟩
@[push_cast]theorem HS_raw:HS.raw=[22]:=idq rfl
theorem up {k:FuncId}{a:List V}{st:St}{r:VRes×St}(h:run Tryz.prog HH k a st=some r)(h1:memL k [3,9,10,11,20,21,84]=false:=by rfl)(h2:Nat.beq k 85=false:=by rfl):run Tryz.prog HS k a st=some r:=run_H (by
 show(bif memL k [3,9,10,11,20,21,84] then none else bif Nat.beq k 85 then _ else run Tryz.prog HH k a st)=_
 rw[h1,h2,cond_false,cond_false];exact h)
open Classical in
theorem f85 {e:Edi}(h:e.okE){st:St}:run Tryz.prog HS 85 [e.v,zEV] st=some (.ret (.bool (zEd e)),st):=run_H (by
 show(hSame [e.v,zEV]).map (fun r=>(r,st))=_
 have hc:zEV=zEV∧∃d:Edi,e.v=d.v∧d.okE:=⟨rfl,e,rfl,h⟩
 show(if h:zEV=zEV∧∃d:Edi,e.v=d.v∧d.okE then some (VRes.ret (V.bool (zEd (Classical.choose h.2)))) else none).map (fun r=>(r,st))=_
 rw[dif_pos hc,←Edi.inj (Classical.choose_spec hc.2).1];rfl)
theorem f84 {a:Act}(h:a.okA){st:St}:run Tryz.prog HS 84 [a.v] st=some (.ret (.bool (zEd a.edt)),st):=by
 have h85:=fun(st:St)=>f85 h.edt (st:=st)
 rw[run_shut F84 rfl rfl (by simp)]
 push_cast[Edi.v]at h85
 push_cast[Act.v,h85]
end Go.Proofs.YteggomljbalaaaaGreatDoor

namespace Go.Proofs.YteggomljbalaaaaGreatDoor
open Go.Sha
set_option maxRecDepth 100000
variable {g:List (Nat×Obj)}{n:Nat}{a:Act}{st:St}
theorem f67:run Tryz.prog HH 67 [a.v] st=some (.ret (.int .i64 (inC a.targ 1 1048576)),st):=by
 have h44:=fun(st:St)=>f44 (v:=a.targ) (l:=1) (h:=1048576) (st:=st)
 rw[run_shut F67 rfl rfl (by simp)]
 push_cast[Act.v,h44]
 all_goals first|with_reducible rfl|exact dn_eq (by omega) (by with_reducible rfl)|((repeat' split)<;>(try simp_all)<;>(try (with_reducible refine dn_eq ?_ ?_<;>first|trivial|omega|rfl))<;>(try omega))
theorem f68:run Tryz.prog HH 68 [a.v] st=some (.ret (.bool (a.targ == 0)),st):=by
 rw[run_shut F68 rfl rfl (by simp)]
 push_cast[Act.v]
 all_goals first|with_reducible rfl|exact dn_eq (by omega) (by with_reducible rfl)|((repeat' split)<;>(try simp_all)<;>(try (with_reducible refine dn_eq ?_ ?_<;>first|trivial|omega|rfl))<;>(try omega))
theorem f69 (h:a.okA):run Tryz.prog HH 69 [a.v] st=some (.ret (.int .i64 (numC a.cue)),st):=by
 have h70:=fun(st:St)=>f70 (s:=a.cue) h.cue (st:=st)
 rw[run_shut F69 rfl rfl (by simp)]
 push_cast[Act.v,h70]
 all_goals first|with_reducible rfl|exact dn_eq (by omega) (by with_reducible rfl)|((repeat' split)<;>(try simp_all)<;>(try (with_reducible refine dn_eq ?_ ?_<;>first|trivial|omega|rfl))<;>(try omega))
theorem f71:run Tryz.prog HH 71 [a.v] st=some (.ret (.bool (a.cue == [])),st):=by
 rw[run_shut F71 rfl rfl (by simp)]
 push_cast[Act.v]
 all_goals first|with_reducible rfl|exact dn_eq (by omega) (by with_reducible rfl)|((repeat' split)<;>(try simp_all)<;>(try (with_reducible refine dn_eq ?_ ?_<;>first|trivial|omega|rfl))<;>(try omega))
theorem f72:run Tryz.prog HH 72 [a.v] st=some (.ret (.int .i64 (levC a.kind a.lev)),st):=by
 have h1:=fun(st:St)=>f44 (v:=a.lev) (l:=1) (h:=400) (st:=st)
 have h2:=fun(st:St)=>f44 (v:=a.lev) (l:=0) (h:=1) (st:=st)
 have h3:=fun(st:St)=>f44 (v:=a.lev) (l:=0) (h:=65535) (st:=st)
 unfold levC
 rw[run_shut F72 rfl rfl (by simp)]
 by_cases k1:a.kind=6
 ·push_cast[Act.v,h1,k1];simp
 ·by_cases k2:a.kind=15
  ·push_cast[Act.v,h1,k1,k2];simp
  ·by_cases k3:a.kind=11
   ·push_cast[Act.v,h2,k1,k2,k3];simp
   ·push_cast[Act.v,h3,k1,k2,k3];simp
theorem f73:run Tryz.prog HH 73 [a.v] st=some (.ret (.bool (a.lev == 0)),st):=by
 rw[run_shut F73 rfl rfl (by simp)]
 push_cast[Act.v]
 all_goals first|with_reducible rfl|exact dn_eq (by omega) (by with_reducible rfl)|((repeat' split)<;>(try simp_all)<;>(try (with_reducible refine dn_eq ?_ ?_<;>first|trivial|omega|rfl))<;>(try omega))
theorem f74:run Tryz.prog HH 74 [a.v] st=some (.ret (.int .i64 (inC a.dur 0 10000000)),st):=by
 have h44:=fun(st:St)=>f44 (v:=a.dur) (l:=0) (h:=10000000) (st:=st)
 rw[run_shut F74 rfl rfl (by simp)]
 push_cast[Act.v,h44]
 all_goals first|with_reducible rfl|exact dn_eq (by omega) (by with_reducible rfl)|((repeat' split)<;>(try simp_all)<;>(try (with_reducible refine dn_eq ?_ ?_<;>first|trivial|omega|rfl))<;>(try omega))
theorem f75:run Tryz.prog HH 75 [a.v] st=some (.ret (.bool (a.dur == 0)),st):=by
 rw[run_shut F75 rfl rfl (by simp)]
 push_cast[Act.v]
 all_goals first|with_reducible rfl|exact dn_eq (by omega) (by with_reducible rfl)|((repeat' split)<;>(try simp_all)<;>(try (with_reducible refine dn_eq ?_ ?_<;>first|trivial|omega|rfl))<;>(try omega))
theorem f76 (h:a.okA):run Tryz.prog HH 76 [a.v] st=some (.ret (.int .i64 (if(a.ents.length:Int)=0 then 12 else enS a.ents)),st):=by
 have h112:=fun(st:St)=>f112 (l:=a.ents) h.ents (st:=st)
 rw[run_shut F76 rfl rfl (by simp)]
 push_cast[Act.v,h112]
 all_goals first|with_reducible rfl|exact dn_eq (by omega) (by with_reducible rfl)|((repeat' split)<;>(try simp_all)<;>(try (with_reducible refine dn_eq ?_ ?_<;>first|trivial|omega|rfl))<;>(try omega))
theorem f77:run Tryz.prog HH 77 [a.v] st=some (.ret (.bool ((a.ents.length:Int) == 0)),st):=by
 rw[run_shut F77 rfl rfl (by simp)]
 push_cast[Act.v]
 all_goals first|with_reducible rfl|exact dn_eq (by omega) (by with_reducible rfl)|((repeat' split)<;>(try simp_all)<;>(try (with_reducible refine dn_eq ?_ ?_<;>first|trivial|omega|rfl))<;>(try omega))
theorem f79:run Tryz.prog HH 79 [a.v] st=some (.ret (.bool ((a.prms.length:Int) == 0)),st):=by
 rw[run_shut F79 rfl rfl (by simp)]
 push_cast[Act.v]
 all_goals first|with_reducible rfl|exact dn_eq (by omega) (by with_reducible rfl)|((repeat' split)<;>(try simp_all)<;>(try (with_reducible refine dn_eq ?_ ?_<;>first|trivial|omega|rfl))<;>(try omega))
theorem f81:run Tryz.prog HH 81 [a.v] st=some (.ret (.bool ((a.chans.length:Int) == 0)),st):=by
 rw[run_shut F81 rfl rfl (by simp)]
 push_cast[Act.v]
 all_goals first|with_reducible rfl|exact dn_eq (by omega) (by with_reducible rfl)|((repeat' split)<;>(try simp_all)<;>(try (with_reducible refine dn_eq ?_ ?_<;>first|trivial|omega|rfl))<;>(try omega))
theorem f82 (h:a.okA):run Tryz.prog HH 82 [a.v] st=some (.ret (.int .i64 (edtC a.edt)),st):=by
 have h83:=fun(st:St)=>f83 (e:=a.edt) h.edt.moves h.edt.parts (st:=st)
 push_cast[Edi.v]at h83
 rw[run_shut F82 rfl rfl (by simp)]
 push_cast[Act.v,Edi.v,h83]
 all_goals first|with_reducible rfl|exact dn_eq (by omega) (by with_reducible rfl)|((repeat' split)<;>(try simp_all)<;>(try (with_reducible refine dn_eq ?_ ?_<;>first|trivial|omega|rfl))<;>(try omega))
theorem e43 (g:List (Nat×Obj)):evK Tryz.prog HH 100 30 43 [] (stG g)=some (.ret (.agg [.int .i64 1,.int .i64 3,.int .i64 1,.int .i64 1,.int .i64 1,.int .i64 1,.int .i64 5,.int .i64 13,.int .i64 9,.int .i64 13,.int .i64 12,.int .i64 4,.int .i64 24,.int .i64 32,.int .i64 65,.int .i64 5,.int .i64 1,.int .i64 128,.int .i64 0,.int .i64 0]),stG g):=by kernel_rfl
theorem e45 (g:List (Nat×Obj)):evK Tryz.prog HH 100 30 45 [] (stG g)=some (.ret (.agg [.fn (.func 67) [] [],.fn (.func 68) [] [],.fn (.func 69) [] [],.fn (.func 71) [] [],.fn (.func 72) [] [],.fn (.func 73) [] [],.fn (.func 74) [] [],.fn (.func 75) [] [],.fn (.func 76) [] [],.fn (.func 77) [] [],.fn (.func 78) [] [],.fn (.func 79) [] [],.fn (.func 80) [] [],.fn (.func 81) [] [],.fn (.func 82) [] [],.fn (.func 84) [] []]),stG g):=by kernel_rfl
end Go.Proofs.YteggomljbalaaaaGreatDoor

namespace Go.Proofs.YteggomljbalaaaaGreatDoor
open Go.Sha
set_option maxRecDepth 100000
theorem en_eq {l:List Ent}:∀{r:List Ent}{j:Nat},l.drop j=r→(∀z∈l.take j,prmC 1 z.prm=0)→enR l r j=0→enP l r j=0
 |[],_,_,_,_=>rfl
 |q::r,j,hd,hz,h=>by
  have hj:=drop_le hd
  rw[enR]at h
  split at h
  ·rename_i a;exact absurd h a
  rename_i a
  split at h
  ·rename_i b;exact absurd h b
  rename_i b
  split at h
  ·cases h
  rename_i c
  have a:=Classical.not_not.1 a
  have b:=Classical.not_not.1 b
  have hc:entC q=0:=by unfold entC;rw[if_neg (by simp[a]),b]
  rw[enP,if_neg (by simp[hc]),if_neg,en_eq (drop_succ hd) (all_snoc (P:=fun z:Ent=>prmC 1 z.prm=0) hd hz a) h]
  rintro⟨j0,hcm⟩
  have hp:=hz _ (mem_prev j0 (by omega))
  rw[cmp_bef (by omega) (by omega) hp a]at hcm
  exact c ⟨j0,by rw[hcm];simp⟩
theorem ens_eq {l:List Ent}(h:enRS l=0):enS l=0:=by
 unfold enRS at h
 unfold enS
 split at h
 ·cases h
 ·rename_i a;rw[if_neg a];exact en_eq rfl (by simp) h
structure ActOk (a:Act):Prop where
 k:0≤a.kind∧a.kind≤19
 w:0≤a.when∧a.when≤10000000
 t:if tgB a.kind=true then inC a.targ 1 1048576=0 else a.targ=0
 c:if a.kind=1 then numC a.cue=0 else a.cue=[]
 l:if lvB a.kind=true then levC a.kind a.lev=0 else a.lev=0
 d:if tmB a.kind=true then inC a.dur 0 10000000=0 else a.dur=0
 e:if a.kind=12 then ¬(a.ents.length:Int)=0∧enS a.ents=0 else a.ents.length=0
 p:if a.kind=13 then prRS a.prms=0 else a.prms.length=0
 h:if a.kind=14 then chS a.chans=0 else a.chans.length=0
 x:if a.kind=17 then edtC a.edt=0 else zEd a.edt=true
theorem act_ok {a:Act}(h:actR a=0):ActOk a:=by
 unfold actR at h
 split at h
 ·cases h
 rename_i h1
 split at h
 ·cases h
 rename_i h2
 split at h
 ·rename_i a;exact absurd h a
 rename_i h3
 split at h
 ·rename_i a;exact absurd h a
 rename_i h4
 split at h
 ·cases h
 rename_i h5
 have h3:=Classical.not_not.1 h3
 have h4:=Classical.not_not.1 h4
 have h5:idlR a=true:=by simpa using h5
 simp only[idlR,Bool.and_eq_true,Bool.or_eq_true,decide_eq_true_eq]at h5
 obtain⟨i1,i2,i3,i4,i5,i6,i7,i8⟩:=h5
 have g:(tgB a.kind=true→inC a.targ 1 1048576=0)∧(a.kind=1→numC a.cue=0)∧(lvB a.kind=true→levC a.kind a.lev=0)∧(tmB a.kind=true→inC a.dur 0 10000000=0):=by
  unfold numR at h3
  split at h3
  ·cases h3
  rename_i g1
  split at h3
  ·rename_i g2;exact absurd h3 g2.2
  rename_i g2
  split at h3
  ·rename_i g3;exact absurd h3 g3.2
  rename_i g3
  split at h3
  ·cases h3
  rename_i g4
  refine⟨fun e=>?_,fun e=>?_,fun e=>?_,fun e=>?_⟩
  ·unfold inC;rw[if_neg fun c=>g1 ⟨e,c⟩]
  ·exact Classical.not_not.1 fun c=>g2 ⟨e,c⟩
  ·exact Classical.not_not.1 fun c=>g3 ⟨e,c⟩
  ·unfold inC;rw[if_neg fun c=>g4 ⟨e,c⟩]
 obtain⟨g1,g2,g3,g4⟩:=g
 refine⟨by omega,by omega,?_,?_,?_,?_,?_,?_,?_,?_⟩
 ·split
  ·exact g1 ‹_›
  ·rename_i c;exact i1.resolve_left c
 ·split
  ·exact g2 ‹_›
  ·rename_i c;exact i2.resolve_left c
 ·split
  ·exact g3 ‹_›
  ·rename_i c;exact i3.resolve_left c
 ·split
  ·exact g4 ‹_›
  ·rename_i c;exact i4.resolve_left c
 ·split
  ·rename_i c
   unfold lisR at h4;rw[if_pos c]at h4
   split at h4
   ·cases h4
   ·exact⟨by omega,ens_eq h4⟩
  ·rename_i c;exact i5.resolve_left c
 ·split
  ·rename_i c
   unfold lisR at h4;rw[if_neg (by omega),if_pos c]at h4
   exact h4
  ·rename_i c;exact i6.resolve_left c
 ·split
  ·rename_i c
   unfold lisR at h4;rw[if_neg (by omega),if_neg (by omega),if_pos c]at h4
   exact h4
  ·rename_i c;exact i7.resolve_left c
 ·split
  ·rename_i c
   unfold lisR at h4;rw[if_neg (by omega),if_neg (by omega),if_neg (by omega),if_pos c]at h4
   exact edt_ok h4
  ·rename_i c;exact i8.resolve_left c
end Go.Proofs.YteggomljbalaaaaGreatDoor

namespace Go.Proofs.YteggomljbalaaaaGreatDoor
open Go.Sha
set_option maxRecDepth 100000
variable {g:List (Nat×Obj)}{n:Nat}
theorem f43 {st:St}:run Tryz.prog HH 43 [] st=some (.ret (.agg [.int .i64 1,.int .i64 3,.int .i64 1,.int .i64 1,.int .i64 1,.int .i64 1,.int .i64 5,.int .i64 13,.int .i64 9,.int .i64 13,.int .i64 12,.int .i64 4,.int .i64 24,.int .i64 32,.int .i64 65,.int .i64 5,.int .i64 1,.int .i64 128,.int .i64 0,.int .i64 0]),st) :=
 at_gl (evK_run (e43 st.x.gl)) (by rw[F43];rfl) (fun _=>rfl) rfl
theorem f45 {st:St}:run Tryz.prog HH 45 [] st=some (.ret (.agg [.fn (.func 67) [] [],.fn (.func 68) [] [],.fn (.func 69) [] [],.fn (.func 71) [] [],.fn (.func 72) [] [],.fn (.func 73) [] [],.fn (.func 74) [] [],.fn (.func 75) [] [],.fn (.func 76) [] [],.fn (.func 77) [] [],.fn (.func 78) [] [],.fn (.func 79) [] [],.fn (.func 80) [] [],.fn (.func 81) [] [],.fn (.func 82) [] [],.fn (.func 84) [] []]),st) :=
 at_gl (evK_run (e45 st.x.gl)) (by rw[F45];rfl) (fun _=>rfl) rfl
theorem bt:bitsV BinOp.and IntKind.i64 (Int.fdiv 0 (2 ^ min 0 IntKind.i64.bits)) 1=0∧bitsV BinOp.and IntKind.i64 (Int.fdiv 0 (2 ^ min 1 IntKind.i64.bits)) 1=0∧bitsV BinOp.and IntKind.i64 (Int.fdiv 0 (2 ^ min 2 IntKind.i64.bits)) 1=0∧bitsV BinOp.and IntKind.i64 (Int.fdiv 0 (2 ^ min 3 IntKind.i64.bits)) 1=0∧bitsV BinOp.and IntKind.i64 (Int.fdiv 0 (2 ^ min 4 IntKind.i64.bits)) 1=0∧bitsV BinOp.and IntKind.i64 (Int.fdiv 0 (2 ^ min 5 IntKind.i64.bits)) 1=0∧bitsV BinOp.and IntKind.i64 (Int.fdiv 0 (2 ^ min 6 IntKind.i64.bits)) 1=0∧bitsV BinOp.and IntKind.i64 (Int.fdiv 0 (2 ^ min 7 IntKind.i64.bits)) 1=0∧bitsV BinOp.and IntKind.i64 (Int.fdiv 1 (2 ^ min 0 IntKind.i64.bits)) 1=1∧bitsV BinOp.and IntKind.i64 (Int.fdiv 1 (2 ^ min 1 IntKind.i64.bits)) 1=0∧bitsV BinOp.and IntKind.i64 (Int.fdiv 1 (2 ^ min 2 IntKind.i64.bits)) 1=0∧bitsV BinOp.and IntKind.i64 (Int.fdiv 1 (2 ^ min 3 IntKind.i64.bits)) 1=0∧bitsV BinOp.and IntKind.i64 (Int.fdiv 1 (2 ^ min 4 IntKind.i64.bits)) 1=0∧bitsV BinOp.and IntKind.i64 (Int.fdiv 1 (2 ^ min 5 IntKind.i64.bits)) 1=0∧bitsV BinOp.and IntKind.i64 (Int.fdiv 1 (2 ^ min 6 IntKind.i64.bits)) 1=0∧bitsV BinOp.and IntKind.i64 (Int.fdiv 1 (2 ^ min 7 IntKind.i64.bits)) 1=0∧bitsV BinOp.and IntKind.i64 (Int.fdiv 3 (2 ^ min 0 IntKind.i64.bits)) 1=1∧bitsV BinOp.and IntKind.i64 (Int.fdiv 3 (2 ^ min 1 IntKind.i64.bits)) 1=1∧bitsV BinOp.and IntKind.i64 (Int.fdiv 3 (2 ^ min 2 IntKind.i64.bits)) 1=0∧bitsV BinOp.and IntKind.i64 (Int.fdiv 3 (2 ^ min 3 IntKind.i64.bits)) 1=0∧bitsV BinOp.and IntKind.i64 (Int.fdiv 3 (2 ^ min 4 IntKind.i64.bits)) 1=0∧bitsV BinOp.and IntKind.i64 (Int.fdiv 3 (2 ^ min 5 IntKind.i64.bits)) 1=0∧bitsV BinOp.and IntKind.i64 (Int.fdiv 3 (2 ^ min 6 IntKind.i64.bits)) 1=0∧bitsV BinOp.and IntKind.i64 (Int.fdiv 3 (2 ^ min 7 IntKind.i64.bits)) 1=0∧bitsV BinOp.and IntKind.i64 (Int.fdiv 4 (2 ^ min 0 IntKind.i64.bits)) 1=0∧bitsV BinOp.and IntKind.i64 (Int.fdiv 4 (2 ^ min 1 IntKind.i64.bits)) 1=0∧bitsV BinOp.and IntKind.i64 (Int.fdiv 4 (2 ^ min 2 IntKind.i64.bits)) 1=1∧bitsV BinOp.and IntKind.i64 (Int.fdiv 4 (2 ^ min 3 IntKind.i64.bits)) 1=0∧bitsV BinOp.and IntKind.i64 (Int.fdiv 4 (2 ^ min 4 IntKind.i64.bits)) 1=0∧bitsV BinOp.and IntKind.i64 (Int.fdiv 4 (2 ^ min 5 IntKind.i64.bits)) 1=0∧bitsV BinOp.and IntKind.i64 (Int.fdiv 4 (2 ^ min 6 IntKind.i64.bits)) 1=0∧bitsV BinOp.and IntKind.i64 (Int.fdiv 4 (2 ^ min 7 IntKind.i64.bits)) 1=0∧bitsV BinOp.and IntKind.i64 (Int.fdiv 5 (2 ^ min 0 IntKind.i64.bits)) 1=1∧bitsV BinOp.and IntKind.i64 (Int.fdiv 5 (2 ^ min 1 IntKind.i64.bits)) 1=0∧bitsV BinOp.and IntKind.i64 (Int.fdiv 5 (2 ^ min 2 IntKind.i64.bits)) 1=1∧bitsV BinOp.and IntKind.i64 (Int.fdiv 5 (2 ^ min 3 IntKind.i64.bits)) 1=0∧bitsV BinOp.and IntKind.i64 (Int.fdiv 5 (2 ^ min 4 IntKind.i64.bits)) 1=0∧bitsV BinOp.and IntKind.i64 (Int.fdiv 5 (2 ^ min 5 IntKind.i64.bits)) 1=0∧bitsV BinOp.and IntKind.i64 (Int.fdiv 5 (2 ^ min 6 IntKind.i64.bits)) 1=0∧bitsV BinOp.and IntKind.i64 (Int.fdiv 5 (2 ^ min 7 IntKind.i64.bits)) 1=0∧bitsV BinOp.and IntKind.i64 (Int.fdiv 9 (2 ^ min 0 IntKind.i64.bits)) 1=1∧bitsV BinOp.and IntKind.i64 (Int.fdiv 9 (2 ^ min 1 IntKind.i64.bits)) 1=0∧bitsV BinOp.and IntKind.i64 (Int.fdiv 9 (2 ^ min 2 IntKind.i64.bits)) 1=0∧bitsV BinOp.and IntKind.i64 (Int.fdiv 9 (2 ^ min 3 IntKind.i64.bits)) 1=1∧bitsV BinOp.and IntKind.i64 (Int.fdiv 9 (2 ^ min 4 IntKind.i64.bits)) 1=0∧bitsV BinOp.and IntKind.i64 (Int.fdiv 9 (2 ^ min 5 IntKind.i64.bits)) 1=0∧bitsV BinOp.and IntKind.i64 (Int.fdiv 9 (2 ^ min 6 IntKind.i64.bits)) 1=0∧bitsV BinOp.and IntKind.i64 (Int.fdiv 9 (2 ^ min 7 IntKind.i64.bits)) 1=0∧bitsV BinOp.and IntKind.i64 (Int.fdiv 12 (2 ^ min 0 IntKind.i64.bits)) 1=0∧bitsV BinOp.and IntKind.i64 (Int.fdiv 12 (2 ^ min 1 IntKind.i64.bits)) 1=0∧bitsV BinOp.and IntKind.i64 (Int.fdiv 12 (2 ^ min 2 IntKind.i64.bits)) 1=1∧bitsV BinOp.and IntKind.i64 (Int.fdiv 12 (2 ^ min 3 IntKind.i64.bits)) 1=1∧bitsV BinOp.and IntKind.i64 (Int.fdiv 12 (2 ^ min 4 IntKind.i64.bits)) 1=0∧bitsV BinOp.and IntKind.i64 (Int.fdiv 12 (2 ^ min 5 IntKind.i64.bits)) 1=0∧bitsV BinOp.and IntKind.i64 (Int.fdiv 12 (2 ^ min 6 IntKind.i64.bits)) 1=0∧bitsV BinOp.and IntKind.i64 (Int.fdiv 12 (2 ^ min 7 IntKind.i64.bits)) 1=0∧bitsV BinOp.and IntKind.i64 (Int.fdiv 13 (2 ^ min 0 IntKind.i64.bits)) 1=1∧bitsV BinOp.and IntKind.i64 (Int.fdiv 13 (2 ^ min 1 IntKind.i64.bits)) 1=0∧bitsV BinOp.and IntKind.i64 (Int.fdiv 13 (2 ^ min 2 IntKind.i64.bits)) 1=1∧bitsV BinOp.and IntKind.i64 (Int.fdiv 13 (2 ^ min 3 IntKind.i64.bits)) 1=1∧bitsV BinOp.and IntKind.i64 (Int.fdiv 13 (2 ^ min 4 IntKind.i64.bits)) 1=0∧bitsV BinOp.and IntKind.i64 (Int.fdiv 13 (2 ^ min 5 IntKind.i64.bits)) 1=0∧bitsV BinOp.and IntKind.i64 (Int.fdiv 13 (2 ^ min 6 IntKind.i64.bits)) 1=0∧bitsV BinOp.and IntKind.i64 (Int.fdiv 13 (2 ^ min 7 IntKind.i64.bits)) 1=0∧bitsV BinOp.and IntKind.i64 (Int.fdiv 24 (2 ^ min 0 IntKind.i64.bits)) 1=0∧bitsV BinOp.and IntKind.i64 (Int.fdiv 24 (2 ^ min 1 IntKind.i64.bits)) 1=0∧bitsV BinOp.and IntKind.i64 (Int.fdiv 24 (2 ^ min 2 IntKind.i64.bits)) 1=0∧bitsV BinOp.and IntKind.i64 (Int.fdiv 24 (2 ^ min 3 IntKind.i64.bits)) 1=1∧bitsV BinOp.and IntKind.i64 (Int.fdiv 24 (2 ^ min 4 IntKind.i64.bits)) 1=1∧bitsV BinOp.and IntKind.i64 (Int.fdiv 24 (2 ^ min 5 IntKind.i64.bits)) 1=0∧bitsV BinOp.and IntKind.i64 (Int.fdiv 24 (2 ^ min 6 IntKind.i64.bits)) 1=0∧bitsV BinOp.and IntKind.i64 (Int.fdiv 24 (2 ^ min 7 IntKind.i64.bits)) 1=0∧bitsV BinOp.and IntKind.i64 (Int.fdiv 32 (2 ^ min 0 IntKind.i64.bits)) 1=0∧bitsV BinOp.and IntKind.i64 (Int.fdiv 32 (2 ^ min 1 IntKind.i64.bits)) 1=0∧bitsV BinOp.and IntKind.i64 (Int.fdiv 32 (2 ^ min 2 IntKind.i64.bits)) 1=0∧bitsV BinOp.and IntKind.i64 (Int.fdiv 32 (2 ^ min 3 IntKind.i64.bits)) 1=0∧bitsV BinOp.and IntKind.i64 (Int.fdiv 32 (2 ^ min 4 IntKind.i64.bits)) 1=0∧bitsV BinOp.and IntKind.i64 (Int.fdiv 32 (2 ^ min 5 IntKind.i64.bits)) 1=1∧bitsV BinOp.and IntKind.i64 (Int.fdiv 32 (2 ^ min 6 IntKind.i64.bits)) 1=0∧bitsV BinOp.and IntKind.i64 (Int.fdiv 32 (2 ^ min 7 IntKind.i64.bits)) 1=0∧bitsV BinOp.and IntKind.i64 (Int.fdiv 65 (2 ^ min 0 IntKind.i64.bits)) 1=1∧bitsV BinOp.and IntKind.i64 (Int.fdiv 65 (2 ^ min 1 IntKind.i64.bits)) 1=0∧bitsV BinOp.and IntKind.i64 (Int.fdiv 65 (2 ^ min 2 IntKind.i64.bits)) 1=0∧bitsV BinOp.and IntKind.i64 (Int.fdiv 65 (2 ^ min 3 IntKind.i64.bits)) 1=0∧bitsV BinOp.and IntKind.i64 (Int.fdiv 65 (2 ^ min 4 IntKind.i64.bits)) 1=0∧bitsV BinOp.and IntKind.i64 (Int.fdiv 65 (2 ^ min 5 IntKind.i64.bits)) 1=0∧bitsV BinOp.and IntKind.i64 (Int.fdiv 65 (2 ^ min 6 IntKind.i64.bits)) 1=1∧bitsV BinOp.and IntKind.i64 (Int.fdiv 65 (2 ^ min 7 IntKind.i64.bits)) 1=0∧bitsV BinOp.and IntKind.i64 (Int.fdiv 128 (2 ^ min 0 IntKind.i64.bits)) 1=0∧bitsV BinOp.and IntKind.i64 (Int.fdiv 128 (2 ^ min 1 IntKind.i64.bits)) 1=0∧bitsV BinOp.and IntKind.i64 (Int.fdiv 128 (2 ^ min 2 IntKind.i64.bits)) 1=0∧bitsV BinOp.and IntKind.i64 (Int.fdiv 128 (2 ^ min 3 IntKind.i64.bits)) 1=0∧bitsV BinOp.and IntKind.i64 (Int.fdiv 128 (2 ^ min 4 IntKind.i64.bits)) 1=0∧bitsV BinOp.and IntKind.i64 (Int.fdiv 128 (2 ^ min 5 IntKind.i64.bits)) 1=0∧bitsV BinOp.and IntKind.i64 (Int.fdiv 128 (2 ^ min 6 IntKind.i64.bits)) 1=0∧bitsV BinOp.and IntKind.i64 (Int.fdiv 128 (2 ^ min 7 IntKind.i64.bits)) 1=1:=by
 refine⟨?_,?_,?_,?_,?_,?_,?_,?_,?_,?_,?_,?_,?_,?_,?_,?_,?_,?_,?_,?_,?_,?_,?_,?_,?_,?_,?_,?_,?_,?_,?_,?_,?_,?_,?_,?_,?_,?_,?_,?_,?_,?_,?_,?_,?_,?_,?_,?_,?_,?_,?_,?_,?_,?_,?_,?_,?_,?_,?_,?_,?_,?_,?_,?_,?_,?_,?_,?_,?_,?_,?_,?_,?_,?_,?_,?_,?_,?_,?_,?_,?_,?_,?_,?_,?_,?_,?_,?_,?_,?_,?_,?_,?_,?_,?_,?_⟩<;>rfl
theorem f21_0 {a:Act}(h:a.okA)(ho:ActOk a)(hk:a.kind=0∨a.kind=1∨a.kind=2∨a.kind=3){st:St}:run Tryz.prog HS 21 [a.v] st=some (.ret (.int .i64 0),st):=by
 have h43:=fun(st:St)=>up (f43 (st:=st))
 have h45:=fun(st:St)=>up (f45 (st:=st))
 have h44:=fun(st:St)=>up (f44 (v:=a.when) (l:=0) (h:=10000000) (st:=st))
 have h67:=fun(st:St)=>up (f67 (a:=a) (st:=st))
 have h68:=fun(st:St)=>up (f68 (a:=a) (st:=st))
 have h69:=fun(st:St)=>up (f69 (a:=a) h (st:=st))
 have h71:=fun(st:St)=>up (f71 (a:=a) (st:=st))
 have h72:=fun(st:St)=>up (f72 (a:=a) (st:=st))
 have h73:=fun(st:St)=>up (f73 (a:=a) (st:=st))
 have h74:=fun(st:St)=>up (f74 (a:=a) (st:=st))
 have h75:=fun(st:St)=>up (f75 (a:=a) (st:=st))
 have h76:=fun(st:St)=>up (f76 (a:=a) h (st:=st))
 have h77:=fun(st:St)=>up (f77 (a:=a) (st:=st))
 have h78:=fun(st:St)=>up (f78 (a:=a) h.prms (st:=st))
 have h79:=fun(st:St)=>up (f79 (a:=a) (st:=st))
 have h80:=fun(st:St)=>up (f80 (a:=a) h.chans (st:=st))
 have h81:=fun(st:St)=>up (f81 (a:=a) (st:=st))
 have h82:=fun(st:St)=>up (f82 (a:=a) h (st:=st))
 have h84:=fun(st:St)=>f84 (a:=a) h (st:=st)
 obtain⟨ok,ow,ot,oc,ol,od,oe,op,oh,ox⟩:=ho
 have on:a.kind=12→¬(a.ents.length:Int)=0:=fun e=>by rw[if_pos e]at oe;exact oe.1
 have hw:inC a.when 0 10000000=0:=by unfold inC;rw[if_neg (by omega)]
 rw[hw]at h44
 rw[run_shut F21 rfl rfl (by simp)]
 push_cast[Act.v,Edi.v]at h67 h68 h69 h71 h72 h73 h74 h75 h76 h77 h78 h79 h80 h81 h82 h84
 rcases hk with hk|hk|hk|hk
 all_goals rw[hk]at ot oc ol od oe op oh ox
 all_goals simp[tgB,lvB,tmB]at ot oc ol od oe op oh ox
 all_goals push_cast[hk,ot,oc,ol,od,oe,op,oh,ox,beq_self_eq_true,List.length_nil,List.map_nil]at h67 h68 h69 h71 h72 h73 h74 h75 h76 h77 h78 h79 h80 h81 h82 h84
 all_goals push_cast[Act.v,Edi.v,h43,h45,h44,hk,ot,oc,ol,od,oe,op,oh,ox,h67,h68,h69,h71,h72,h73,h74,h75,h76,h77,h78,h79,h80,h81,h82,h84,bt,beq_self_eq_true,runL_of B21_0.eq_1]
theorem f21_1 {a:Act}(h:a.okA)(ho:ActOk a)(hk:a.kind=4∨a.kind=5∨a.kind=6∨a.kind=7){st:St}:run Tryz.prog HS 21 [a.v] st=some (.ret (.int .i64 0),st):=by
 have h43:=fun(st:St)=>up (f43 (st:=st))
 have h45:=fun(st:St)=>up (f45 (st:=st))
 have h44:=fun(st:St)=>up (f44 (v:=a.when) (l:=0) (h:=10000000) (st:=st))
 have h67:=fun(st:St)=>up (f67 (a:=a) (st:=st))
 have h68:=fun(st:St)=>up (f68 (a:=a) (st:=st))
 have h69:=fun(st:St)=>up (f69 (a:=a) h (st:=st))
 have h71:=fun(st:St)=>up (f71 (a:=a) (st:=st))
 have h72:=fun(st:St)=>up (f72 (a:=a) (st:=st))
 have h73:=fun(st:St)=>up (f73 (a:=a) (st:=st))
 have h74:=fun(st:St)=>up (f74 (a:=a) (st:=st))
 have h75:=fun(st:St)=>up (f75 (a:=a) (st:=st))
 have h76:=fun(st:St)=>up (f76 (a:=a) h (st:=st))
 have h77:=fun(st:St)=>up (f77 (a:=a) (st:=st))
 have h78:=fun(st:St)=>up (f78 (a:=a) h.prms (st:=st))
 have h79:=fun(st:St)=>up (f79 (a:=a) (st:=st))
 have h80:=fun(st:St)=>up (f80 (a:=a) h.chans (st:=st))
 have h81:=fun(st:St)=>up (f81 (a:=a) (st:=st))
 have h82:=fun(st:St)=>up (f82 (a:=a) h (st:=st))
 have h84:=fun(st:St)=>f84 (a:=a) h (st:=st)
 obtain⟨ok,ow,ot,oc,ol,od,oe,op,oh,ox⟩:=ho
 have on:a.kind=12→¬(a.ents.length:Int)=0:=fun e=>by rw[if_pos e]at oe;exact oe.1
 have hw:inC a.when 0 10000000=0:=by unfold inC;rw[if_neg (by omega)]
 rw[hw]at h44
 rw[run_shut F21 rfl rfl (by simp)]
 push_cast[Act.v,Edi.v]at h67 h68 h69 h71 h72 h73 h74 h75 h76 h77 h78 h79 h80 h81 h82 h84
 rcases hk with hk|hk|hk|hk
 all_goals rw[hk]at ot oc ol od oe op oh ox
 all_goals simp[tgB,lvB,tmB]at ot oc ol od oe op oh ox
 all_goals push_cast[hk,ot,oc,ol,od,oe,op,oh,ox,beq_self_eq_true,List.length_nil,List.map_nil]at h67 h68 h69 h71 h72 h73 h74 h75 h76 h77 h78 h79 h80 h81 h82 h84
 all_goals push_cast[Act.v,Edi.v,h43,h45,h44,hk,ot,oc,ol,od,oe,op,oh,ox,h67,h68,h69,h71,h72,h73,h74,h75,h76,h77,h78,h79,h80,h81,h82,h84,bt,beq_self_eq_true,runL_of B21_0.eq_1]
theorem f21_2 {a:Act}(h:a.okA)(ho:ActOk a)(hk:a.kind=8∨a.kind=9∨a.kind=10∨a.kind=11){st:St}:run Tryz.prog HS 21 [a.v] st=some (.ret (.int .i64 0),st):=by
 have h43:=fun(st:St)=>up (f43 (st:=st))
 have h45:=fun(st:St)=>up (f45 (st:=st))
 have h44:=fun(st:St)=>up (f44 (v:=a.when) (l:=0) (h:=10000000) (st:=st))
 have h67:=fun(st:St)=>up (f67 (a:=a) (st:=st))
 have h68:=fun(st:St)=>up (f68 (a:=a) (st:=st))
 have h69:=fun(st:St)=>up (f69 (a:=a) h (st:=st))
 have h71:=fun(st:St)=>up (f71 (a:=a) (st:=st))
 have h72:=fun(st:St)=>up (f72 (a:=a) (st:=st))
 have h73:=fun(st:St)=>up (f73 (a:=a) (st:=st))
 have h74:=fun(st:St)=>up (f74 (a:=a) (st:=st))
 have h75:=fun(st:St)=>up (f75 (a:=a) (st:=st))
 have h76:=fun(st:St)=>up (f76 (a:=a) h (st:=st))
 have h77:=fun(st:St)=>up (f77 (a:=a) (st:=st))
 have h78:=fun(st:St)=>up (f78 (a:=a) h.prms (st:=st))
 have h79:=fun(st:St)=>up (f79 (a:=a) (st:=st))
 have h80:=fun(st:St)=>up (f80 (a:=a) h.chans (st:=st))
 have h81:=fun(st:St)=>up (f81 (a:=a) (st:=st))
 have h82:=fun(st:St)=>up (f82 (a:=a) h (st:=st))
 have h84:=fun(st:St)=>f84 (a:=a) h (st:=st)
 obtain⟨ok,ow,ot,oc,ol,od,oe,op,oh,ox⟩:=ho
 have on:a.kind=12→¬(a.ents.length:Int)=0:=fun e=>by rw[if_pos e]at oe;exact oe.1
 have hw:inC a.when 0 10000000=0:=by unfold inC;rw[if_neg (by omega)]
 rw[hw]at h44
 rw[run_shut F21 rfl rfl (by simp)]
 push_cast[Act.v,Edi.v]at h67 h68 h69 h71 h72 h73 h74 h75 h76 h77 h78 h79 h80 h81 h82 h84
 rcases hk with hk|hk|hk|hk
 all_goals rw[hk]at ot oc ol od oe op oh ox
 all_goals simp[tgB,lvB,tmB]at ot oc ol od oe op oh ox
 all_goals push_cast[hk,ot,oc,ol,od,oe,op,oh,ox,beq_self_eq_true,List.length_nil,List.map_nil]at h67 h68 h69 h71 h72 h73 h74 h75 h76 h77 h78 h79 h80 h81 h82 h84
 all_goals push_cast[Act.v,Edi.v,h43,h45,h44,hk,ot,oc,ol,od,oe,op,oh,ox,h67,h68,h69,h71,h72,h73,h74,h75,h76,h77,h78,h79,h80,h81,h82,h84,bt,beq_self_eq_true,runL_of B21_0.eq_1]
theorem f21_3 {a:Act}(h:a.okA)(ho:ActOk a)(hk:a.kind=12∨a.kind=13∨a.kind=14∨a.kind=15){st:St}:run Tryz.prog HS 21 [a.v] st=some (.ret (.int .i64 0),st):=by
 have h43:=fun(st:St)=>up (f43 (st:=st))
 have h45:=fun(st:St)=>up (f45 (st:=st))
 have h44:=fun(st:St)=>up (f44 (v:=a.when) (l:=0) (h:=10000000) (st:=st))
 have h67:=fun(st:St)=>up (f67 (a:=a) (st:=st))
 have h68:=fun(st:St)=>up (f68 (a:=a) (st:=st))
 have h69:=fun(st:St)=>up (f69 (a:=a) h (st:=st))
 have h71:=fun(st:St)=>up (f71 (a:=a) (st:=st))
 have h72:=fun(st:St)=>up (f72 (a:=a) (st:=st))
 have h73:=fun(st:St)=>up (f73 (a:=a) (st:=st))
 have h74:=fun(st:St)=>up (f74 (a:=a) (st:=st))
 have h75:=fun(st:St)=>up (f75 (a:=a) (st:=st))
 have h76:=fun(st:St)=>up (f76 (a:=a) h (st:=st))
 have h77:=fun(st:St)=>up (f77 (a:=a) (st:=st))
 have h78:=fun(st:St)=>up (f78 (a:=a) h.prms (st:=st))
 have h79:=fun(st:St)=>up (f79 (a:=a) (st:=st))
 have h80:=fun(st:St)=>up (f80 (a:=a) h.chans (st:=st))
 have h81:=fun(st:St)=>up (f81 (a:=a) (st:=st))
 have h82:=fun(st:St)=>up (f82 (a:=a) h (st:=st))
 have h84:=fun(st:St)=>f84 (a:=a) h (st:=st)
 obtain⟨ok,ow,ot,oc,ol,od,oe,op,oh,ox⟩:=ho
 have on:a.kind=12→¬(a.ents.length:Int)=0:=fun e=>by rw[if_pos e]at oe;exact oe.1
 have hw:inC a.when 0 10000000=0:=by unfold inC;rw[if_neg (by omega)]
 rw[hw]at h44
 rw[run_shut F21 rfl rfl (by simp)]
 push_cast[Act.v,Edi.v]at h67 h68 h69 h71 h72 h73 h74 h75 h76 h77 h78 h79 h80 h81 h82 h84
 rcases hk with hk|hk|hk|hk
 all_goals rw[hk]at ot oc ol od oe op oh ox
 all_goals simp[tgB,lvB,tmB]at ot oc ol od oe op oh ox
 all_goals push_cast[hk,ot,oc,ol,od,oe,op,oh,ox,beq_self_eq_true,List.length_nil,List.map_nil]at h67 h68 h69 h71 h72 h73 h74 h75 h76 h77 h78 h79 h80 h81 h82 h84
 all_goals push_cast[Act.v,Edi.v,h43,h45,h44,hk,ot,oc,ol,od,oe,op,oh,ox,h67,h68,h69,h71,h72,h73,h74,h75,h76,h77,h78,h79,h80,h81,h82,h84,bt,beq_self_eq_true,runL_of B21_0.eq_1]
 all_goals rw[if_neg (on hk)]
theorem f21_4 {a:Act}(h:a.okA)(ho:ActOk a)(hk:a.kind=16∨a.kind=17∨a.kind=18∨a.kind=19){st:St}:run Tryz.prog HS 21 [a.v] st=some (.ret (.int .i64 0),st):=by
 have h43:=fun(st:St)=>up (f43 (st:=st))
 have h45:=fun(st:St)=>up (f45 (st:=st))
 have h44:=fun(st:St)=>up (f44 (v:=a.when) (l:=0) (h:=10000000) (st:=st))
 have h67:=fun(st:St)=>up (f67 (a:=a) (st:=st))
 have h68:=fun(st:St)=>up (f68 (a:=a) (st:=st))
 have h69:=fun(st:St)=>up (f69 (a:=a) h (st:=st))
 have h71:=fun(st:St)=>up (f71 (a:=a) (st:=st))
 have h72:=fun(st:St)=>up (f72 (a:=a) (st:=st))
 have h73:=fun(st:St)=>up (f73 (a:=a) (st:=st))
 have h74:=fun(st:St)=>up (f74 (a:=a) (st:=st))
 have h75:=fun(st:St)=>up (f75 (a:=a) (st:=st))
 have h76:=fun(st:St)=>up (f76 (a:=a) h (st:=st))
 have h77:=fun(st:St)=>up (f77 (a:=a) (st:=st))
 have h78:=fun(st:St)=>up (f78 (a:=a) h.prms (st:=st))
 have h79:=fun(st:St)=>up (f79 (a:=a) (st:=st))
 have h80:=fun(st:St)=>up (f80 (a:=a) h.chans (st:=st))
 have h81:=fun(st:St)=>up (f81 (a:=a) (st:=st))
 have h82:=fun(st:St)=>up (f82 (a:=a) h (st:=st))
 have h84:=fun(st:St)=>f84 (a:=a) h (st:=st)
 obtain⟨ok,ow,ot,oc,ol,od,oe,op,oh,ox⟩:=ho
 have on:a.kind=12→¬(a.ents.length:Int)=0:=fun e=>by rw[if_pos e]at oe;exact oe.1
 have hw:inC a.when 0 10000000=0:=by unfold inC;rw[if_neg (by omega)]
 rw[hw]at h44
 rw[run_shut F21 rfl rfl (by simp)]
 push_cast[Act.v,Edi.v]at h67 h68 h69 h71 h72 h73 h74 h75 h76 h77 h78 h79 h80 h81 h82 h84
 rcases hk with hk|hk|hk|hk
 all_goals rw[hk]at ot oc ol od oe op oh ox
 all_goals simp[tgB,lvB,tmB]at ot oc ol od oe op oh ox
 all_goals push_cast[hk,ot,oc,ol,od,oe,op,oh,ox,beq_self_eq_true,List.length_nil,List.map_nil]at h67 h68 h69 h71 h72 h73 h74 h75 h76 h77 h78 h79 h80 h81 h82 h84
 all_goals push_cast[Act.v,Edi.v,h43,h45,h44,hk,ot,oc,ol,od,oe,op,oh,ox,h67,h68,h69,h71,h72,h73,h74,h75,h76,h77,h78,h79,h80,h81,h82,h84,bt,beq_self_eq_true,runL_of B21_0.eq_1]
theorem f21 {a:Act}(h:a.okA)(ho:ActOk a){st:St}:run Tryz.prog HS 21 [a.v] st=some (.ret (.int .i64 0),st):=by
 have hk:=ho.k
 by_cases c0:a.kind≤3
 ·exact f21_0 h ho (by omega)
 by_cases c1:a.kind≤7
 ·exact f21_1 h ho (by omega)
 by_cases c2:a.kind≤11
 ·exact f21_2 h ho (by omega)
 by_cases c3:a.kind≤15
 ·exact f21_3 h ho (by omega)
 exact f21_4 h ho (by omega)
end Go.Proofs.YteggomljbalaaaaGreatDoor

namespace Go.Proofs.YteggomljbalaaaaGreatDoor
open Go.Sha
set_option maxRecDepth 100000
variable {g:List (Nat×Obj)}{n:Nat}
structure LogOk (l:List Act):Prop where
 len:l.length≤256
 all:∀q∈l,q.okA∧ActOk q
 asc:l.Pairwise fun a b=>a.when≤b.when
theorem L20 {l:List Act}(h:LogOk l):∀r j,l.drop j=r→runL Tryz.prog HS [0,9,10,11] n B20_0 [(0,.sl (l.map Act.v)),(9,.sl (l.map Act.v)),(10,.int .i64 l.length),(11,.int .i64 j)] (stN g n)=some (.exit 0,[],stN g n):=by
 have hl:=h.len
 refine drop_ind (fun j hj=>?_) (fun q r j hj hx hd ih=>?_)
 all_goals rw[runL_of B20_0.eq_1]
 ·have h1:¬(j:Int)<l.length:=by omega
  push_cast[h1]
 ·have h1:(j:Int)<l.length:=by omega
  have hw:=iw1 (j:=j) (by omega)
  obtain⟨h2,h3⟩:=h.all q (mem_at hd)
  have h21:=fun(st:St)=>f21 h2 h3 (st:=st)
  push_cast[Act.v,Edi.v]at h21
  by_cases hj:0<j
  ·obtain⟨k,hk⟩:∃k,k=j-1:=⟨_,rfl⟩
   have hkl:k<l.length:=by omega
   have hj0:(0:Int)<(j:Int):=by omega
   have hk1:(j:Int)-1=(k:Int):=by omega
   have hwk:IntKind.i64.wrap (k:Int)=(k:Int):=iwrap (by omega) (by omega)
   have hg:∀d,l.getD k d=l.getD k default:=fun d=>by rw[List.getD_eq_getElem?_getD,List.getD_eq_getElem?_getD,List.getElem?_eq_getElem hkl];rfl
   have hc:¬q.when<(l.getD k default).when:=by
    have h4:=List.pairwise_iff_getElem.1 h.asc k j hkl (by omega) (by omega)
    have e1:l.getD k default=l[k]:=by rw[List.getD_eq_getElem?_getD,List.getElem?_eq_getElem hkl];rfl
    have e2:=hx default
    rw[List.getD_eq_getElem?_getD,List.getElem?_eq_getElem (by omega)]at e2
    rw[e1];simp at e2;rw[e2]at h4;omega
   generalize l.getD k default=y at *
   push_cast[h1,hw,hx,h21,hkl,hj0,hk1,hwk,hg,hc,Act.v,Edi.v]at ih ⊢
   exact dn_eq (by omega) ih
  ·have hj0:j=0:=by omega
   subst hj0
   have h1z:(0:Int)<(l.length:Int):=by omega
   push_cast[h1,h1z,hw,hx,h21,Act.v,Edi.v]at ih ⊢
   exact ih
theorem f20 {l:List Act}(h:LogOk l){st:St}:run Tryz.prog HS 20 [.sl (l.map Act.v)] st=some (.ret (.int .i64 0),st):=by
 have hL:=L20 (g:=st.x.gl) (n:=0) h _ 0 rfl
 have hl:=h.len
 have h1:¬256<(l.length:Int):=by omega
 rw[run_shut F20 rfl rfl (by simp)]
 push_cast at hL
 push_cast[h1,hL]
def isE (q:Act):Bool:=decide (q.kind=17)||(decide (q.kind=18)||q.kind == 19)
def edI:List Act→Nat→List Int
 |[],_=>[]
 |q::r,j=>if isE q=true then(j:Int)::edI r (j+1) else edI r (j+1)
def stI (g:List (Nat×Obj))(n:Nat)(a:List Int):St:=⟨n+1,[],[(n,⟨3,1,a.map (.int .i64),false,false⟩)],⟨[],g,[]⟩⟩
@[push_cast]theorem stI_eq {a:List Int}:stI g n a=⟨n+1,[],[(n,⟨3,1,a.map (.int .i64),false,false⟩)],⟨[],g,[]⟩⟩:=idq rfl
theorem L9 {l:List Act}(hl:l.length≤256):∀r j,l.drop j=r→∀a:List Int,a.length≤j→runL Tryz.prog HS [5,13,14,15] (n+1) B9_0 [(5,.osl n a.length),(13,.sl (l.map Act.v)),(14,.int .i64 l.length),(15,.int .i64 j)] (stI g n a)=some (.exit 0,[(5,.osl n (a++edI r j).length)],stI g n (a++edI r j)):=by
 refine drop_ind (fun j hj a ha=>?_) (fun q r j hj hx hd ih a ha=>?_)
 all_goals rw[runL_of B9_0.eq_1]
 ·have h1:¬(j:Int)<l.length:=by omega
  push_cast[h1,edI,List.append_nil]
 ·have h1:(j:Int)<l.length:=by omega
  have hw:=iw1 (j:=j) (by omega)
  have hro:roomV (a.length+1) 8=true:=roomV_lit (by omega) (by omega)
  have e:isE q=(decide (q.kind=17)||(decide (q.kind=18)||q.kind == 19)):=rfl
  rw[edI]
  by_cases hq:isE q=true
  ·have ih:=ih (a++[(j:Int)]) (by simp;omega)
   rw[if_pos hq]
   rw[e]at hq
   generalize edI r (j+1)=Q at *
   push_cast[Act.v,Edi.v,h1,hw,hx,hro,hq,List.map_append,List.map_cons,List.map_nil,List.append_assoc,List.singleton_append]at ih ⊢
   exact ih
  ·have ih:=ih a (by omega)
   rw[if_neg hq]
   rw[e]at hq
   generalize edI r (j+1)=Q at *
   push_cast[Act.v,Edi.v,h1,hw,hx,hro,hq]at ih ⊢
   exact ih
theorem f9 {l:List Act}(h:LogOk l){st:St}:run Tryz.prog HS 9 [.sl (l.map Act.v)] st=some (.ret (.tup [.sl ((edI l 0).map (.int .i64)),.int .i64 0]),st):=by
 have h20:=fun(st:St)=>f20 h (st:=st)
 have hL:=fun n=>L9 (g:=st.x.gl) (n:=n) h.len _ 0 rfl [] (Nat.le_refl _)
 simp only[List.drop_zero,List.nil_append]at hL
 generalize edI l 0=Q at *
 rw[run_shut F9 rfl rfl (by simp)]
 push_cast[List.map_nil,List.length_nil]at hL
 push_cast[h20,hL]
end Go.Proofs.YteggomljbalaaaaGreatDoor

namespace Go.Proofs.YteggomljbalaaaaGreatDoor
open Go.Sha
set_option maxRecDepth 100000
variable {g:List (Nat×Obj)}{n:Nat}
theorem ix_rng {α:Type}{p:α→Bool}:∀{l:List α}{j:Nat},ix p l j=-1∨(j:Int)≤ix p l j∧ix p l j<j+l.length
 |[],j=>.inl rfl
 |x::r,j=>by
  unfold ix
  split
  ·exact .inr ⟨by omega,by simp;omega⟩
  ·rcases ix_rng (p:=p) (l:=r) (j:=j+1) with h|h
   ·exact .inl h
   ·exact .inr ⟨by omega,by simp;omega⟩
theorem f49 {q:Act}{t:Int}{st:St}:run Tryz.prog HH 49 [q.v,.ep (.agg [.int .i64 t]) 0] st=some (.ret (.bool (decide (t<q.when))),st):=by
 rw[run_shut F49 rfl rfl (by simp)]
 push_cast[Act.v,Edi.v]
 all_goals first|with_reducible rfl|exact dn_eq (by omega) (by with_reducible rfl)|((repeat' split)<;>(try simp_all)<;>(try (with_reducible refine dn_eq ?_ ?_<;>first|trivial|omega|rfl))<;>(try omega))
theorem f48 {l:List Act}{t:Int}(hl:l.length<140737488355328){st:St}:run Tryz.prog HH 48 [.sl (l.map Act.v),.fn (.func 49) [] [.ep (.agg [.int .i64 t]) 0]] st=some (.ret (.int .i64 (ix (fun q:Act=>decide (t<q.when)) l 0)),st) :=
 IxF (f:=Act.v) (n:=some 44) (fun _=>rfl) (fun _=>rfl) F48 rfl (by simp) hl (fun q _ _=>f49) (fun _ _=>rfl) (fun _=>rfl)
def untN (l:List Act)(t:Int):Nat:=if ix (fun q:Act=>decide (t<q.when)) l 0<0 then l.length else(ix (fun q:Act=>decide (t<q.when)) l 0).toNat
theorem unt_le {l:List Act}{t:Int}:untN l t≤l.length:=by
 unfold untN
 rcases ix_rng (p:=fun q:Act=>decide (t<q.when)) (l:=l) (j:=0) with h|h
 ·rw[h];simp
 ·rw[if_neg (by omega)];omega
theorem f24 {l:List Act}{t:Int}(hl:l.length<140737488355328){st:St}:run Tryz.prog HH 24 [.sl (l.map Act.v),.int .i64 t] st=some (.ret (.int .i64 (untN l t)),st):=by
 have h48:=fun(st:St)=>f48 (l:=l) (t:=t) hl (st:=st)
 unfold untN
 rcases ix_rng (p:=fun q:Act=>decide (t<q.when)) (l:=l) (j:=0) with h|h
 ·rw[h]at h48 ⊢
  rw[if_pos (by omega)]
  rw[run_shut F24 rfl rfl (by simp)]
  push_cast[h48]
 ·obtain⟨k,hk⟩:∃k:Nat,ix (fun q:Act=>decide (t<q.when)) l 0=k:=⟨(ix (fun q:Act=>decide (t<q.when)) l 0).toNat,by omega⟩
  rw[hk]at h48 ⊢
  rw[if_neg (by omega),Int.toNat_natCast]
  have h1:¬(k:Int)<0:=by omega
  rw[run_shut F24 rfl rfl (by simp)]
  push_cast[h48,h1]
theorem room_ok {n b:Nat}(hr:n<140737488355328 / (b+1))(hb:0<b):roomV n b=true:=by
 simp only[roomV,Bool.and_eq_true,decide_eq_true_eq]
 have h1:n*(b+1)≤140737488355328 / (b+1)*(b+1):=Nat.mul_le_mul_right _ (by omega)
 have h2:=Nat.div_mul_le_self 140737488355328 (b+1)
 rw[Nat.mul_add]at h1
 unfold maxLen
 omega
theorem r_cln {α:Type}{k e es b:Nat}{f:α→V}{l:List α}{st:St}(hH:∀args st,HH k args st=hCln e es b args st)(hf:∀x,fastA (f x)=true)(he:∀x,(f x).cells.length=es)(hr:l.length<140737488355328 / (b+1))(hb:0<b) :
  run Tryz.prog HH k [.sl (l.map f)] st=some (.ret (.osl st.nx l.length),⟨st.nx+1,st.mem,(st.nx,⟨e,es,l.map f,true,false⟩)::st.arr,st.x⟩):=by
 have c1:(l.map f).all fastA=true:=by rw[List.all_map,List.all_eq_true];exact fun x _=>hf x
 have c2:(l.map f).all (fun y=>y.cells.length == es)=true:=by rw[List.all_map,List.all_eq_true];intro x _;simpa using he x
 have c3:roomV (l.map f).length b=true:=by rw[List.length_map];exact room_ok hr hb
 refine run_H ((hH _ _).trans ?_)
 show(if(l.map f).all fastA=true∧(l.map f).all (fun y=>y.cells.length == es)=true∧roomV (l.map f).length b=true then _ else _)=_
 rw[if_pos ⟨c1,c2,c3⟩,List.length_map]
theorem r_ins {k e e' es b id n id' m i:Nat}{xs ys zs:List V}{wr':Bool}{st:St}(hH:∀args st,HH k args st=hIns e es b args st)(h1:Sha.look st.arr id=some ⟨e,es,xs,true,false⟩)(h2:Sha.look st.arr id'=some ⟨e',es,ys,wr',false⟩)(hn:xs.length=n)(hm:ys.length=m)(hne:id'≠id)(h0:0<m)(hi:i≤n)(hr:n+m<140737488355328 / (b+1))(hb:0<b)(hz:mapO (snapA st) ys=some zs) :
  run Tryz.prog HH k [.osl id n,.int .i64 i,.osl id' m] st=some (.ret (.osl id (n+m)),{ st with arr:=updA st.arr id ⟨e,es,xs.take i++zs++xs.drop i,true,false⟩ }):=by
 refine run_H ((hH _ _).trans ?_)
 have h6:roomV (n+m) b=true:=room_ok hr hb
 simp only[hIns,h1,h2,insH]
 rw[if_pos ⟨hn,trivial,trivial,trivial,trivial,hm,trivial,trivial,hne,h0,by omega,by omega,h6⟩,hz,Option.map_some,Int.toNat_natCast]
theorem ix_props {α:Type}{p:α→Bool}:∀{l:List α}{j:Nat},(ix p l j=-1→∀x∈l,p x=false)∧∀k:Nat,ix p l j=((j+k:Nat):Int)→(∀x∈l.take k,p x=false)∧∃y,l[k]?=some y∧p y=true
 |[],j=>⟨(fun _ x h=>by cases h),(fun k h=>by simp only[ix]at h;omega)⟩
 |y::r,j=>by
  obtain⟨i1,i2⟩:=ix_props (p:=p) (l:=r) (j:=j+1)
  have hr:=ix_rng (p:=p) (l:=r) (j:=j+1)
  by_cases hp:p y=true
  ·refine⟨fun h=>by rw[ix,if_pos hp]at h;omega,fun k h=>?_⟩
   rw[ix,if_pos hp]at h
   obtain rfl:k=0:=by omega
   exact⟨fun x h=>by simp at h,y,rfl,hp⟩
  ·have hp':p y=false:=by simpa using hp
   refine⟨fun h=>?_,fun k h=>?_⟩
   ·rw[ix,if_neg hp]at h
    intro x hx
    rcases List.mem_cons.1 hx with rfl|hx
    ·exact hp'
    ·exact i1 h x hx
   ·rw[ix,if_neg hp]at h
    cases k with
    |zero=>rcases hr with hr|hr<;>omega
    |succ k =>
     obtain⟨j1,j2⟩:=i2 k (by rw[h];omega)
     refine⟨fun x hx=>?_,j2⟩
     rw[List.take_succ_cons]at hx
     rcases List.mem_cons.1 hx with rfl|hx
     ·exact hp'
     ·exact j1 x hx
theorem unt_parts {l:List Act}{t:Int}(hs:l.Pairwise fun a b=>a.when≤b.when):(∀q∈l.take (untN l t),q.when≤t)∧∀q∈l.drop (untN l t),t≤q.when:=by
 obtain⟨i1,i2⟩:=ix_props (p:=fun q:Act=>decide (t<q.when)) (l:=l) (j:=0)
 unfold untN
 rcases ix_rng (p:=fun q:Act=>decide (t<q.when)) (l:=l) (j:=0) with h|h
 ·rw[h,if_pos (by omega),List.take_length,List.drop_length]
  refine⟨fun q hq=>?_,fun q hq=>by cases hq⟩
  have:=i1 h q hq
  simp only[decide_eq_false_iff_not]at this;omega
 ·obtain⟨k,hk⟩:∃k:Nat,ix (fun q:Act=>decide (t<q.when)) l 0=((0+k:Nat):Int):=⟨(ix (fun q:Act=>decide (t<q.when)) l 0).toNat,by omega⟩
  obtain⟨j1,y,j2,j3⟩:=i2 k hk
  rw[if_neg (by omega),hk,Int.toNat_natCast,Nat.zero_add]
  refine⟨fun q hq=>?_,fun q hq=>?_⟩
  ·have:=j1 q hq
   simp only[decide_eq_false_iff_not]at this;omega
  ·have hkl:=(List.getElem?_eq_some_iff.1 j2).1
   have hy:t<y.when:=of_decide_eq_true j3
   rw[List.drop_eq_getElem_cons hkl]at hq
   rw[List.getElem?_eq_getElem hkl]at j2
   have j2:=Option.some.inj j2
   have hp:=hs.drop (i:=k)
   rw[List.drop_eq_getElem_cons hkl]at hp
   have hp:=List.pairwise_cons.1 hp
   rcases List.mem_cons.1 hq with rfl|hq
   ·rw[j2];omega
   ·have:=hp.1 q hq;rw[j2]at this;omega
def insA (l:List Act)(a:Act):List Act:=l.take (untN l a.when)++a::l.drop (untN l a.when)
theorem insA_asc {l:List Act}{a:Act}(hs:l.Pairwise fun a b=>a.when≤b.when):(insA l a).Pairwise fun a b=>a.when≤b.when:=by
 obtain⟨h1,h2⟩:=unt_parts (t:=a.when) hs
 refine List.pairwise_append.2 ⟨hs.take,List.pairwise_cons.2 ⟨fun q hq=>h2 q hq,hs.drop⟩,fun x hx y hy=>?_⟩
 have:=h1 x hx
 rcases List.mem_cons.1 hy with rfl|hy
 ·exact this
 ·have:=h2 y hy;omega
theorem insA_len {l:List Act}{a:Act}:(insA l a).length=l.length+1:=by
 have:=unt_le (l:=l) (t:=a.when)
 simp[insA];omega
theorem insA_mem {l:List Act}{a q:Act}(h:q∈insA l a):q=a∨q∈l:=by
 rcases List.mem_append.1 h with h|h
 ·exact .inr (List.mem_of_mem_take h)
 ·rcases List.mem_cons.1 h with h|h
  ·exact .inl h
  ·exact .inr (List.mem_of_mem_drop h)
end Go.Proofs.YteggomljbalaaaaGreatDoor

namespace Go.Proofs.YteggomljbalaaaaGreatDoor
open Go.Sha
set_option maxRecDepth 10000
def C85 : Cd := (.join [4] (.reg [⟨(some 17), .fadr 0 (.t 2), none⟩,
      ⟨(some 18), .load none (.t 17), none⟩,
      ⟨(some 19), .fadr 0 (.t 3), none⟩,
      ⟨(some 20), .load none (.t 19), none⟩,
      ⟨(some 21), .bin .eql (.t 18) (.t 20), none⟩,
      ⟨(some 22), .mv (.t 21), none⟩,
      ⟨(some 23), .fadr 1 (.t 2), some (22, true)⟩,
      ⟨(some 24), .load none (.t 23), some (22, true)⟩,
      ⟨(some 25), .fadr 1 (.t 3), some (22, true)⟩,
      ⟨(some 26), .load none (.t 25), some (22, true)⟩,
      ⟨(some 27), .bin .eql (.t 24) (.t 26), some (22, true)⟩,
      ⟨(some 28), .pick (.t 22) (.t 27) (.c (.bool false)), none⟩,
      ⟨(some 29), .mv (.t 28), none⟩,
      ⟨(some 30), .fadr 2 (.t 2), some (29, true)⟩,
      ⟨(some 31), .load none (.t 30), some (29, true)⟩,
      ⟨(some 32), .fadr 2 (.t 3), some (29, true)⟩,
      ⟨(some 33), .load none (.t 32), some (29, true)⟩,
      ⟨(some 34), .bin .eql (.t 31) (.t 33), some (29, true)⟩,
      ⟨(some 35), .pick (.t 29) (.t 34) (.c (.bool false)), none⟩,
      ⟨(some 36), .mv (.t 35), none⟩,
      ⟨(some 37), .fadr 3 (.t 2), some (36, true)⟩,
      ⟨(some 38), .load none (.t 37), some (36, true)⟩,
      ⟨(some 39), .fadr 3 (.t 3), some (36, true)⟩,
      ⟨(some 40), .load none (.t 39), some (36, true)⟩,
      ⟨(some 41), .bin .eql (.t 38) (.t 40), some (36, true)⟩,
      ⟨(some 42), .pick (.t 36) (.t 41) (.c (.bool false)), none⟩,
      ⟨(some 43), .mv (.t 42), none⟩,
      ⟨(some 44), .fadr 4 (.t 2), some (43, true)⟩,
      ⟨(some 45), .load none (.t 44), some (43, true)⟩,
      ⟨(some 46), .fadr 4 (.t 3), some (43, true)⟩,
      ⟨(some 47), .load none (.t 46), some (43, true)⟩,
      ⟨(some 48), .bin .eql (.t 45) (.t 47), some (43, true)⟩,
      ⟨(some 49), .pick (.t 43) (.t 48) (.c (.bool false)), none⟩,
      ⟨(some 50), .mv (.t 49), none⟩,
      ⟨(some 51), .fadr 5 (.t 2), some (50, true)⟩,
      ⟨(some 52), .load (some 9) (.t 51), some (50, true)⟩,
      ⟨(some 53), .fadr 5 (.t 3), some (50, true)⟩,
      ⟨(some 54), .load (some 9) (.t 53), some (50, true)⟩,
      ⟨(some 55), .call (.c (.fn (.func 116) [] [])) [(.t 52), (.t 54)], some (50, true)⟩,
      ⟨(some 56), .pick (.t 50) (.t 55) (.c (.bool false)), none⟩,
      ⟨(some 57), .mv (.t 56), none⟩,
      ⟨(some 58), .fadr 14 (.t 2), some (57, true)⟩,
      ⟨(some 59), .fadr 0 (.t 58), some (57, true)⟩,
      ⟨(some 60), .load none (.t 59), some (57, true)⟩,
      ⟨(some 61), .fadr 14 (.t 3), some (57, true)⟩,
      ⟨(some 62), .fadr 0 (.t 61), some (57, true)⟩,
      ⟨(some 63), .load none (.t 62), some (57, true)⟩,
      ⟨(some 64), .bin .eql (.t 60) (.t 63), some (57, true)⟩,
      ⟨(some 65), .pick (.t 57) (.t 64) (.c (.bool false)), none⟩,
      ⟨(some 66), .mv (.t 65), none⟩,
      ⟨(some 67), .fadr 14 (.t 2), some (66, true)⟩,
      ⟨(some 68), .fadr 1 (.t 67), some (66, true)⟩,
      ⟨(some 69), .load none (.t 68), some (66, true)⟩,
      ⟨(some 70), .fadr 14 (.t 3), some (66, true)⟩,
      ⟨(some 71), .fadr 1 (.t 70), some (66, true)⟩,
      ⟨(some 72), .load none (.t 71), some (66, true)⟩,
      ⟨(some 73), .call (.c (.fn (.func 117) [] [])) [(.t 69), (.t 72)], some (66, true)⟩,
      ⟨(some 74), .pick (.t 66) (.t 73) (.c (.bool false)), none⟩,
      ⟨(some 75), .mv (.t 74), none⟩,
      ⟨(some 76), .fadr 16 (.t 2), some (75, true)⟩,
      ⟨(some 77), .fadr 0 (.t 76), some (75, true)⟩,
      ⟨(some 78), .load none (.t 77), some (75, true)⟩,
      ⟨(some 79), .fadr 16 (.t 3), some (75, true)⟩,
      ⟨(some 80), .fadr 0 (.t 79), some (75, true)⟩,
      ⟨(some 81), .load none (.t 80), some (75, true)⟩,
      ⟨(some 82), .bin .eql (.t 78) (.t 81), some (75, true)⟩,
      ⟨(some 83), .pick (.t 75) (.t 82) (.c (.bool false)), none⟩,
      ⟨(some 84), .mv (.t 83), none⟩,
      ⟨(some 85), .fadr 16 (.t 2), some (84, true)⟩,
      ⟨(some 86), .fadr 1 (.t 85), some (84, true)⟩,
      ⟨(some 87), .load none (.t 86), some (84, true)⟩,
      ⟨(some 88), .fadr 16 (.t 3), some (84, true)⟩,
      ⟨(some 89), .fadr 1 (.t 88), some (84, true)⟩,
      ⟨(some 90), .load none (.t 89), some (84, true)⟩,
      ⟨(some 91), .call (.c (.fn (.func 118) [] [])) [(.t 87), (.t 90)], some (84, true)⟩,
      ⟨(some 92), .pick (.t 84) (.t 91) (.c (.bool false)), none⟩,
      ⟨(some 93), .mv (.t 92), none⟩,
      ⟨(some 94), .fadr 0 (.t 7), some (93, true)⟩,
      ⟨(some 95), .load none (.t 94), some (93, true)⟩,
      ⟨(some 96), .fadr 0 (.t 8), some (93, true)⟩,
      ⟨(some 97), .load none (.t 96), some (93, true)⟩,
      ⟨(some 98), .bin .eql (.t 95) (.t 97), some (93, true)⟩,
      ⟨(some 99), .pick (.t 93) (.t 98) (.c (.bool false)), none⟩,
      ⟨(some 100), .mv (.t 99), none⟩,
      ⟨(some 101), .fadr 1 (.t 7), some (100, true)⟩,
      ⟨(some 102), .load none (.t 101), some (100, true)⟩,
      ⟨(some 103), .fadr 1 (.t 8), some (100, true)⟩,
      ⟨(some 104), .load none (.t 103), some (100, true)⟩,
      ⟨(some 105), .bin .eql (.t 102) (.t 104), some (100, true)⟩,
      ⟨(some 106), .pick (.t 100) (.t 105) (.c (.bool false)), none⟩,
      ⟨(some 107), .mv (.t 106), none⟩,
      ⟨(some 108), .fadr 2 (.t 7), some (107, true)⟩,
      ⟨(some 109), .load none (.t 108), some (107, true)⟩,
      ⟨(some 110), .fadr 2 (.t 8), some (107, true)⟩,
      ⟨(some 111), .load none (.t 110), some (107, true)⟩,
      ⟨(some 112), .eqb false (.t 109) (.t 111), some (107, true)⟩,
      ⟨(some 113), .pick (.t 107) (.t 112) (.c (.bool false)), none⟩,
      ⟨(some 114), .mv (.t 113), none⟩,
      ⟨(some 115), .fadr 3 (.t 7), some (114, true)⟩,
      ⟨(some 116), .load none (.t 115), some (114, true)⟩,
      ⟨(some 117), .fadr 3 (.t 8), some (114, true)⟩,
      ⟨(some 118), .load none (.t 117), some (114, true)⟩,
      ⟨(some 119), .call (.c (.fn (.func 119) [] [])) [(.t 116), (.t 118)], some (114, true)⟩,
      ⟨(some 120), .pick (.t 114) (.t 119) (.c (.bool false)), none⟩,
      ⟨(some 121), .mv (.t 120), none⟩,
      ⟨(some 122), .fadr 0 (.t 5), some (121, true)⟩,
      ⟨(some 123), .load none (.t 122), some (121, true)⟩,
      ⟨(some 124), .fadr 0 (.t 6), some (121, true)⟩,
      ⟨(some 125), .load none (.t 124), some (121, true)⟩,
      ⟨(some 126), .bin .eql (.t 123) (.t 125), some (121, true)⟩,
      ⟨(some 127), .pick (.t 121) (.t 126) (.c (.bool false)), none⟩,
      ⟨(some 128), .mv (.t 127), none⟩,
      ⟨(some 129), .fadr 1 (.t 5), some (128, true)⟩,
      ⟨(some 130), .load none (.t 129), some (128, true)⟩,
      ⟨(some 131), .fadr 1 (.t 6), some (128, true)⟩,
      ⟨(some 132), .load none (.t 131), some (128, true)⟩,
      ⟨(some 133), .bin .eql (.t 130) (.t 132), some (128, true)⟩,
      ⟨(some 134), .pick (.t 128) (.t 133) (.c (.bool false)), none⟩,
      ⟨(some 135), .mv (.t 134), none⟩,
      ⟨(some 136), .fadr 2 (.t 5), some (135, true)⟩,
      ⟨(some 137), .load none (.t 136), some (135, true)⟩,
      ⟨(some 138), .fadr 2 (.t 6), some (135, true)⟩,
      ⟨(some 139), .load none (.t 138), some (135, true)⟩,
      ⟨(some 140), .call (.c (.fn (.func 120) [] [])) [(.t 137), (.t 139)], some (135, true)⟩,
      ⟨(some 141), .pick (.t 135) (.t 140) (.c (.bool false)), none⟩,
      ⟨(some 142), .mv (.t 141), none⟩,
      ⟨(some 143), .fadr 3 (.t 5), some (142, true)⟩,
      ⟨(some 144), .load none (.t 143), some (142, true)⟩,
      ⟨(some 145), .fadr 3 (.t 6), some (142, true)⟩,
      ⟨(some 146), .load none (.t 145), some (142, true)⟩,
      ⟨(some 147), .bin .eql (.t 144) (.t 146), some (142, true)⟩,
      ⟨(some 148), .pick (.t 142) (.t 147) (.c (.bool false)), none⟩,
      ⟨(some 149), .mv (.t 148), none⟩,
      ⟨(some 150), .fadr 4 (.t 5), some (149, true)⟩,
      ⟨(some 151), .load none (.t 150), some (149, true)⟩,
      ⟨(some 152), .fadr 4 (.t 6), some (149, true)⟩,
      ⟨(some 153), .load none (.t 152), some (149, true)⟩,
      ⟨(some 154), .bin .eql (.t 151) (.t 153), some (149, true)⟩,
      ⟨(some 155), .pick (.t 149) (.t 154) (.c (.bool false)), none⟩,
      ⟨(some 156), .mv (.t 155), none⟩,
      ⟨(some 157), .fadr 5 (.t 5), some (156, true)⟩,
      ⟨(some 158), .load none (.t 157), some (156, true)⟩,
      ⟨(some 159), .fadr 5 (.t 6), some (156, true)⟩,
      ⟨(some 160), .load none (.t 159), some (156, true)⟩,
      ⟨(some 161), .bin .eql (.t 158) (.t 160), some (156, true)⟩,
      ⟨(some 162), .pick (.t 156) (.t 161) (.c (.bool false)), none⟩,
      ⟨(some 163), .mv (.t 162), none⟩,
      ⟨(some 164), .fadr 28 (.t 2), some (163, true)⟩,
      ⟨(some 165), .load (some 7) (.t 164), some (163, true)⟩,
      ⟨(some 166), .fadr 28 (.t 3), some (163, true)⟩,
      ⟨(some 167), .load (some 7) (.t 166), some (163, true)⟩,
      ⟨(some 168), .eqs false [.i, .i, .s, .i, .i, .i, .s] (.t 165) (.t 167), some (163, true)⟩,
      ⟨(some 169), .pick (.t 163) (.t 168) (.c (.bool false)), none⟩,
      ⟨(some 4), .mv (.t 169), none⟩])
 (.ret [4]))
theorem Y85 : cpY Tryz.prog [1, 2] 85 = some ⟨170, [.tmp 4], (.seq (.cd (.reg [⟨(some 2), .box 44 (.t 0), none⟩,
      ⟨(some 3), .box 44 (.t 1), none⟩,
      ⟨(some 4), .mv (.c (.bool false)), none⟩]))
 (.seq (.areg [⟨(some 9), .fadr 22 (.t 2), none⟩,
      ⟨(some 10), .load (some 6) (.t 9), none⟩,
      ⟨(some 11), .fadr 22 (.t 3), none⟩,
      ⟨(some 12), .load (some 6) (.t 11), none⟩,
      ⟨(some 5), .alloc 40 [(.int .i64 0), (.int .i64 0), .nils, (.int .i64 0), (.int .i64 0), (.int .i64 0)], none⟩,
      ⟨(some 6), .alloc 40 [(.int .i64 0), (.int .i64 0), .nils, (.int .i64 0), (.int .i64 0), (.int .i64 0)], none⟩,
      ⟨none, .store 6 (.t 5) (.t 10), none⟩,
      ⟨none, .store 6 (.t 6) (.t 12), none⟩]
 [[], [0], [], [2], [], [], [4, 1, 0, 1, 4, 5], [5, 3, 6, 0, 1, 2, 3, 4, 5, 6]])
 (.seq (.areg [⟨(some 13), .fadr 18 (.t 2), none⟩,
      ⟨(some 14), .load (some 4) (.t 13), none⟩,
      ⟨(some 15), .fadr 18 (.t 3), none⟩,
      ⟨(some 16), .load (some 4) (.t 15), none⟩,
      ⟨(some 7), .alloc 37 [(.int .i64 0), (.int .i64 0), (.bool false), .nils], none⟩,
      ⟨(some 8), .alloc 37 [(.int .i64 0), (.int .i64 0), (.bool false), .nils], none⟩,
      ⟨none, .store 4 (.t 7) (.t 14), none⟩,
      ⟨none, .store 4 (.t 8) (.t 16), none⟩]
 [[], [0], [], [2], [], [], [4, 1, 0, 1, 4, 5], [5, 3, 6, 0, 1, 2, 3, 4, 5, 6]])
 (.cd C85))))⟩ := by kernel_rfl
theorem Y10 : cpY Tryz.prog [9] 10 = some ⟨30, [.tmp 4, .tmp 5], (.seq (.cd (.reg [⟨(some 3), .box 46 (.t 1), none⟩,
      ⟨(some 4), .mv (.c .nils), none⟩,
      ⟨(some 5), .mv (.c (.int .i64 0)), none⟩]))
 (.seq (.cd (.g [⟨(some 8), .mv (.t 0), none⟩,
      ⟨(some 9), .call (.c (.fn (.func 20) [] [])) [(.t 8)], none⟩,
      ⟨(some 6), .mv (.t 9), none⟩]
 (.g [⟨(some 10), .mv (.t 6), none⟩,
      ⟨(some 11), .bin .neq (.t 10) (.c (.int .i64 0)), none⟩]
 (.i 11 (.g [⟨(some 12), .mv (.t 6), none⟩,
      ⟨(some 4), .mv (.c .nils), none⟩,
      ⟨(some 5), .mv (.t 12), none⟩]
 (.ret [4, 5]))
 .skip))))
 (.seq (.cd (.g [⟨(some 13), .load (some 44) (.t 3), none⟩,
      ⟨(some 14), .call (.c (.fn (.func 21) [] [])) [(.t 13)], none⟩,
      ⟨(some 7), .mv (.t 14), none⟩]
 (.g [⟨(some 15), .mv (.t 7), none⟩,
      ⟨(some 16), .bin .neq (.t 15) (.c (.int .i64 0)), none⟩]
 (.i 16 (.g [⟨(some 17), .mv (.t 7), none⟩,
      ⟨(some 4), .mv (.c .nils), none⟩,
      ⟨(some 5), .mv (.t 17), none⟩]
 (.ret [4, 5]))
 .skip))))
 (.seq (.cd (.g [⟨(some 18), .mv (.t 0), none⟩,
      ⟨(some 19), .len (.t 18), none⟩,
      ⟨(some 20), .bin .geq (.t 19) (.c (.int .i64 256)), none⟩]
 (.i 20 (.g [⟨(some 4), .mv (.c .nils), none⟩,
      ⟨(some 5), .mv (.c (.int .i64 5)), none⟩]
 (.ret [4, 5]))
 .skip)))
 (.seq (.areg [⟨(some 21), .mv (.t 0), none⟩,
      ⟨(some 22), .call (.c (.fn (.func 23) [] [])) [(.t 21)], none⟩,
      ⟨(some 23), .mv (.t 0), none⟩,
      ⟨(some 24), .fadr 0 (.t 3), none⟩,
      ⟨(some 25), .load none (.t 24), none⟩,
      ⟨(some 26), .call (.c (.fn (.func 24) [] [])) [(.t 23), (.t 25)], none⟩,
      ⟨(some 27), .load (some 44) (.t 3), none⟩,
      ⟨(some 28), .bslice 46 44 [(.t 27)], none⟩,
      ⟨(some 29), .call (.c (.fn (.func 22) [] [])) [(.t 22), (.t 26), (.t 28)], none⟩,
      ⟨(some 4), .mv (.t 29), none⟩,
      ⟨(some 5), .mv (.c (.int .i64 0)), none⟩]
 [[], [0], [], [], [3], [2, 4, 1], [], [6], [1, 5, 7, 5], [8, 8, 0, 1, 2, 3, 4, 5, 6, 7, 8], [9, 0, 1, 2, 3, 4, 5, 6, 7, 8, 9]])
 (.cd (.ret [4, 5])))))))⟩ := by kernel_rfl
end Go.Proofs.YteggomljbalaaaaGreatDoor

namespace Go.Proofs.YteggomljbalaaaaGreatDoor
open Go.Sha
def HasN (K:Env→St→Prop)(r:Rc):Prop:=∃e s,r=some (.normal,e,s)∧K e s
theorem HasN_s {K:Env→St→Prop}{e:Env}{s:St}(h:K e s):HasN K (some (.normal,e,s)):=⟨e,s,rfl,h⟩
theorem WX_seq {P:Program}{H:EvF}{c:Cd}{b:Cx}{env:Env}{st:St}{Q:Post}(h:HasN (fun e s=>WX P H b e s Q) (runC P H c env st)):WX P H (.seq (.cd c) b) env st Q:=by
 obtain⟨e,s,h1,h2⟩:=h
 exact⟨.normal,e,s,h1,h2⟩
def Keep (st s:St):Prop:=∀id,id<st.nx→Sha.look s.mem id=Sha.look st.mem id
theorem WX_area {P:Program}{H:EvF}{l:List Ins}{bs:List (List Nat)}{b:Cx}{env:Env}{st:St}{Q:Post}(h:Ord P l (fun i=>bs.getD i []) (Keep st) (fun e s=>WX P H b e s Q) (List.range l.length) env st):WX P H (.seq (.areg l bs) b) env st Q:=⟨Keep st,fun _ _=>rfl,h⟩
theorem Ord.p {P:Program}{H:EvF}(hm:P.follows .mixedOrders=true)(hH:ESound P H){l:List Ins}{bs:List (List Nat)}{I:St→Prop}{K:Env→St→Prop}{rem:List Nat}{env:Env}{st:St}(i k:Nat)(d:V)(rem':List Nat)(x:Ins)(hi:(rdy bs rem).contains i=true)(hx:l.getD i default=x)(hd:x.dst=some k)(hr:rem.filter (·≠i)=rem')
  (hq:∀s,I s→evQ1 (run P H) x env s (fun e=>some (.normal,e,s))=some (.normal,(k,d)::env,s))
  (h:Ord P l (fun i=>bs.getD i []) I K rem' ((k,d)::env) st):Ord P l (fun i=>bs.getD i []) I K rem env st:=by
 subst hr hx
 have hs:setD env (l.getD i default).dst d=(k,d)::env:=by rw[hd];rfl
 exact Ord.pure hm hH i d hi (by rw[hd];rfl) (fun s h=>by rw[hs];exact hq s h) (by rw[hs];exact h)
theorem Ord.q {P:Program}{H:EvF}(hm:P.follows .mixedOrders=true)(hH:ESound P H){l:List Ins}{bs:List (List Nat)}{I:St→Prop}{K:Env→St→Prop}{rem:List Nat}{env:Env}{st:St}(L:List Nat)(h0:rem≠[])(hL:rdy bs rem=L)
  (h:∀i∈L,(l.getD i default).op.odd=false∧HasN (fun e s=>I s∧Ord P l (fun i=>bs.getD i []) I K (rem.filter (·≠i)) e s) (evOne (run P H) (l.getD i default) env st (fun e s=>some (.normal,e,s)))) :
  Ord P l (fun i=>bs.getD i []) I K rem env st:=Ord.go hm hH L h0 hL h
theorem all1 {p:Nat→Prop}{i:Nat}(h:p i):∀j∈[i],p j:=fun j hj=>by rw[List.mem_singleton.1 hj];exact h
theorem all2 {p:Nat→Prop}{i k:Nat}(h:p i)(h':p k):∀j∈[i,k],p j:=fun j hj=>by
 rcases List.mem_cons.1 hj with rfl|hj
 ·exact h
 ·rw[List.mem_singleton.1 hj];exact h'
theorem WX_end {P:Program}{H:EvF}{c:Cd}{env:Env}{st:St}{Q:Post}(h:Has Q (runC P H c env st)):WX P H (.cd c) env st Q:=h
theorem Has_s {Q:Post}{x:VX}{e:Env}{s:St}(h:Q x e s):Has Q (some (x,e,s)):=⟨x,e,s,rfl,h⟩
end Go.Proofs.YteggomljbalaaaaGreatDoor

namespace Go.Proofs.YteggomljbalaaaaGreatDoor
open Go.Sha Go.Shelf Go.RowKit
set_option maxRecDepth 100000
theorem basT:BasT Tryz.prog:=⟨by kernel_rfl,Tryz.underlying0,Tryz.isAgg0,Tryz.sizeOf0,Tryz.zeroValue0,Tryz.underlying3,Tryz.isAgg3,Tryz.sizeOf3,Tryz.zeroValue3,Tryz.underlying4,Tryz.isAgg4,Tryz.sizeOf4,Tryz.zeroValue4,Tryz.underlying9,Tryz.isAgg9,Tryz.sizeOf9,Tryz.zeroValue9,Tryz.underlying20,Tryz.isAgg20,Tryz.sizeOf20,Tryz.zeroValue20⟩
def rnA:Ren:=⟨fun x=>if x=29 then 46 else 47,fun x=>if x=24 then 22 else if x=9 then 46 else x,fun x=>x⟩
theorem slA:SlB Tryz.prog 24 9 44 544 rnA:=slT basT rfl rfl rfl Tryz.underlying22 Tryz.isAgg22 Tryz.sizeOf22 Tryz.zeroValue22 Tryz.isAgg46 Tryz.sizeOf46 Tryz.zeroValue46 (by kernel_rfl) (by kernel_rfl) (by kernel_rfl)
theorem bearsI:Bears Tryz.prog 22 (Body2.n22 rnA):=⟨"slices.Insert[[]luminaire/api.Action,luminaire/api.Action]",by decide,by kernel_rfl⟩
theorem ovA:OvL Tryz.prog 46 22 4:=fun args w=>by
 rw[run_callFunc_extern Tryz.func46 (by kernel_rfl) (by kernel_rfl) (by kernel_rfl) (e:=Extern.SlicesOverlaps.overlaps #[22,22] #[4]) (by kernel_rfl)]
end Go.Proofs.YteggomljbalaaaaGreatDoor

