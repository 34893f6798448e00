/- The program's data as Lean structures, and what they read as; the contracts that are taken from the library. The compiled code of functions of this seat, printed by a program, and that it is the trans .. -/
import Derived.Test.YtmjkgajnpmiomaaGreatDoorLShbYB
import Derived.Test.YtmjkgajnpmiomaaGreatDoorLShbXO
import Derived.Test.YtmjkgajnpmiomaaGreatDoorProg
import Derived.KernelRfl
set_option linter.unusedSimpArgs false
set_option linter.unusedVariables false
namespace Go.Proofs.YtmjkgajnpmiomaaGreatDoor
open Go.Sha
structure Pt where
 x:Int
 y:Int
 deriving Inhabited,DecidableEq
@[reducible] def Pt.v (x:Pt):V:=.agg [.int .i64 x.x,.int .i64 x.y]
@[simp] theorem Pt.bd (x:Pt):V.bd 0 x.v=true:=by simp[Pt.v,V.bd,V.bdL,bdL_map']
@[push_cast]theorem Pt.eta (x:Pt):(⟨x.x,x.y⟩:Pt)=x:=idq rfl
@[reducible] def Pt.vs (c:List Pt):V:=.sl (c.map Pt.v)
theorem Pt.he (x:Pt):x.v.cells.length=2:=rfl
structure Slt where
 name:List UInt8
 fr:Int
 to_:Int
 deriving Inhabited,DecidableEq
@[reducible] def Slt.v (x:Slt):V:=.agg [.str x.name,.int .i64 x.fr,.int .i64 x.to_]
@[simp] theorem Slt.bd (x:Slt):V.bd 0 x.v=true:=by simp[Slt.v,V.bd,V.bdL,bdL_map']
@[push_cast]theorem Slt.eta (x:Slt):(⟨x.name,x.fr,x.to_⟩:Slt)=x:=idq rfl
@[reducible] def Slt.vs (c:List Slt):V:=.sl (c.map Slt.v)
theorem Slt.he (x:Slt):x.v.cells.length=3:=rfl
structure Ftr where
 attr:Int
 bits:Int
 coarse:Int
 fine:Int
 curve:Int
 home:Int
 low:Int
 high:Int
 snap:Bool
 wheel:List Slt
 deriving Inhabited,DecidableEq
@[reducible] def Ftr.v (x:Ftr):V:=.agg [.int .i64 x.attr,.int .i64 x.bits,.int .i64 x.coarse,.int .i64 x.fine,.int .i64 x.curve,.int .i64 x.home,.int .i64 x.low,.int .i64 x.high,.bool x.snap,.sl (x.wheel.map Slt.v)]
@[simp] theorem Ftr.bd (x:Ftr):V.bd 0 x.v=true:=by simp[Ftr.v,V.bd,V.bdL,bdL_map']
@[push_cast]theorem Ftr.eta (x:Ftr):(⟨x.attr,x.bits,x.coarse,x.fine,x.curve,x.home,x.low,x.high,x.snap,x.wheel⟩:Ftr)=x:=idq rfl
@[reducible] def Ftr.vs (c:List Ftr):V:=.sl (c.map Ftr.v)
theorem Ftr.he (x:Ftr):x.v.cells.length=10:=rfl
structure Prof where
 name:List UInt8
 foot:Int
 watts:Int
 feats:List Ftr
 deriving Inhabited,DecidableEq
@[reducible] def Prof.v (x:Prof):V:=.agg [.str x.name,.int .i64 x.foot,.int .i64 x.watts,.sl (x.feats.map Ftr.v)]
@[simp] theorem Prof.bd (x:Prof):V.bd 0 x.v=true:=by simp[Prof.v,V.bd,V.bdL,bdL_map']
@[push_cast]theorem Prof.eta (x:Prof):(⟨x.name,x.foot,x.watts,x.feats⟩:Prof)=x:=idq rfl
@[reducible] def Prof.vs (c:List Prof):V:=.sl (c.map Prof.v)
theorem Prof.he (x:Prof):x.v.cells.length=4:=rfl
structure Fixt where
 chan:Int
 part:Int
 prof:List UInt8
 univ:Int
 addr:Int
 phase:Int
 cable:List UInt8
 deriving Inhabited,DecidableEq
@[reducible] def Fixt.v (x:Fixt):V:=.agg [.int .i64 x.chan,.int .i64 x.part,.str x.prof,.int .i64 x.univ,.int .i64 x.addr,.int .i64 x.phase,.str x.cable]
@[simp] theorem Fixt.bd (x:Fixt):V.bd 0 x.v=true:=by simp[Fixt.v,V.bd,V.bdL,bdL_map']
@[push_cast]theorem Fixt.eta (x:Fixt):(⟨x.chan,x.part,x.prof,x.univ,x.addr,x.phase,x.cable⟩:Fixt)=x:=idq rfl
@[reducible] def Fixt.vs (c:List Fixt):V:=.sl (c.map Fixt.v)
theorem Fixt.he (x:Fixt):x.v.cells.length=7:=rfl
structure Prm where
 chan:Int
 attr:Int
 deriving Inhabited,DecidableEq
@[reducible] def Prm.v (x:Prm):V:=.agg [.int .i64 x.chan,.int .i64 x.attr]
@[simp] theorem Prm.bd (x:Prm):V.bd 0 x.v=true:=by simp[Prm.v,V.bd,V.bdL,bdL_map']
@[push_cast]theorem Prm.eta (x:Prm):(⟨x.chan,x.attr⟩:Prm)=x:=idq rfl
@[reducible] def Prm.vs (c:List Prm):V:=.sl (c.map Prm.v)
theorem Prm.he (x:Prm):x.v.cells.length=2:=rfl
structure Val where
 pal:Int
 lev:Int
 deriving Inhabited,DecidableEq
@[reducible] def Val.v (x:Val):V:=.agg [.int .i64 x.pal,.int .i64 x.lev]
@[simp] theorem Val.bd (x:Val):V.bd 0 x.v=true:=by simp[Val.v,V.bd,V.bdL,bdL_map']
@[push_cast]theorem Val.eta (x:Val):(⟨x.pal,x.lev⟩:Val)=x:=idq rfl
@[reducible] def Val.vs (c:List Val):V:=.sl (c.map Val.v)
theorem Val.he (x:Val):x.v.cells.length=2:=rfl
structure Grp where
 num:Int
 chans:List Int
 deriving Inhabited,DecidableEq
@[reducible] def Grp.v (x:Grp):V:=.agg [.int .i64 x.num,.sl (x.chans.map (V.int .i64))]
@[simp] theorem Grp.bd (x:Grp):V.bd 0 x.v=true:=by simp[Grp.v,V.bd,V.bdL,bdL_map']
@[push_cast]theorem Grp.eta (x:Grp):(⟨x.num,x.chans⟩:Grp)=x:=idq rfl
@[reducible] def Grp.vs (c:List Grp):V:=.sl (c.map Grp.v)
theorem Grp.he (x:Grp):x.v.cells.length=2:=rfl
structure Hue where
 chan:Int
 attr:Int
 lev:Int
 deriving Inhabited,DecidableEq
@[reducible] def Hue.v (x:Hue):V:=.agg [.int .i64 x.chan,.int .i64 x.attr,.int .i64 x.lev]
@[simp] theorem Hue.bd (x:Hue):V.bd 0 x.v=true:=by simp[Hue.v,V.bd,V.bdL,bdL_map']
@[push_cast]theorem Hue.eta (x:Hue):(⟨x.chan,x.attr,x.lev⟩:Hue)=x:=idq rfl
@[reducible] def Hue.vs (c:List Hue):V:=.sl (c.map Hue.v)
theorem Hue.he (x:Hue):x.v.cells.length=3:=rfl
structure Pal where
 num:Int
 hues:List Hue
 deriving Inhabited,DecidableEq
@[reducible] def Pal.v (x:Pal):V:=.agg [.int .i64 x.num,.sl (x.hues.map Hue.v)]
@[simp] theorem Pal.bd (x:Pal):V.bd 0 x.v=true:=by simp[Pal.v,V.bd,V.bdL,bdL_map']
@[push_cast]theorem Pal.eta (x:Pal):(⟨x.num,x.hues⟩:Pal)=x:=idq rfl
@[reducible] def Pal.vs (c:List Pal):V:=.sl (c.map Pal.v)
theorem Pal.he (x:Pal):x.v.cells.length=2:=rfl
structure Tim where
 up:Int
 down:Int
 posi:Int
 colour:Int
 beam:Int
 delay:Int
 deriving Inhabited,DecidableEq
@[reducible] def Tim.v (x:Tim):V:=.agg [.int .i64 x.up,.int .i64 x.down,.int .i64 x.posi,.int .i64 x.colour,.int .i64 x.beam,.int .i64 x.delay]
@[simp] theorem Tim.bd (x:Tim):V.bd 0 x.v=true:=by simp[Tim.v,V.bd,V.bdL,bdL_map']
@[push_cast]theorem Tim.eta (x:Tim):(⟨x.up,x.down,x.posi,x.colour,x.beam,x.delay⟩:Tim)=x:=idq rfl
@[reducible] def Tim.vs (c:List Tim):V:=.sl (c.map Tim.v)
theorem Tim.he (x:Tim):x.v.cells.length=6:=rfl
structure Mov where
 prm:Prm
 val:Val
 part:Int
 deriving Inhabited,DecidableEq
@[reducible] def Mov.v (x:Mov):V:=.agg [.int .i64 x.prm.chan,.int .i64 x.prm.attr,.int .i64 x.val.pal,.int .i64 x.val.lev,.int .i64 x.part]
@[simp] theorem Mov.bd (x:Mov):V.bd 0 x.v=true:=by simp[Mov.v,V.bd,V.bdL,bdL_map']
@[push_cast]theorem Mov.eta (x:Mov):(⟨x.prm,x.val,x.part⟩:Mov)=x:=idq rfl
@[reducible] def Mov.vs (c:List Mov):V:=.sl (c.map Mov.v)
theorem Mov.he (x:Mov):x.v.cells.length=5:=rfl
structure Cu where
 num:List UInt8
 label:List UInt8
 moves:List Mov
 parts:List Tim
 block:Bool
 mark:Bool
 follow:Int
 link:List UInt8
 loops:Int
 deriving Inhabited,DecidableEq
@[reducible] def Cu.v (x:Cu):V:=.agg [.str x.num,.str x.label,.sl (x.moves.map Mov.v),.sl (x.parts.map Tim.v),.bool x.block,.bool x.mark,.int .i64 x.follow,.str x.link,.int .i64 x.loops]
@[simp] theorem Cu.bd (x:Cu):V.bd 0 x.v=true:=by simp[Cu.v,V.bd,V.bdL,bdL_map']
@[push_cast]theorem Cu.eta (x:Cu):(⟨x.num,x.label,x.moves,x.parts,x.block,x.mark,x.follow,x.link,x.loops⟩:Cu)=x:=idq rfl
@[reducible] def Cu.vs (c:List Cu):V:=.sl (c.map Cu.v)
theorem Cu.he (x:Cu):x.v.cells.length=9:=rfl
structure Lst where
 num:Int
 prio:Int
 cues:List Cu
 deriving Inhabited,DecidableEq
@[reducible] def Lst.v (x:Lst):V:=.agg [.int .i64 x.num,.int .i64 x.prio,.sl (x.cues.map Cu.v)]
@[simp] theorem Lst.bd (x:Lst):V.bd 0 x.v=true:=by simp[Lst.v,V.bd,V.bdL,bdL_map']
@[push_cast]theorem Lst.eta (x:Lst):(⟨x.num,x.prio,x.cues⟩:Lst)=x:=idq rfl
@[reducible] def Lst.vs (c:List Lst):V:=.sl (c.map Lst.v)
theorem Lst.he (x:Lst):x.v.cells.length=3:=rfl
structure Gan where
 prm:Prm
 lev:Int
 deriving Inhabited,DecidableEq
@[reducible] def Gan.v (x:Gan):V:=.agg [.int .i64 x.prm.chan,.int .i64 x.prm.attr,.int .i64 x.lev]
@[simp] theorem Gan.bd (x:Gan):V.bd 0 x.v=true:=by simp[Gan.v,V.bd,V.bdL,bdL_map']
@[push_cast]theorem Gan.eta (x:Gan):(⟨x.prm,x.lev⟩:Gan)=x:=idq rfl
@[reducible] def Gan.vs (c:List Gan):V:=.sl (c.map Gan.v)
theorem Gan.he (x:Gan):x.v.cells.length=3:=rfl
structure Sb where
 num:Int
 prio:Int
 inh:Bool
 gains:List Gan
 deriving Inhabited,DecidableEq
@[reducible] def Sb.v (x:Sb):V:=.agg [.int .i64 x.num,.int .i64 x.prio,.bool x.inh,.sl (x.gains.map Gan.v)]
@[simp] theorem Sb.bd (x:Sb):V.bd 0 x.v=true:=by simp[Sb.v,V.bd,V.bdL,bdL_map']
@[push_cast]theorem Sb.eta (x:Sb):(⟨x.num,x.prio,x.inh,x.gains⟩:Sb)=x:=idq rfl
@[reducible] def Sb.vs (c:List Sb):V:=.sl (c.map Sb.v)
theorem Sb.he (x:Sb):x.v.cells.length=4:=rfl
structure Eff where
 num:Int
 attr:Int
 wave:List Pt
 period:Int
 spread:Int
 size:Int
 deriving Inhabited,DecidableEq
@[reducible] def Eff.v (x:Eff):V:=.agg [.int .i64 x.num,.int .i64 x.attr,.sl (x.wave.map Pt.v),.int .i64 x.period,.int .i64 x.spread,.int .i64 x.size]
@[simp] theorem Eff.bd (x:Eff):V.bd 0 x.v=true:=by simp[Eff.v,V.bd,V.bdL,bdL_map']
@[push_cast]theorem Eff.eta (x:Eff):(⟨x.num,x.attr,x.wave,x.period,x.spread,x.size⟩:Eff)=x:=idq rfl
@[reducible] def Eff.vs (c:List Eff):V:=.sl (c.map Eff.v)
theorem Eff.he (x:Eff):x.v.cells.length=6:=rfl
structure Sho where
 title:List UInt8
 curves:List (List Pt)
 profs:List Prof
 fixts:List Fixt
 grps:List Grp
 pals:List Pal
 lsts:List Lst
 subs:List Sb
 effs:List Eff
 deriving Inhabited,DecidableEq
@[reducible] def Sho.v (x:Sho):V:=.agg [.str x.title,.sl (x.curves.map Pt.vs),.sl (x.profs.map Prof.v),.sl (x.fixts.map Fixt.v),.sl (x.grps.map Grp.v),.sl (x.pals.map Pal.v),.sl (x.lsts.map Lst.v),.sl (x.subs.map Sb.v),.sl (x.effs.map Eff.v)]
@[simp] theorem Sho.bd (x:Sho):V.bd 0 x.v=true:=by simp[Sho.v,V.bd,V.bdL,bdL_map']
@[push_cast]theorem Sho.eta (x:Sho):(⟨x.title,x.curves,x.profs,x.fixts,x.grps,x.pals,x.lsts,x.subs,x.effs⟩:Sho)=x:=idq rfl
@[reducible] def Sho.vs (c:List Sho):V:=.sl (c.map Sho.v)
theorem Sho.he (x:Sho):x.v.cells.length=9:=rfl
structure Edi where
 kind:Int
 num:Int
 chan:Int
 prio:Int
 key:List UInt8
 cue:Cu
 pal:Pal
 grp:Grp
 sub:Sb
 eff:Eff
 fix:Fixt
 deriving Inhabited,DecidableEq
@[reducible] def Edi.v (x:Edi):V:=.agg [.int .i64 x.kind,.int .i64 x.num,.int .i64 x.chan,.int .i64 x.prio,.str x.key,.str x.cue.num,.str x.cue.label,.sl (x.cue.moves.map Mov.v),.sl (x.cue.parts.map Tim.v),.bool x.cue.block,.bool x.cue.mark,.int .i64 x.cue.follow,.str x.cue.link,.int .i64 x.cue.loops,.int .i64 x.pal.num,.sl (x.pal.hues.map Hue.v),.int .i64 x.grp.num,.sl (x.grp.chans.map (V.int .i64)),.int .i64 x.sub.num,.int .i64 x.sub.prio,.bool x.sub.inh,.sl (x.sub.gains.map Gan.v),.int .i64 x.eff.num,.int .i64 x.eff.attr,.sl (x.eff.wave.map Pt.v),.int .i64 x.eff.period,.int .i64 x.eff.spread,.int .i64 x.eff.size,.int .i64 x.fix.chan,.int .i64 x.fix.part,.str x.fix.prof,.int .i64 x.fix.univ,.int .i64 x.fix.addr,.int .i64 x.fix.phase,.str x.fix.cable]
@[simp] theorem Edi.bd (x:Edi):V.bd 0 x.v=true:=by simp[Edi.v,V.bd,V.bdL,bdL_map']
@[push_cast]theorem Edi.eta (x:Edi):(⟨x.kind,x.num,x.chan,x.prio,x.key,x.cue,x.pal,x.grp,x.sub,x.eff,x.fix⟩:Edi)=x:=idq rfl
@[reducible] def Edi.vs (c:List Edi):V:=.sl (c.map Edi.v)
theorem Edi.he (x:Edi):x.v.cells.length=35:=rfl
structure His where
 past:List Sho
 shw:Sho
 fut:List Sho
 deriving Inhabited,DecidableEq
@[reducible] def His.v (x:His):V:=.agg [.sl (x.past.map Sho.v),.str x.shw.title,.sl (x.shw.curves.map Pt.vs),.sl (x.shw.profs.map Prof.v),.sl (x.shw.fixts.map Fixt.v),.sl (x.shw.grps.map Grp.v),.sl (x.shw.pals.map Pal.v),.sl (x.shw.lsts.map Lst.v),.sl (x.shw.subs.map Sb.v),.sl (x.shw.effs.map Eff.v),.sl (x.fut.map Sho.v)]
@[simp] theorem His.bd (x:His):V.bd 0 x.v=true:=by simp[His.v,V.bd,V.bdL,bdL_map']
@[push_cast]theorem His.eta (x:His):(⟨x.past,x.shw,x.fut⟩:His)=x:=idq rfl
@[reducible] def His.vs (c:List His):V:=.sl (c.map His.v)
theorem His.he (x:His):x.v.cells.length=11:=rfl
def isD (b:UInt8):Bool:=decide (48≤b.toNat)&&decide (b.toNat≤57)
def natOf (s:List UInt8):Nat:=s.foldl (fun n b=>10*n+(b.toNat-48)) 0
def trimB (t s:List UInt8):List UInt8:=((s.dropWhile t.contains).reverse.dropWhile t.contains).reverse
def hCut:List V→Option VRes
 |[.str s,.str [b]]=>if s.length<140737488355328 then some (.ret (.tup [.str (s.takeWhile (· != b)),.str ((s.dropWhile (· != b)).drop 1),.bool (s.contains b)])) else none
 |_=>none
def hSuf:List V→Option VRes
 |[.str s,.str t]=>if s.length<140737488355328∧t.length≤s.length+1000 then some (.ret (.bool (t.isSuffixOf s))) else none
 |_=>none
def hAny:List V→Option VRes
 |[.str s,.fn (.func 247) [] []]=>some (.ret (.bool (s.any (!isD ·))))
 |_=>none
def hAtoi:List V→Option VRes
 |[.str s]=>if s≠[]∧s.all isD=true∧s.length≤18 then some (.ret (.tup [.int .i64 (natOf s),.nili])) else none
 |_=>none
abbrev nmW:List UInt8:=[97,98,99,100,101,102,103,104,105,106,107,108,109,110,111,112,113,114,115,116,117,118,119,120,121,122,48,49,50,51,52,53,54,55,56,57,95]
def hTrim:List V→Option VRes
 |[.str s,.str t]=>if t=nmW∧s.length≤24 then some (.ret (.str (trimB t s))) else none
 |_=>none
def hSl (f:FuncId)(args:List V)(st:St):Rt:=bif Nat.beq f 102 then hCln 98 3 40 args st else bif Nat.beq f 103 then hIns 98 3 40 args st else bif Nat.beq f 112 then hCln 53 6 64 args st else bif Nat.beq f 113 then hIns 53 6 64 args st else bif Nat.beq f 115 then hDel 53 6 args st else bif Nat.beq f 168 then hCln 41 9 120 args st else bif Nat.beq f 167 then hDel 41 9 args st else bif Nat.beq f 172 then hCln 44 2 32 args st else bif Nat.beq f 173 then hIns 44 2 32 args st else bif Nat.beq f 176 then hCln 47 2 32 args st else bif Nat.beq f 179 then hIns 47 2 32 args st else bif Nat.beq f 180 then hDel 47 2 args st else bif Nat.beq f 181 then hCln 50 4 48 args st else bif Nat.beq f 183 then hIns 50 4 48 args st else bif Nat.beq f 189 then hCln 55 7 72 args st else bif Nat.beq f 43 then hCln 31 9 208 args st else bif Nat.beq f 265 then hGrw 50 4 48 args st else bif Nat.beq f 270 then hGrw 55 7 72 args st else none
def HH:EvF:=⟨[103,113,173,179,183,265,270],fun f args st=>bif memL f [43,102,103,112,113,115,167,168,172,173,176,179,180,181,183,189,265,270] then hSl f args st else(bif Nat.beq f 160 then hCut args else bif Nat.beq f 164 then hSuf args else bif Nat.beq f 246 then hAny args else bif Nat.beq f 381 then hAtoi args else bif Nat.beq f 278 then hTrim args else none).map fun r=>(r,st)⟩
@[push_cast]theorem HH_raw:HH.raw=[103,113,173,179,183,265,270]:=idq rfl
end Go.Proofs.YtmjkgajnpmiomaaGreatDoor

namespace Go.Proofs.YtmjkgajnpmiomaaGreatDoor
open Go.Sha
set_option maxRecDepth 10000
def B136_0:Cd:=(.g [.b 21 .lss 20 19] (.join [1,18,19,20] (.i 21 .skip (.exit [] 0)) (.join [1,18,19,20] (.block 1 (.g [.m 22 20,.r 23 1 18 20,.l 24 23,.m 3 22,.m 4 24] (.join [1,3,4,18,19,20] (.join [1,3,4,18,19,20,30] (.reg [.m 25 4,.v 26 .lss 25 1,.m 27 26,.mx 28 4 27,.vx 29 .gtr 28 999 27,.o 30 27 29]) (.i 30 (.g [.c 2 2] (.ret [2])) .skip)) (.g [.a 31 1 1,.l 32 31,.m 33 3,.s 34 (.slice 1 (.t 32) none (some (.t 33)) none),.m 35 4,.g' 36 91 34 35] (.i 36 (.g [.c 2 7] (.ret [2])) .skip))))) (.reg [.v 37 .add 20 1,.m 20 37]))))
theorem F136:compF Tryz.prog 136=some ⟨38,[.tmp 2],(.g [.q 1 47 0,.c 2 0] (.z [1] (.join [1] (.join [1,12] (.reg [.a 5 0 1,.l 6 5,.v 7 .lss 6 1,.m 8 7,.ax 9 0 1 8,.lx 10 9 8,.vx 11 .gtr 10 1048576 8,.o 12 8 11]) (.i 12 (.g [.c 2 2] (.ret [2])) .skip)) (.join [1] (.g [.a 13 1 1,.l 14 13,.u 15 14,.v 16 .gtr 15 256] (.i 16 (.g [.c 2 5] (.ret [2])) .skip)) (.join [] (.g [.a 17 1 1,.l 18 17,.u 19 18,.c 20 0] (.block 0 (.loop [1,18,19,20] [] B136_0))) (.g [.c 2 0] (.ret [2])))))))⟩:=by kernel_rfl
def B82_0:Cd:=(.g [.b 12 .lss 11 10] (.join [0,9,10,11] (.i 12 .skip (.exit [] 0)) (.join [0,9,10,11] (.block 1 (.g [.m 13 11,.r 14 2 9 11,.d 15 2 14,.s 4 (.alloc 47 [.i 0,.nils]),.m 3 13,.w 2 4 15] (.z [4] (.join [0,3,4,9,10,11] (.g [.d 16 2 4,.f 17 136 16,.m 5 17] (.g [.m 18 5,.v 19 .neq 18 0] (.i 19 (.g [.m 20 5,.m 2 20] (.ret [2])) .skip))) (.join [0,9,10,11,33] (.dreg 13 [.m 21 3,.v 22 .gtr 21 0,.m 23 22,.ay 24 0 4 23,.ly 25 24 23,.my 26 0 23,.my 27 3 23,.vy 28 .sub 27 1 23,.ry 29 2 26 28 23,.ay 30 0 29 23,.ly 31 30 23,.by' 32 .leq 25 31 23,.e 33 23 32]) (.i 33 (.g [.c 2 9] (.ret [2])) .skip)))))) (.reg [.v 34 .add 11 1,.m 11 34]))))
theorem F82:compF Tryz.prog 82=some ⟨35,[.tmp 2],(.g [.c 2 0] (.join [0] (.g [.m 6 0,.u 7 6,.v 8 .gtr 7 32] (.i 8 (.g [.c 2 5] (.ret [2])) .skip)) (.join [] (.g [.m 9 0,.u 10 9,.c 11 0] (.block 0 (.loop [0,9,10,11] [] B82_0))) (.g [.c 2 0] (.ret [2])))))⟩:=by kernel_rfl
def B73_0:Cd:=(.join [1,3] (.g [.m 16 3,.a 17 1 1,.l 18 17,.u 19 18,.b 20 .lss 16 19] (.i 20 .skip (.exit [] 0))) (.join [1,3] (.block 1 (.join [1,3] (.join [1,3,36] (.reg [.a 23 1 1,.l 24 23,.m 25 3,.r 26 1 24 25,.l 27 26,.v 28 .lss 27 1,.m 29 28,.ax 30 1 1 29,.lx 31 30 29,.mx 32 3 29,.x 33 (.iadr 1 (.t 31) (.t 32)) 29,.lx 34 33 29,.vx 35 .gtr 34 999 29,.o 36 29 35]) (.i 36 (.g [.c 2 2] (.ret [2])) .skip)) (.q (.dreg 10 [.a 37 1 1,.l 38 37,.m 39 3,.s 40 (.slice 1 (.t 38) none (some (.t 39)) none),.a 41 1 1,.l 42 41,.m 43 3,.r 44 1 42 43,.l 45 44,.g' 46 128 40 45]) (.i 46 (.g [.c 2 7] (.ret [2])) .skip)))) (.reg [.m 21 3,.v 22 .add 21 1,.m 3 22])))
theorem F73:compF Tryz.prog 73=some ⟨47,[.tmp 2],(.g [.q 1 47 0,.c 2 0] (.z [1] (.join [1] (.join [1,11] (.reg [.a 4 0 1,.l 5 4,.v 6 .lss 5 1,.m 7 6,.ax 8 0 1 7,.lx 9 8 7,.vx 10 .gtr 9 1048576 7,.o 11 7 10]) (.i 11 (.g [.c 2 2] (.ret [2])) .skip)) (.join [1] (.g [.a 12 1 1,.l 13 12,.u 14 13,.v 15 .gtr 14 256] (.i 15 (.g [.c 2 5] (.ret [2])) .skip)) (.join [] (.g [.c 3 0] (.block 0 (.loop [1,3] [] B73_0))) (.g [.c 2 0] (.ret [2])))))))⟩:=by kernel_rfl
def B37_0:Cd:=(.join [0,3] (.g [.m 8 3,.m 9 0,.u 10 9,.b 11 .lss 8 10] (.i 11 .skip (.exit [] 0))) (.join [0,3] (.block 1 (.join [0,3] (.g [.m 14 0,.m 15 3,.r 16 2 14 15,.d 17 2 16,.f 18 73 17,.m 4 18] (.g [.m 19 4,.v 20 .neq 19 0] (.i 20 (.g [.m 21 4,.m 2 21] (.ret [2])) .skip))) (.join [0,3,37] (.dreg 16 [.m 22 3,.v 23 .gtr 22 0,.m 24 23,.my 25 0 24,.my 26 3 24,.ry 27 2 25 26 24,.ay 28 0 27 24,.ly 29 28 24,.my 30 0 24,.my 31 3 24,.vy 32 .sub 31 1 24,.ry 33 2 30 32 24,.ay 34 0 33 24,.ly 35 34 24,.by' 36 .leq 29 35 24,.e 37 24 36]) (.i 37 (.g [.c 2 9] (.ret [2])) .skip)))) (.reg [.m 12 3,.v 13 .add 12 1,.m 3 13])))
theorem F37:compF Tryz.prog 37=some ⟨38,[.tmp 2],(.g [.c 2 0] (.join [0] (.g [.m 5 0,.u 6 5,.v 7 .gtr 6 32] (.i 7 (.g [.c 2 5] (.ret [2])) .skip)) (.join [] (.g [.c 3 0] (.block 0 (.loop [0,3] [] B37_0))) (.g [.c 2 0] (.ret [2])))))⟩:=by kernel_rfl
def B128_0:Cd:=(.join [0,1,5] (.g [.m 6 5,.m 7 0,.u 8 7,.b 9 .lss 6 8] (.i 9 .skip (.exit [] 0))) (.join [0,1,5] (.block 1 (.g [.m 12 0,.m 13 5,.r 14 1 12 13,.l 15 14,.m 16 1,.b 17 .eql 15 16] (.i 17 (.g [.k 4 true] (.ret [4])) .skip))) (.reg [.m 10 5,.v 11 .add 10 1,.m 5 11])))
theorem F128:compF Tryz.prog 128=some ⟨18,[.tmp 4],(.g [.k 4 false] (.join [] (.g [.c 5 0] (.block 0 (.loop [0,1,5] [] B128_0))) (.g [.k 4 false] (.ret [4]))))⟩:=by kernel_rfl
theorem F91:compF Tryz.prog 91=some ⟨9,[.tmp 4],(.g [.k 4 false] (.g [.m 5 0,.m 6 1,.g' 7 155 5 6,.v 8 .geq 7 0,.m 4 8] (.ret [4])))⟩:=by kernel_rfl
def B155_0:Cd:=(.g [.b 9 .lss 8 7] (.join [0,1,7,8] (.i 9 .skip (.exit [] 0)) (.join [0,1,7,8] (.block 1 (.g [.m 10 8,.m 5 10] (.g [.m 11 1,.m 12 0,.m 13 5,.r 14 1 12 13,.l 15 14,.b 16 .eql 11 15] (.i 16 (.g [.m 17 5,.m 4 17] (.ret [4])) .skip)))) (.reg [.v 18 .add 8 1,.m 8 18]))))
theorem F155:compF Tryz.prog 155=some ⟨19,[.tmp 4],(.g [.c 4 0] (.join [] (.g [.m 6 0,.u 7 6,.c 8 0] (.block 0 (.loop [0,1,7,8] [] B155_0))) (.g [.c 4 (-1)] (.ret [4]))))⟩:=by kernel_rfl
end Go.Proofs.YtmjkgajnpmiomaaGreatDoor

namespace Go.Proofs.YtmjkgajnpmiomaaGreatDoor
open Go.Sha
def ix {α:Type}(p:α→Bool):List α→Nat→Int
 |[],_=>-1
 |x::r,j=>if p x=true then j else ix p r (j+1)
theorem ix_ge {α:Type}{p:α→Bool}:∀{l:List α}{j:Nat},(0≤ix p l j)=(l.any p=true)
 |[],j=>by simp[ix]
 |x::r,j=>by
  unfold ix
  by_cases h:p x=true
  ·simp[h]
  ·simp[h,ix_ge (l:=r)]
variable {g:List (Nat×Obj)}
def IxB (es : Nat)(n : Option Nat) : Cd := (.g [.s 9 (.bin .lss (.t 8) (.t 7))]
 (.join [0, 1, 7, 8] (.i 9 .skip (.exit [] 0))
 (.join [0, 1, 7, 8] (.block 1 (.g [.s 10 (.m 8), .s 5 (.m 10)]
 (.g [.s 11 (.m 1), .s 12 (.m 0), .s 13 (.m 5), .s 14 (.iadr es (.t 12) (.t 13)), .s 15 (.load n (.t 14)), .s 16 (.call (.t 11) [(.t 15)])]
 (.i 16 (.g [.s 17 (.m 5), .s 4 (.m 17)] (.ret [4])) .skip))))
 (.reg [.s 18 (.bin .add (.t 8) (.i 1)), .s 8 (.m 18)]))))
def IxC (es : Nat)(n : Option Nat) : Cd := (.g [.s 4 (.mv (.i 0))]
 (.join [] (.g [.s 6 (.m 0), .s 7 (.len (.t 6)), .s 8 (.mv (.i 0))]
 (.block 0 (.loop [0, 1, 7, 8] [] (IxB es n))))
 (.g [.s 4 (.mv (.i (-1)))] (.ret [4]))))
theorem IxL {α:Type}[Inhabited α]{f:α→V}{es:Nat}{n:Option Nat}{h:FuncId}{caps:List V}{p:α→Bool}{l:List α}{st:St}(he:∀x,(f x).cells.length=es)(hr:∀x,rd n (f x).cells 0=some (f x))
  (hl:l.length<140737488355328) (hp:∀x∈l,run Tryz.prog HH h (f x::caps) st=some (.ret (.bool (p x)),st)) (hs:∀x,(snapA st (f x)).getD (f x)=f x) (hc:caps.map (fun v=>(snapA st v).getD v)=caps) (hk0:(decide (103=h)||(decide (113=h)||(decide (173=h)||(decide (179=h)||(decide (183=h)||(decide (265=h)||decide (270=h)))))))=false) :
  ∀r j,l.drop j=r→runL Tryz.prog HH [0,1,7,8] st.nx (IxB es n) [(0,.sl (l.map f)),(1,.fn (.func h) [] caps),(7,.int .i64 l.length),(8,.int .i64 j)] st=lpI st [] 4 (ix p r j):=by
 refine drop_ind (fun j h=>?_) (fun x r j h hx hd ih=>?_)
 all_goals rw[runL_of (IxB.eq_1 _ _)]
 ·have h1:¬(j:Int)<l.length:=by omega
  push_cast[h1,ix]
 ·have h1:(j:Int)<l.length:=by omega
  have hw:=iw1 (j:=j) (by omega)
  have hm:=hp x (by rw[←hx default];simp[List.getD_eq_getElem?_getD,List.getElem?_eq_getElem h])
  push_cast[h1,hw,hx,he,hr,loadV,hs,hc,hm,hk0]at ih ⊢
  simp only[ih,ix,lpI_ite,lpI_n]
theorem IxF {α:Type}[Inhabited α]{f:α→V}{es:Nat}{n:Option Nat}{h k:FuncId}{caps:List V}{p:α→Bool}{l:List α}{st:St}(he:∀x,(f x).cells.length=es)(hr:∀x,rd n (f x).cells 0=some (f x))
  (hF:compF Tryz.prog k=some ⟨19,[.tmp 4],IxC es n⟩) (hH:HH k [.sl (l.map f),.fn (.func h) [] caps] st=none) (hb:V.bdL 0 [.sl (l.map f),.fn (.func h) [] caps]=true)
  (hl:l.length<140737488355328) (hp:∀x∈l,∀st,run Tryz.prog HH h (f x::caps) st=some (.ret (.bool (p x)),st)) (hs:∀st x,(snapA st (f x)).getD (f x)=f x) (hc:∀st,caps.map (fun v=>(snapA st v).getD v)=caps) (hk0:(decide (103=h)||(decide (113=h)||(decide (173=h)||(decide (179=h)||(decide (183=h)||(decide (265=h)||decide (270=h)))))))=false:=by rfl) :
  run Tryz.prog HH k [.sl (l.map f),.fn (.func h) [] caps] st=some (.ret (.int .i64 (ix p l 0)),st):=by
 rw[run_shut hF hH rfl hb]
 unfold IxC
 have hL:=fun g n=>IxL (st:=stN g n) he hr hl (fun x hx=>hp x hx _) (hs _) (hc _) hk0 l 0 rfl
 push_cast at hL
 push_cast[hL,lpI]
theorem IxO {α:Type}[Inhabited α]{f:α→V}{es:Nat}{n:Option Nat}{h k:FuncId}{caps:List V}{p:α→Bool}{l:List α}{st:St}(he:∀x,(f x).cells.length=es)(hr:∀x,rd n (f x).cells 0=some (f x))
  (hF:compF Tryz.prog k=some ⟨19,[.tmp 4],IxC es n⟩) (hH:HH k [.sl (l.map f),.fn (.func h) [] caps] st=none) (hb:V.bdL 0 [.sl (l.map f),.fn (.func h) [] caps]=false)
  (hl:l.length<140737488355328) (hp:∀x∈l,run Tryz.prog HH h (f x::caps) st=some (.ret (.bool (p x)),st)) (hs:∀x,(snapA st (f x)).getD (f x)=f x) (hc:caps.map (fun v=>(snapA st v).getD v)=caps) (hk0:(decide (103=h)||(decide (113=h)||(decide (173=h)||(decide (179=h)||(decide (183=h)||(decide (265=h)||decide (270=h)))))))=false:=by rfl) :
  run Tryz.prog HH k [.sl (l.map f),.fn (.func h) [] caps] st=some (.ret (.int .i64 (ix p l 0)),st):=by
 rw[run_open hF hH rfl hb]
 unfold IxC
 have hL:=IxL he hr hl hp hs hc hk0 l 0 rfl
 push_cast at hL
 push_cast[hL,lpI]
end Go.Proofs.YtmjkgajnpmiomaaGreatDoor

namespace Go.Proofs.YtmjkgajnpmiomaaGreatDoor
open Go.Sha
variable {g:List (Nat×Obj)}{n:Nat}
theorem L155 {l:List Int}{v:Int}(hl:l.length<140737488355328):∀r j,l.drop j=r→runL Tryz.prog HH [0,1,7,8] n B155_0 [(0,.sl (l.map (.int .i64))),(1,.int .i64 v),(7,.int .i64 l.length),(8,.int .i64 j)] (stN g n)=lpI (stN g n) [] 4 (ix (v == ·) r j):=by
 refine drop_ind (fun j h=>?_) (fun q r j h hx hd ih=>?_)
 all_goals rw[runL_of B155_0.eq_1]
 ·have h1:¬(j:Int)<l.length:=by omega
  push_cast[h1,ix]
 ·have h1:(j:Int)<l.length:=by omega
  have hw:=iw1 (j:=j) (by omega)
  push_cast[h1,hw,hx]at ih ⊢
  simp only[ih,ix,lps,Int.reduceEq,not_false_eq_true]
  all_goals ((repeat' split)<;>simp_all)
theorem f155 {l:List Int}{v:Int}(hl:l.length<140737488355328){st:St}:run Tryz.prog HH 155 [.sl (l.map (.int .i64)),.int .i64 v] st=some (.ret (.int .i64 (ix (v == ·) l 0)),st):=by
 rw[run_shut F155 rfl rfl (by simp)]
 have hL0:=fun n=>L155 (g:=st.x.gl) (n:=n) (v:=v) hl l 0 rfl
 push_cast at hL0
 push_cast[hL0,lpE,lpX,lpI,lpB]
theorem f91 {l:List Int}{v:Int}(hl:l.length<140737488355328){st:St}:run Tryz.prog HH 91 [.sl (l.map (.int .i64)),.int .i64 v] st=some (.ret (.bool (l.any (v == ·))),st):=by
 rw[run_shut F91 rfl rfl (by simp)]
 push_cast[f155 hl,ix_ge]
def chansL (l:List Int):List Int→Nat→Int
 |[],_=>0
 |c::r,j=>if c<1∨999<c then 2 else if(l.take j).any (c == ·)=true then 7 else chansL l r (j+1)
theorem L136 {x:Grp}(hl:x.chans.length<140737488355328):∀r j,x.chans.drop j=r→runL Tryz.prog HH [1,18,19,20] n B136_0 [(1,.ep x.v 0),(18,.sl (x.chans.map (.int .i64))),(19,.int .i64 x.chans.length),(20,.int .i64 j)] (stN g n)=lpE (stN g n) [] 2 (chansL x.chans r j):=by
 refine drop_ind (fun j h=>?_) (fun q r j h hx hd ih=>?_)
 all_goals rw[runL_of B136_0.eq_1]
 ·have h1:¬(j:Int)<x.chans.length:=by omega
  push_cast[h1,chansL,Grp.v]
 ·have h1:(j:Int)<x.chans.length:=by omega
  have hw:=iw1 (j:=j) (by omega)
  have ht:(x.chans.take j).length<140737488355328:=by simp;omega
  push_cast[h1,hw,hx,f91 ht,Grp.v]at ih ⊢
  simp only[ih,chansL,lps,Int.reduceEq,not_false_eq_true]
  all_goals exact dn_eq (by omega) (by with_reducible rfl)
  trace_state
def grpC (x:Grp):Int:=if x.num<1∨1048576<x.num then 2 else if 256<(x.chans.length:Int) then 5 else chansL x.chans x.chans 0
theorem f136 {x:Grp}(hl:x.chans.length<140737488355328){st:St}:run Tryz.prog HH 136 [x.v] st=some (.ret (.int .i64 (grpC x)),st):=by
 rw[run_shut F136 rfl rfl (by simp)]
 have hL0:=fun n=>L136 (g:=st.x.gl) (n:=n) hl _ 0 rfl
 push_cast[Grp.v,grpC]at hL0
 push_cast[Grp.v,grpC,hL0,lpE,lpX,lpI,lpB]
theorem any_c {l:List Int}{v:Int}:(l.any (· == v))=l.any (v == ·):=by congr 1;funext x;exact Bool.beq_comm
theorem anyC {α:Type}{p:α→Bool}{x:α}{r:List α}:(x::r).any p=if p x=true then true else r.any p:=by rw[List.any_cons];cases p x<;>rfl
theorem L128 {l:List Int}{v:Int}(hl:l.length<140737488355328):∀r j,l.drop j=r→runL Tryz.prog HH [0,1,5] n B128_0 [(0,.sl (l.map (.int .i64))),(1,.int .i64 v),(5,.int .i64 j)] (stN g n)=lpB (stN g n) [] 4 (r.any (· == v)) true:=by
 refine drop_ind (fun j h=>?_) (fun q r j h hx hd ih=>?_)
 all_goals rw[runL_of B128_0.eq_1]
 ·have h1:¬(j:Int)<l.length:=by omega
  push_cast[h1,anyC,List.any_nil]
 ·have h1:(j:Int)<l.length:=by omega
  have hw:=iw1 (j:=j) (by omega)
  push_cast[h1,hw,hx]at ih ⊢
  simp only[ih,anyC,List.any_nil,lps,Int.reduceEq,not_false_eq_true]
  all_goals ((repeat' split)<;>simp_all)
theorem f128 {l:List Int}{v:Int}(hl:l.length<140737488355328){st:St}:run Tryz.prog HH 128 [.sl (l.map (.int .i64)),.int .i64 v] st=some (.ret (.bool (l.any (v == ·))),st):=by
 rw[run_shut F128 rfl rfl (by simp)]
 have hL0:=fun n=>L128 (g:=st.x.gl) (n:=n) (v:=v) hl l 0 rfl
 push_cast[any_c]at hL0
 push_cast[any_c,hL0,lpE,lpX,lpI,lpB]
theorem L73 {x:Grp}(hl:x.chans.length<140737488355328):∀r j,x.chans.drop j=r→runL Tryz.prog HH [1,3] n B73_0 [(1,.ep x.v 0),(3,.int .i64 j)] (stN g n)=lpE (stN g n) [] 2 (chansL x.chans r j):=by
 refine drop_ind (fun j h=>?_) (fun q r j h hx hd ih=>?_)
 all_goals rw[runL_of B73_0.eq_1]
 ·have h1:¬(j:Int)<x.chans.length:=by omega
  push_cast[h1,chansL,Grp.v]
 ·have h1:(j:Int)<x.chans.length:=by omega
  have hw:=iw1 (j:=j) (by omega)
  have ht:(x.chans.take j).length<140737488355328:=by simp;omega
  push_cast[h1,hw,hx,f128 ht,Grp.v]at ih ⊢
  simp only[ih,chansL,lps,Int.reduceEq,not_false_eq_true]
  all_goals exact dn_eq (by omega) (by with_reducible rfl)
theorem f73 {x:Grp}(hl:x.chans.length<140737488355328){st:St}:run Tryz.prog HH 73 [x.v] st=some (.ret (.int .i64 (grpC x)),st):=by
 rw[run_shut F73 rfl rfl (by simp)]
 have hL0:=fun n=>L73 (g:=st.x.gl) (n:=n) hl _ 0 rfl
 push_cast[Grp.v,grpC]at hL0
 push_cast[Grp.v,grpC,hL0,lpE,lpX,lpI,lpB]
def grpsL (l:List Grp):List Grp→Nat→Int
 |[],_=>0
 |q::r,j=>if grpC q=0 then if 0<j∧q.num≤(l.getD (j-1) default).num then 9 else grpsL l r (j+1) else grpC q
theorem L82 {l:List Grp}(hl:l.length<140737488355328)(hb:∀x∈l,x.chans.length<140737488355328):∀r j,l.drop j=r→runL Tryz.prog HH [0,9,10,11] n B82_0 [(0,.sl (l.map Grp.v)),(9,.sl (l.map Grp.v)),(10,.int .i64 l.length),(11,.int .i64 j)] (stN g n)=lpE (stN g n) [] 2 (grpsL l r j):=by
 refine drop_ind (fun j h=>?_) (fun q r j h hx hd ih=>?_)
 all_goals rw[runL_of B82_0.eq_1]
 ·have h1:¬(j:Int)<l.length:=by omega
  push_cast[h1,grpsL,Grp.v]
 ·have h1:(j:Int)<l.length:=by omega
  have hw:=iw1 (j:=j) (by omega)
  have hq:q.chans.length<140737488355328:=hb q (List.mem_of_mem_drop (hd▸List.mem_cons_self ..))
  push_cast[h1,hw,hx,f136 hq,Grp.v,iwrap_pred (j:=j) (by omega)]at ih ⊢
  simp only[ih,grpsL,lps,Int.reduceEq,not_false_eq_true]
  all_goals ((repeat' split)<;>(try simp_all)<;>(try (with_reducible refine dn_eq ?_ ?_<;>first|trivial|omega|rfl))<;>(try omega))
end Go.Proofs.YtmjkgajnpmiomaaGreatDoor

namespace Go.Proofs.YtmjkgajnpmiomaaGreatDoor
open Go.Sha
set_option maxRecDepth 10000
theorem F98:compF Tryz.prog 98=some ⟨12,[.tmp 4],(.g [.c 4 0] (.join [1] (.join [1,10] (.reg [.m 5 1,.v 6 .eql 5 0,.m 7 6,.my 8 0 7,.y 9 (.un .not (.t 8)) 7,.e 10 7 9]) (.i 10 (.g [.c 4 6] (.ret [4])) .skip)) (.g [.m 11 1,.m 4 11] (.ret [4]))))⟩:=by kernel_rfl
def B230_0:Cd:=(.g [.b 14 .lss 13 12] (.join [0,1,12,13] (.i 14 .skip (.exit [] 0)) (.join [0,1,12,13] (.block 1 (.g [.m 15 13,.m 5 15] (.q (.dreg 9 [.m 16 0,.m 17 5,.r 18 5 16 17,.d 19 5 18,.m 20 1,.m 21 5,.r 22 5 20 21,.d 23 5 22,.s 24 (.eqs true [.i,.i,.i,.i,.i] (.t 19) (.t 23))]) (.i 24 (.g [.k 4 false] (.ret [4])) .skip)))) (.reg [.v 25 .add 13 1,.m 13 25]))))
theorem F230:compF Tryz.prog 230=some ⟨26,[.tmp 4],(.g [.k 4 false] (.join [0,1] (.g [.m 6 0,.u 7 6,.m 8 1,.u 9 8,.b 10 .neq 7 9] (.i 10 (.g [.k 4 false] (.ret [4])) .skip)) (.join [] (.g [.m 11 0,.u 12 11,.c 13 0] (.block 0 (.loop [0,1,12,13] [] B230_0))) (.g [.k 4 true] (.ret [4])))))⟩:=by kernel_rfl
def B231_0:Cd:=(.g [.b 14 .lss 13 12] (.join [0,1,12,13] (.i 14 .skip (.exit [] 0)) (.join [0,1,12,13] (.block 1 (.g [.m 15 13,.m 5 15] (.q (.dreg 9 [.m 16 0,.m 17 5,.r 18 6 16 17,.d 19 6 18,.m 20 1,.m 21 5,.r 22 6 20 21,.d 23 6 22,.s 24 (.eqs true [.i,.i,.i,.i,.i,.i] (.t 19) (.t 23))]) (.i 24 (.g [.k 4 false] (.ret [4])) .skip)))) (.reg [.v 25 .add 13 1,.m 13 25]))))
theorem F231:compF Tryz.prog 231=some ⟨26,[.tmp 4],(.g [.k 4 false] (.join [0,1] (.g [.m 6 0,.u 7 6,.m 8 1,.u 9 8,.b 10 .neq 7 9] (.i 10 (.g [.k 4 false] (.ret [4])) .skip)) (.join [] (.g [.m 11 0,.u 12 11,.c 13 0] (.block 0 (.loop [0,1,12,13] [] B231_0))) (.g [.k 4 true] (.ret [4])))))⟩:=by kernel_rfl
def B45_0:Cd:=(.g [.b 16 .lss 15 14] (.join [1,13,14,15] (.i 16 .skip (.exit [] 0)) (.join [1,13,14,15] (.block 1 (.g [.r 17 2 13 15,.d 18 2 17,.s 4 (.alloc 153 [.nils,.nilf]),.w 2 4 18] (.z [4] (.join [1,13,14,15,31] (.reg [.a 19 0 4,.l 20 19,.a 21 0 1,.l 22 21,.g' 23 91 20 22,.z 24 23,.m 25 24,.ay 26 1 4 25,.ly 27 26 25,.y 28 (.load (some 35) (.t 1)) 25,.y 29 (.call (.t 27) [.t 28]) 25,.y 30 (.un .not (.t 29)) 25,.e 31 25 30]) (.i 31 (.g [.c 2 3] (.ret [2])) .skip))))) (.reg [.v 32 .add 15 1,.m 15 32]))))
theorem F45:compF Tryz.prog 45=some ⟨33,[.tmp 2],(.g [.q 1 57 0,.c 2 0] (.z [1] (.join [1] (.join [1,12] (.reg [.a 5 0 1,.l 6 5,.v 7 .lss 6 0,.m 8 7,.ax 9 0 1 8,.lx 10 9 8,.vx 11 .gtr 10 13 8,.o 12 8 11]) (.i 12 (.g [.c 2 1] (.ret [2])) .skip)) (.join [] (.g [.s 13 (.f 90 []),.u 14 13,.c 15 0] (.block 0 (.loop [1,13,14,15] [] B45_0))) (.g [.c 2 0] (.ret [2]))))))⟩:=by kernel_rfl
theorem F90:compF Tryz.prog 90=some ⟨43,[.tmp 0],(.g [.s 0 (.mv (.c .nils))] (.g [.s 1 (.mv (.c (.fn (.func 143) [] [])))] (.g [.m 2 1,.s 3 (.bslice 3 1 [.i 0,.i 1,.i 2,.i 4,.i 6,.i 8,.i 10,.i 12]),.s 4 (.call (.t 2) [.t 3]),.s 5 (.build [.nils,.nilf] [(0,1,(.t 4)),(1,1,(.c (.fn (.func 144) [] [])))]),.m 6 1,.s 7 (.bslice 3 1 [.i 12]),.s 8 (.call (.t 6) [.t 7]),.s 9 (.build [.nils,.nilf] [(0,1,(.t 8)),(1,1,(.c (.fn (.func 145) [] [])))]),.m 10 1,.s 11 (.bslice 3 1 [.i 2]),.s 12 (.call (.t 10) [.t 11]),.s 13 (.build [.nils,.nilf] [(0,1,(.t 12)),(1,1,(.c (.fn (.func 146) [] [])))]),.m 14 1,.s 15 (.bslice 3 1 [.i 1,.i 13]),.s 16 (.call (.t 14) [.t 15]),.s 17 (.build [.nils,.nilf] [(0,1,(.t 16)),(1,1,(.c (.fn (.func 147) [] [])))]),.m 18 1,.s 19 (.bslice 3 1 [.i 0]),.s 20 (.call (.t 18) [.t 19]),.s 21 (.build [.nils,.nilf] [(0,1,(.t 20)),(1,1,(.c (.fn (.func 148) [] [])))]),.m 22 1,.s 23 (.bslice 3 1 [.i 3]),.s 24 (.call (.t 22) [.t 23]),.s 25 (.build [.nils,.nilf] [(0,1,(.t 24)),(1,1,(.c (.fn (.func 150) [] [])))]),.m 26 1,.s 27 (.bslice 3 1 [.i 5]),.s 28 (.call (.t 26) [.t 27]),.s 29 (.build [.nils,.nilf] [(0,1,(.t 28)),(1,1,(.c (.fn (.func 151) [] [])))]),.m 30 1,.s 31 (.bslice 3 1 [.i 7]),.s 32 (.call (.t 30) [.t 31]),.s 33 (.build [.nils,.nilf] [(0,1,(.t 32)),(1,1,(.c (.fn (.func 152) [] [])))]),.m 34 1,.s 35 (.bslice 3 1 [.i 9]),.s 36 (.call (.t 34) [.t 35]),.s 37 (.build [.nils,.nilf] [(0,1,(.t 36)),(1,1,(.c (.fn (.func 153) [] [])))]),.m 38 1,.s 39 (.bslice 3 1 [.i 11]),.s 40 (.call (.t 38) [.t 39]),.s 41 (.build [.nils,.nilf] [(0,1,(.t 40)),(1,1,(.c (.fn (.func 154) [] [])))]),.s 42 (.bslice 153 2 [.t 5,.t 9,.t 13,.t 17,.t 21,.t 25,.t 29,.t 33,.t 37,.t 41]),.m 0 42] (.ret [0]))))⟩:=by kernel_rfl
theorem F22:compF Tryz.prog 22=some ⟨72,[.cell 4 (some 9),.tmp 5],(.g [.q 2 31 0,.q 3 57 1,.s 4 (.alloc 31 [(.str []),.nils,.nils,.nils,.nils,.nils,.nils,.nils,.nils]),.c 5 0] (.z [2,3] (.join [2,3,4] (.g [.d 11 35 3,.f 12 45 11,.m 6 12] (.g [.m 13 6,.v 14 .neq 13 0] (.i 14 (.g [.s 15 (.build [(.str []),.nils,.nils,.nils,.nils,.nils,.nils,.nils,.nils] []),.m 16 6,.w 9 4 15,.m 5 16] (.ret [4,5])) .skip))) (.g [.d 17 9 2,.d 18 35 3,.s 19 (.build [(.str []),.nils,.nils,.nils,.nils,.nils,.nils,.nils,.nils,.i 0,.i 0,.i 0,.i 0,(.str []),(.str []),(.str []),.nils,.nils,(.bool false),(.bool false),.i 0,(.str []),.i 0,.i 0,.nils,.i 0,.nils,.i 0,.i 0,(.bool false),.nils,.i 0,.i 0,.nils,.i 0,.i 0,.i 0,.i 0,.i 0,(.str []),.i 0,.i 0,.i 0,(.str [])] [(0,9,(.t 17)),(9,35,(.t 18))]),.q 20 118 19,.m 7 20] (.g [.m 21 7,.s 22 (.mkfn (.func 46) [.t 21] []),.m 23 7,.s 24 (.mkfn (.func 47) [.t 23] []),.m 25 7,.s 26 (.mkfn (.func 48) [.t 25] []),.m 27 7,.s 28 (.mkfn (.func 49) [.t 27] []),.m 29 7,.s 30 (.mkfn (.func 50) [.t 29] []),.m 31 7,.s 32 (.mkfn (.func 51) [.t 31] []),.m 33 7,.s 34 (.mkfn (.func 52) [.t 33] []),.m 35 7,.s 36 (.mkfn (.func 53) [.t 35] []),.m 37 7,.s 38 (.mkfn (.func 54) [.t 37] []),.m 39 7,.s 40 (.mkfn (.func 55) [.t 39] []),.m 41 7,.s 42 (.mkfn (.func 56) [.t 41] []),.m 43 7,.s 44 (.mkfn (.func 57) [.t 43] []),.m 45 7,.s 46 (.mkfn (.func 58) [.t 45] []),.m 47 7,.s 48 (.mkfn (.func 59) [.t 47] []),.s 49 (.build [.nilf,.nilf,.nilf,.nilf,.nilf,.nilf,.nilf,.nilf,.nilf,.nilf,.nilf,.nilf,.nilf,.nilf] [(0,1,(.t 22)),(1,1,(.t 24)),(2,1,(.t 26)),(3,1,(.t 28)),(4,1,(.t 30)),(5,1,(.t 32)),(6,1,(.t 34)),(7,1,(.t 36)),(8,1,(.t 38)),(9,1,(.t 40)),(10,1,(.t 42)),(11,1,(.t 44)),(12,1,(.t 46)),(13,1,(.t 48))]),.s 8 (.alloc 120 [.nilf,.nilf,.nilf,.nilf,.nilf,.nilf,.nilf,.nilf,.nilf,.nilf,.nilf,.nilf,.nilf,.nilf]),.w 14 8 49] (.z [8] (.join [4,7] (.g [.a 50 0 3,.l 51 50,.s 52 (.iadra 14 1 (.t 8) (.t 51)),.l 53 52,.s 54 (.call (.t 53) []),.m 9 54] (.g [.m 55 9,.v 56 .neq 55 0] (.i 56 (.g [.s 57 (.build [(.str []),.nils,.nils,.nils,.nils,.nils,.nils,.nils,.nils] []),.m 58 9,.w 9 4 57,.m 5 58] (.ret [4,5])) .skip))) (.join [4,7] (.g [.m 59 7,.s 60 (.k 59),.a 61 0 60,.d 62 9 61,.f 63 21 62,.m 10 63] (.g [.m 64 10,.v 65 .neq 64 0] (.i 65 (.g [.s 66 (.build [(.str []),.nils,.nils,.nils,.nils,.nils,.nils,.nils,.nils] []),.m 67 10,.w 9 4 66,.m 5 67] (.ret [4,5])) .skip))) (.g [.m 68 7,.s 69 (.k 68),.a 70 0 69,.d 71 9 70,.w 9 4 71,.c 5 0] (.ret [4,5]))))))))))⟩:=by kernel_rfl
theorem F19:compF Tryz.prog 19=some ⟨18,[.cell 4 (some 9),.tmp 5],(.g [.q 2 31 0,.q 3 57 1,.s 4 (.alloc 31 [(.str []),.nils,.nils,.nils,.nils,.nils,.nils,.nils,.nils]),.c 5 0] (.z [2,3] (.join [2,3,4] (.g [.d 7 9 2,.f 8 21 7,.m 6 8] (.g [.m 9 6,.v 10 .neq 9 0] (.i 10 (.g [.s 11 (.build [(.str []),.nils,.nils,.nils,.nils,.nils,.nils,.nils,.nils] []),.m 12 6,.w 9 4 11,.m 5 12] (.ret [4,5])) .skip))) (.g [.d 13 9 2,.d 14 35 3,.g' 15 22 13 14,.j 16 0 15,.j 17 1 15,.w 9 4 16,.m 5 17] (.ret [4,5])))))⟩:=by kernel_rfl
theorem F7:compF Tryz.prog 7=some ⟨35,[.cell 4 (some 11),.tmp 5],(.g [.q 2 37 0,.q 3 57 1,.s 4 (.alloc 37 [.nils,(.str []),.nils,.nils,.nils,.nils,.nils,.nils,.nils,.nils,.nils]),.c 5 0] (.z [2,3] (.g [.a 10 1 2,.d 11 9 10,.d 12 35 3,.g' 13 19 11 12,.m 9 13,.j 14 0 9,.j 15 1 9,.s 6 (.alloc 31 [(.str []),.nils,.nils,.nils,.nils,.nils,.nils,.nils,.nils]),.w 9 6 14,.m 7 15] (.z [6] (.join [2,4,6] (.g [.m 16 7,.v 17 .neq 16 0] (.i 17 (.g [.s 18 (.build [.nils,(.str []),.nils,.nils,.nils,.nils,.nils,.nils,.nils,.nils,.nils] []),.m 19 7,.w 11 4 18,.m 5 19] (.ret [4,5])) .skip)) (.g [.a 21 0 2,.l 22 21,.a 23 1 2,.d 24 9 23,.g' 25 20 22 24,.m 20 25,.j 26 0 20,.j 27 1 20,.m 8 26,.m 7 27] (.join [4,6,8] (.g [.m 28 7,.v 29 .neq 28 0] (.i 29 (.g [.s 30 (.build [.nils,(.str []),.nils,.nils,.nils,.nils,.nils,.nils,.nils,.nils,.nils] []),.m 31 7,.w 11 4 30,.m 5 31] (.ret [4,5])) .skip)) (.g [.m 32 8,.d 33 9 6,.s 34 (.build [.nils,(.str []),.nils,.nils,.nils,.nils,.nils,.nils,.nils,.nils,.nils] [(0,1,(.t 32)),(1,9,(.t 33))]),.w 11 4 34,.c 5 0] (.ret [4,5])))))))))⟩:=by kernel_rfl
theorem F11:compF Tryz.prog 11=some ⟨35,[.cell 2 (some 11),.tmp 3],(.g [.q 1 37 0,.s 2 (.alloc 37 [.nils,(.str []),.nils,.nils,.nils,.nils,.nils,.nils,.nils,.nils,.nils]),.c 3 0] (.z [1] (.g [.a 9 10 1,.l 10 9,.f 11 31 10,.m 8 11,.j 12 0 8,.j 13 1 8,.j 14 2 8,.s 5 (.alloc 31 [(.str []),.nils,.nils,.nils,.nils,.nils,.nils,.nils,.nils]),.m 4 12,.w 9 5 13,.m 6 14] (.z [5] (.join [1,2,4,5] (.g [.m 15 6,.v 16 .neq 15 0] (.i 16 (.g [.s 17 (.build [.nils,(.str []),.nils,.nils,.nils,.nils,.nils,.nils,.nils,.nils,.nils] []),.m 18 6,.w 11 2 17,.m 3 18] (.ret [2,3])) .skip)) (.g [.a 20 0 1,.l 21 20,.a 22 1 1,.d 23 9 22,.g' 24 20 21 23,.m 19 24,.j 25 0 19,.j 26 1 19,.m 7 25,.m 6 26] (.join [2,4,5,7] (.g [.m 27 6,.v 28 .neq 27 0] (.i 28 (.g [.s 29 (.build [.nils,(.str []),.nils,.nils,.nils,.nils,.nils,.nils,.nils,.nils,.nils] []),.m 30 6,.w 11 2 29,.m 3 30] (.ret [2,3])) .skip)) (.g [.m 31 7,.d 32 9 5,.m 33 4,.s 34 (.build [.nils,(.str []),.nils,.nils,.nils,.nils,.nils,.nils,.nils,.nils,.nils] [(0,1,(.t 31)),(1,9,(.t 32)),(10,1,(.t 33))]),.w 11 2 34,.c 3 0] (.ret [2,3])))))))))⟩:=by kernel_rfl
theorem F10:compF Tryz.prog 10=some ⟨35,[.cell 2 (some 11),.tmp 3],(.g [.q 1 37 0,.s 2 (.alloc 37 [.nils,(.str []),.nils,.nils,.nils,.nils,.nils,.nils,.nils,.nils,.nils]),.c 3 0] (.z [1] (.g [.a 9 0 1,.l 10 9,.f 11 31 10,.m 8 11,.j 12 0 8,.j 13 1 8,.j 14 2 8,.s 5 (.alloc 31 [(.str []),.nils,.nils,.nils,.nils,.nils,.nils,.nils,.nils]),.m 4 12,.w 9 5 13,.m 6 14] (.z [5] (.join [1,2,4,5] (.g [.m 15 6,.v 16 .neq 15 0] (.i 16 (.g [.s 17 (.build [.nils,(.str []),.nils,.nils,.nils,.nils,.nils,.nils,.nils,.nils,.nils] []),.m 18 6,.w 11 2 17,.m 3 18] (.ret [2,3])) .skip)) (.g [.a 20 10 1,.l 21 20,.a 22 1 1,.d 23 9 22,.g' 24 20 21 23,.m 19 24,.j 25 0 19,.j 26 1 19,.m 7 25,.m 6 26] (.join [2,4,5,7] (.g [.m 27 6,.v 28 .neq 27 0] (.i 28 (.g [.s 29 (.build [.nils,(.str []),.nils,.nils,.nils,.nils,.nils,.nils,.nils,.nils,.nils] []),.m 30 6,.w 11 2 29,.m 3 30] (.ret [2,3])) .skip)) (.g [.m 31 4,.d 32 9 5,.m 33 7,.s 34 (.build [.nils,(.str []),.nils,.nils,.nils,.nils,.nils,.nils,.nils,.nils,.nils] [(0,1,(.t 31)),(1,9,(.t 32)),(10,1,(.t 33))]),.w 11 2 34,.c 3 0] (.ret [2,3])))))))))⟩:=by kernel_rfl
theorem F20:compF Tryz.prog 20=some ⟨14,[.tmp 4,.tmp 5],(.g [.q 3 31 1,.s 4 (.mv (.c .nils)),.c 5 0] (.z [3] (.join [0,3] (.g [.m 6 0,.u 7 6,.v 8 .geq 7 256] (.i 8 (.g [.s 4 (.mv (.c .nils)),.c 5 5] (.ret [4,5])) .skip)) (.join [4,5] (.greg [10,10] [12] [[],[false],[true],[true],[false,false,false,false],[],[]] [.m 9 0,.f 10 43 9,.d 11 9 3,.s 12 (.bslice 31 9 [.t 11]),.s 13 (.append 31 9 208 (.t 10) (.t 12)),.m 4 13,.c 5 0]) (.ret [4,5])))))⟩:=by kernel_rfl
theorem F31:compF Tryz.prog 31=some ⟨21,[.tmp 2,.cell 3 (some 9),.tmp 4],(.g [.s 2 (.mv (.c .nils)),.s 3 (.alloc 31 [(.str []),.nils,.nils,.nils,.nils,.nils,.nils,.nils,.nils]),.c 4 0] (.join [0,3] (.g [.m 5 0,.u 6 5,.v 7 .eql 6 0] (.i 7 (.g [.s 8 (.build [(.str []),.nils,.nils,.nils,.nils,.nils,.nils,.nils,.nils] []),.s 2 (.mv (.c .nils)),.w 9 3 8,.c 4 12] (.ret [2,3,4])) .skip)) (.join [2,3,4] (.greg [14] [] [[],[],[],[],[],[false,false,false,false,false],[true],[true],[true],[true],[true],[true],[],[false,false,false,false,false,false,false,false,false,false,false,false,false],[]] [.m 9 0,.m 10 0,.u 11 10,.v 12 .sub 11 1,.s 13 (.slice 9 (.t 9) none (some (.t 12)) none),.f 14 43 13,.m 15 0,.m 16 0,.u 17 16,.v 18 .sub 17 1,.r 19 9 15 18,.d 20 9 19,.m 2 14,.w 9 3 20,.c 4 0]) (.ret [2,3,4]))))⟩:=by kernel_rfl
theorem F92:compF Tryz.prog 92=some ⟨58,[.tmp 4],(.g [.c 4 0] (.q (.dreg 15 [.m 9 0,.s 10 (.k 9),.a 11 0 10,.d 12 9 11,.m 13 0,.s 14 (.k 13),.a 15 9 14,.a 16 1 15,.l 17 16,.g' 18 156 12 17,.m 8 18,.j 19 0 8,.j 20 1 8,.m 5 19,.m 6 20]) (.join [0,1,5] (.g [.m 21 6,.v 22 .neq 21 0] (.i 22 (.g [.m 23 6,.m 4 23] (.ret [4])) .skip)) (.g [.m 25 1,.m 26 0,.s 27 (.k 26),.a 28 0 27,.a 29 6 28,.l 30 29,.m 31 5,.r 32 3 30 31,.d 33 3 32,.s 34 (.call (.t 25) [.t 33]),.m 24 34,.j 35 0 24,.j 36 1 24,.s 7 (.alloc 98 [.i 0,.i 0,.nils]),.w 3 7 35,.m 6 36] (.z [7] (.join [0,5,7] (.g [.m 37 6,.v 38 .neq 37 0] (.i 38 (.g [.m 39 6,.m 4 39] (.ret [4])) .skip)) (.g [.m 40 0,.m 41 0,.s 42 (.k 41),.a 43 0 42,.a 44 6 43,.l 45 44,.f 46 102 45,.s 47 (.k 40),.a 48 0 47,.a 49 6 48,.w 1 49 46] (.q (.dreg 8 [.m 50 0,.s 51 (.k 50),.a 52 0 51,.a 53 6 52,.l 54 53,.m 55 5,.d 56 3 7,.r 57 3 54 55,.w 3 57 56]) (.g [.c 4 0] (.ret [4]))))))))))⟩:=by kernel_rfl
theorem F46:compF Tryz.prog 46=some ⟨6,[.tmp 2],(.g [.q 1 116 0,.c 2 0] (.z [1] (.g [.l 3 1,.s 4 (.mkfn (.func 93) [] [.t 1]),.g' 5 92 3 4,.m 2 5] (.ret [2]))))⟩:=by kernel_rfl
theorem F47:compF Tryz.prog 47=some ⟨6,[.tmp 2],(.g [.q 1 116 0,.c 2 0] (.z [1] (.g [.l 3 1,.s 4 (.mkfn (.func 95) [] [.t 1]),.g' 5 92 3 4,.m 2 5] (.ret [2]))))⟩:=by kernel_rfl
theorem F48:compF Tryz.prog 48=some ⟨62,[.tmp 2],(.g [.c 2 0] (.q (.dreg 16 [.m 6 0,.s 7 (.k 6),.a 8 0 7,.a 9 6 8,.l 10 9,.m 11 0,.s 12 (.k 11),.a 13 9 12,.a 14 1 13,.l 15 14,.s 16 (.f 99 [.t 10,.t 15,(.c (.fn (.func 100) [] []))]),.m 5 16,.j 17 0 5,.j 18 1 5,.m 3 17,.m 4 18]) (.g [.m 19 0,.m 20 0,.s 21 (.k 20),.a 22 0 21,.a 23 6 22,.l 24 23,.f 25 102 24,.s 26 (.k 19),.a 27 0 26,.a 28 6 27,.w 1 28 25] (.join [0,3] (.g [.m 29 4,.z 30 29] (.i 30 (.greg [45] [] [[],[],[],[],[],[],[],[],[],[],[],[],[],[false,false,false,false,false,false,true,true,true,true,true,true,true],[false,false,false,false,false,false,false,false,false,false,false,false,false,true],[],[],[],[false,false,false,false,false,false,false,false,false,false,false,false,false,false,false,false,false,false]] [.m 31 0,.m 32 0,.s 33 (.k 32),.a 34 0 33,.a 35 6 34,.l 36 35,.m 37 3,.m 38 0,.s 39 (.k 38),.a 40 9 39,.a 41 1 40,.l 42 41,.s 43 (.build [.i 0,.i 0,.nils] [(0,1,(.t 42))]),.s 44 (.bslice 98 3 [.t 43]),.s 45 (.f 103 [.t 36,.t 37,.t 44]),.s 46 (.k 31),.a 47 0 46,.a 48 6 47,.w 1 48 45]) .skip)) (.join [] (.greg [] [] [[],[],[],[],[],[],[],[],[],[],[],[],[],[false,false,false,false,false,false,false,false,false,false,false,false,false]] [.m 49 0,.s 50 (.k 49),.a 51 0 50,.a 52 6 51,.l 53 52,.m 54 3,.m 55 0,.s 56 (.k 55),.a 57 9 56,.a 58 3 57,.l 59 58,.r 60 3 53 54,.a 61 1 60,.w 1 61 59]) (.g [.c 2 0] (.ret [2])))))))⟩:=by kernel_rfl
theorem F49:compF Tryz.prog 49=some ⟨22,[.tmp 2],(.g [.c 2 0] (.join [2] (.greg [] [] [[],[],[],[],[],[],[],[],[],[],[],[],[],[],[],[],[],[],[false,false,false,true,false,false,false,false,false,false,false,false,false,false,false,false,false,false],[]] [.m 4 0,.m 5 0,.s 6 (.k 5),.a 7 0 6,.a 8 5 7,.l 9 8,.m 10 0,.s 11 (.k 10),.a 12 9 11,.a 13 14 12,.d 14 2 13,.g' 15 104 9 14,.m 3 15,.j 16 0 3,.j 17 1 3,.s 18 (.k 4),.a 19 0 18,.a 20 5 19,.w 1 20 16,.m 2 17]) (.g [.m 21 2,.m 2 21] (.ret [2]))))⟩:=by kernel_rfl
theorem F50:compF Tryz.prog 50=some ⟨29,[.tmp 2],(.g [.c 2 0] (.q (.dreg 18 [.m 7 0,.s 8 (.k 7),.a 9 0 8,.a 10 5 9,.l 11 10,.m 12 0,.s 13 (.k 12),.a 14 9 13,.a 15 1 14,.l 16 15,.g' 17 105 11 16,.m 6 17,.j 18 0 6,.j 19 1 6,.j 20 2 6,.m 3 18,.m 4 19,.m 5 20]) (.g [.m 21 0,.m 22 3,.s 23 (.k 21),.a 24 0 23,.a 25 5 24,.w 1 25 22] (.g [.m 26 4,.m 27 5,.g' 28 98 26 27,.m 2 28] (.ret [2])))))⟩:=by kernel_rfl
theorem F51:compF Tryz.prog 51=some ⟨22,[.tmp 2],(.g [.c 2 0] (.join [2] (.greg [] [] [[],[],[],[],[],[],[],[],[],[],[],[],[],[],[],[],[],[],[false,false,false,true,false,false,false,false,false,false,false,false,false,false,false,false,false,false],[]] [.m 4 0,.m 5 0,.s 6 (.k 5),.a 7 0 6,.a 8 4 7,.l 9 8,.m 10 0,.s 11 (.k 10),.a 12 9 11,.a 13 16 12,.d 14 2 13,.g' 15 106 9 14,.m 3 15,.j 16 0 3,.j 17 1 3,.s 18 (.k 4),.a 19 0 18,.a 20 4 19,.w 1 20 16,.m 2 17]) (.g [.m 21 2,.m 2 21] (.ret [2]))))⟩:=by kernel_rfl
theorem F52:compF Tryz.prog 52=some ⟨22,[.tmp 2],(.g [.c 2 0] (.join [2] (.greg [] [] [[],[],[],[],[],[],[],[],[],[],[],[],[],[],[],[],[],[],[false,false,false,true,false,false,false,false,false,false,false,false,false,false,false,false,false,false],[]] [.m 4 0,.m 5 0,.s 6 (.k 5),.a 7 0 6,.a 8 4 7,.l 9 8,.m 10 0,.s 11 (.k 10),.a 12 9 11,.a 13 1 12,.l 14 13,.g' 15 107 9 14,.m 3 15,.j 16 0 3,.j 17 1 3,.s 18 (.k 4),.a 19 0 18,.a 20 4 19,.w 1 20 16,.m 2 17]) (.g [.m 21 2,.m 2 21] (.ret [2]))))⟩:=by kernel_rfl
theorem F53:compF Tryz.prog 53=some ⟨22,[.tmp 2],(.g [.c 2 0] (.join [2] (.greg [] [] [[],[],[],[],[],[],[],[],[],[],[],[],[],[],[],[],[],[],[false,false,false,true,false,false,false,false,false,false,false,false,false,false,false,false,false,false],[]] [.m 4 0,.m 5 0,.s 6 (.k 5),.a 7 0 6,.a 8 7 7,.l 9 8,.m 10 0,.s 11 (.k 10),.a 12 9 11,.a 13 18 12,.d 14 4 13,.g' 15 108 9 14,.m 3 15,.j 16 0 3,.j 17 1 3,.s 18 (.k 4),.a 19 0 18,.a 20 7 19,.w 1 20 16,.m 2 17]) (.g [.m 21 2,.m 2 21] (.ret [2]))))⟩:=by kernel_rfl
theorem F54:compF Tryz.prog 54=some ⟨22,[.tmp 2],(.g [.c 2 0] (.join [2] (.greg [] [] [[],[],[],[],[],[],[],[],[],[],[],[],[],[],[],[],[],[],[false,false,false,true,false,false,false,false,false,false,false,false,false,false,false,false,false,false],[]] [.m 4 0,.m 5 0,.s 6 (.k 5),.a 7 0 6,.a 8 7 7,.l 9 8,.m 10 0,.s 11 (.k 10),.a 12 9 11,.a 13 1 12,.l 14 13,.g' 15 109 9 14,.m 3 15,.j 16 0 3,.j 17 1 3,.s 18 (.k 4),.a 19 0 18,.a 20 7 19,.w 1 20 16,.m 2 17]) (.g [.m 21 2,.m 2 21] (.ret [2]))))⟩:=by kernel_rfl
theorem F55:compF Tryz.prog 55=some ⟨60,[.tmp 2],(.g [.c 2 0] (.q (.dreg 17 [.m 6 0,.s 7 (.k 6),.a 8 0 7,.a 9 8 8,.l 10 9,.m 11 0,.s 12 (.k 11),.a 13 9 12,.a 14 22 13,.a 15 0 14,.l 16 15,.s 17 (.f 110 [.t 10,.t 16,(.c (.fn (.func 111) [] []))]),.m 5 17,.j 18 0 5,.j 19 1 5,.m 3 18,.m 4 19]) (.g [.m 20 0,.m 21 0,.s 22 (.k 21),.a 23 0 22,.a 24 8 23,.l 25 24,.f 26 112 25,.s 27 (.k 20),.a 28 0 27,.a 29 8 28,.w 1 29 26] (.join [] (.g [.m 30 4] (.i 30 (.dreg 12 [.m 31 0,.s 32 (.k 31),.a 33 0 32,.a 34 8 33,.l 35 34,.m 36 3,.m 37 0,.s 38 (.k 37),.a 39 9 38,.a 40 22 39,.d 41 6 40,.r 42 6 35 36,.w 6 42 41]) (.greg [56] [] [[],[],[],[],[],[],[],[],[],[],[],[],[false,false,false,false,false,true,true,true,true,true,true,true],[false,false,false,false,false,false,false,false,false,false,false,false,true],[],[],[],[false,false,false,false,false,false,false,false,false,false,false,false,false,false,false,false,false]] [.m 43 0,.m 44 0,.s 45 (.k 44),.a 46 0 45,.a 47 8 46,.l 48 47,.m 49 3,.m 50 0,.s 51 (.k 50),.a 52 9 51,.a 53 22 52,.d 54 6 53,.s 55 (.bslice 53 6 [.t 54]),.s 56 (.f 113 [.t 48,.t 49,.t 55]),.s 57 (.k 43),.a 58 0 57,.a 59 8 58,.w 1 59 56]))) (.g [.c 2 0] (.ret [2]))))))⟩:=by kernel_rfl
theorem F56:compF Tryz.prog 56=some ⟨44,[.tmp 2],(.g [.c 2 0] (.q (.dreg 18 [.m 7 0,.s 8 (.k 7),.a 9 0 8,.a 10 8 9,.l 11 10,.m 12 0,.s 13 (.k 12),.a 14 9 13,.a 15 1 14,.l 16 15,.g' 17 114 11 16,.m 6 17,.j 18 0 6,.j 19 1 6,.j 20 2 6,.m 3 18,.m 4 19,.m 5 20]) (.join [0,3] (.join [0,3,4,5,26] (.reg [.m 21 5,.v 22 .neq 21 0,.m 23 22,.mx 24 4 23,.x 25 (.un .not (.t 24)) 23,.o 26 23 25]) (.i 26 (.g [.m 27 4,.m 28 5,.g' 29 98 27 28,.m 2 29] (.ret [2])) .skip)) (.g [.m 30 0,.m 31 0,.s 32 (.k 31),.a 33 0 32,.a 34 8 33,.l 35 34,.f 36 112 35,.m 37 3,.m 38 3,.v 39 .add 38 1,.s 40 (.f 115 [.t 36,.t 37,.t 39]),.s 41 (.k 30),.a 42 0 41,.a 43 8 42,.w 1 43 40] (.g [.c 2 0] (.ret [2]))))))⟩:=by kernel_rfl
theorem F57:compF Tryz.prog 57=some ⟨27,[.tmp 2],(.g [.c 2 0] (.join [2] (.greg [] [] [[],[],[],[],[],[],[],[],[],[],[],[],[],[],[],[],[],[],[],[],[],[],[],[false,false,false,true,false,false,false,false,false,false,false,false,false,false,false,false,false,false,false,false,false,false,false],[]] [.m 4 0,.m 5 0,.s 6 (.k 5),.a 7 0 6,.a 8 3 7,.l 9 8,.m 10 0,.s 11 (.k 10),.a 12 0 11,.a 13 2 12,.l 14 13,.m 15 0,.s 16 (.k 15),.a 17 9 16,.a 18 28 17,.d 19 7 18,.s 20 (.f 116 [.t 9,.t 14,.t 19]),.m 3 20,.j 21 0 3,.j 22 1 3,.s 23 (.k 4),.a 24 0 23,.a 25 3 24,.w 1 25 21,.m 2 22]) (.g [.m 26 2,.m 2 26] (.ret [2]))))⟩:=by kernel_rfl
theorem F58:compF Tryz.prog 58=some ⟨39,[.tmp 2],(.g [.c 2 0] (.q (.dreg 28 [.m 7 0,.s 8 (.k 7),.a 9 0 8,.a 10 3 9,.l 11 10,.m 12 0,.s 13 (.k 12),.a 14 0 13,.a 15 2 14,.l 16 15,.m 17 0,.s 18 (.k 17),.a 19 9 18,.a 20 2 19,.l 21 20,.m 22 0,.s 23 (.k 22),.a 24 9 23,.a 25 1 24,.l 26 25,.s 27 (.f 117 [.t 11,.t 16,.t 21,.t 26]),.m 6 27,.j 28 0 6,.j 29 1 6,.j 30 2 6,.m 3 28,.m 4 29,.m 5 30]) (.g [.m 31 0,.m 32 3,.s 33 (.k 31),.a 34 0 33,.a 35 3 34,.w 1 35 32] (.g [.m 36 4,.m 37 5,.g' 38 98 36 37,.m 2 38] (.ret [2])))))⟩:=by kernel_rfl
theorem F59:compF Tryz.prog 59=some ⟨12,[.tmp 2],(.g [.c 2 0] (.g [.m 3 0,.m 4 0,.s 5 (.k 4),.a 6 9 5,.a 7 4 6,.l 8 7,.s 9 (.k 3),.a 10 0 9,.a 11 0 10,.w 1 11 8] (.g [.c 2 0] (.ret [2]))))⟩:=by kernel_rfl
theorem F143:compF Tryz.prog 143=some ⟨4,[.tmp 2],(.g [.s 2 (.mv (.c .nils))] (.g [.m 3 0,.m 2 3] (.ret [2])))⟩:=by kernel_rfl
theorem F144:compF Tryz.prog 144=some ⟨6,[.tmp 2],(.g [.q 1 57 0,.k 2 false] (.z [1] (.g [.a 3 1 1,.l 4 3,.v 5 .eql 4 0,.m 2 5] (.ret [2]))))⟩:=by kernel_rfl
theorem F145:compF Tryz.prog 145=some ⟨6,[.tmp 2],(.g [.q 1 57 0,.k 2 false] (.z [1] (.g [.a 3 2 1,.l 4 3,.v 5 .eql 4 0,.m 2 5] (.ret [2]))))⟩:=by kernel_rfl
theorem F146:compF Tryz.prog 146=some ⟨6,[.tmp 2],(.g [.q 1 57 0,.k 2 false] (.z [1] (.g [.a 3 3 1,.l 4 3,.v 5 .eql 4 0,.m 2 5] (.ret [2]))))⟩:=by kernel_rfl
theorem F147:compF Tryz.prog 147=some ⟨6,[.tmp 2],(.g [.q 1 57 0,.k 2 false] (.z [1] (.g [.a 3 4 1,.l 4 3,.s 5 (.bin .eql (.t 4) (.w [])),.m 2 5] (.ret [2]))))⟩:=by kernel_rfl
theorem F148:compF Tryz.prog 148=some ⟨7,[.tmp 2],(.g [.q 1 57 0,.k 2 false] (.z [1] (.g [.a 3 5 1,.d 4 9 3,.s 5 (.build [(.str []),(.str []),.nils,.nils,(.bool false),(.bool false),.i 0,(.str []),.i 0] []),.g' 6 149 4 5,.m 2 6] (.ret [2]))))⟩:=by kernel_rfl
theorem F149:compF Tryz.prog 149=some ⟨66,[.tmp 4],(.g [.q 2 41 0,.q 3 41 1,.k 4 false] (.z [2,3] (.join [2,3] (.join [2,3,18] (.reg [.a 5 2 2,.l 6 5,.a 7 2 3,.l 8 7,.g' 9 230 6 8,.z 10 9,.m 11 10,.ax 12 3 2 11,.lx 13 12 11,.ax 14 3 3 11,.lx 15 14 11,.x 16 (.f 231 [.t 13,.t 15]) 11,.x 17 (.un .not (.t 16)) 11,.o 18 11 17]) (.i 18 (.g [.k 4 false] (.ret [4])) .skip)) (.join [4] (.reg [.a 19 0 2,.l 20 19,.a 21 0 3,.l 22 21,.b 23 .eql 20 22,.m 24 23,.ay 25 1 2 24,.ly 26 25 24,.ay 27 1 3 24,.ly 28 27 24,.by' 29 .eql 26 28 24,.e 30 24 29,.m 31 30,.ay 32 4 2 31,.ly 33 32 31,.ay 34 4 3 31,.ly 35 34 31,.y 36 (.eqb false (.t 33) (.t 35)) 31,.e 37 31 36,.m 38 37,.ay 39 5 2 38,.ly 40 39 38,.ay 41 5 3 38,.ly 42 41 38,.y 43 (.eqb false (.t 40) (.t 42)) 38,.e 44 38 43,.m 45 44,.ay 46 6 2 45,.ly 47 46 45,.ay 48 6 3 45,.ly 49 48 45,.by' 50 .eql 47 49 45,.e 51 45 50,.m 52 51,.ay 53 7 2 52,.ly 54 53 52,.ay 55 7 3 52,.ly 56 55 52,.by' 57 .eql 54 56 52,.e 58 52 57,.m 59 58,.ay 60 8 2 59,.ly 61 60 59,.ay 62 8 3 59,.ly 63 62 59,.by' 64 .eql 61 63 59,.e 65 59 64,.m 4 65]) (.ret [4])))))⟩:=by kernel_rfl
theorem F150:compF Tryz.prog 150=some ⟨14,[.tmp 2],(.g [.q 1 57 0,.k 2 false] (.z [1] (.join [2] (.reg [.a 3 14 1,.a 4 0 3,.l 5 4,.v 6 .eql 5 0,.m 7 6,.ay 8 14 1 7,.ay 9 1 8 7,.ly 10 9 7,.y 11 (.len (.t 10)) 7,.vy 12 .eql 11 0 7,.e 13 7 12,.m 2 13]) (.ret [2]))))⟩:=by kernel_rfl
theorem F151:compF Tryz.prog 151=some ⟨14,[.tmp 2],(.g [.q 1 57 0,.k 2 false] (.z [1] (.join [2] (.reg [.a 3 16 1,.a 4 0 3,.l 5 4,.v 6 .eql 5 0,.m 7 6,.ay 8 16 1 7,.ay 9 1 8 7,.ly 10 9 7,.y 11 (.len (.t 10)) 7,.vy 12 .eql 11 0 7,.e 13 7 12,.m 2 13]) (.ret [2]))))⟩:=by kernel_rfl
theorem F152:compF Tryz.prog 152=some ⟨25,[.tmp 2],(.g [.q 1 57 0,.k 2 false] (.z [1] (.g [.a 4 18 1,.d 5 4 4,.s 3 (.alloc 50 [.i 0,.i 0,(.bool false),.nils]),.w 4 3 5] (.z [3] (.join [2] (.reg [.a 6 0 3,.l 7 6,.v 8 .eql 7 0,.m 9 8,.ay 10 1 3 9,.ly 11 10 9,.vy 12 .eql 11 0 9,.e 13 9 12,.m 14 13,.ay 15 2 3 14,.ly 16 15 14,.y 17 (.un .not (.t 16)) 14,.e 18 14 17,.m 19 18,.ay 20 3 3 19,.ly 21 20 19,.y 22 (.len (.t 21)) 19,.vy 23 .eql 22 0 19,.e 24 19 23,.m 2 24]) (.ret [2]))))))⟩:=by kernel_rfl
theorem F153:compF Tryz.prog 153=some ⟨35,[.tmp 2],(.g [.q 1 57 0,.k 2 false] (.z [1] (.g [.a 4 22 1,.d 5 6 4,.s 3 (.alloc 53 [.i 0,.i 0,.nils,.i 0,.i 0,.i 0]),.w 6 3 5] (.z [3] (.join [2] (.reg [.a 6 0 3,.l 7 6,.v 8 .eql 7 0,.m 9 8,.ay 10 1 3 9,.ly 11 10 9,.vy 12 .eql 11 0 9,.e 13 9 12,.m 14 13,.ay 15 2 3 14,.ly 16 15 14,.y 17 (.len (.t 16)) 14,.vy 18 .eql 17 0 14,.e 19 14 18,.m 20 19,.ay 21 3 3 20,.ly 22 21 20,.vy 23 .eql 22 0 20,.e 24 20 23,.m 25 24,.ay 26 4 3 25,.ly 27 26 25,.vy 28 .eql 27 0 25,.e 29 25 28,.m 30 29,.ay 31 5 3 30,.ly 32 31 30,.vy 33 .eql 32 0 30,.e 34 30 33,.m 2 34]) (.ret [2]))))))⟩:=by kernel_rfl
theorem F154:compF Tryz.prog 154=some ⟨7,[.tmp 2],(.g [.q 1 57 0,.k 2 false] (.z [1] (.g [.a 3 28 1,.d 4 7 3,.s 5 (.build [.i 0,.i 0,(.str []),.i 0,.i 0,.i 0,(.str [])] []),.s 6 (.eqs false [.i,.i,.s,.i,.i,.i,.s] (.t 4) (.t 5)),.m 2 6] (.ret [2]))))⟩:=by kernel_rfl
end Go.Proofs.YtmjkgajnpmiomaaGreatDoor

namespace Go.Proofs.YtmjkgajnpmiomaaGreatDoor
open Go.Sha
set_option maxRecDepth 100000
variable {g:List (Nat×Obj)}{n:Nat}
theorem f230 {l:List Mov}(hl:l.length<140737488355328){st:St}:run Tryz.prog HH 230 [.sl (l.map Mov.v),.sl []] st=some (.ret (.bool (decide (l.length=0))),st):=by
 by_cases h:l.length=0
 ·have h0:l=[]:=List.length_eq_zero_iff.1 h
  subst h0
  rw[run_shut F230 rfl rfl (by simp)]
  push_cast[runL_of B230_0.eq_1]
 ·have h1:¬(l.length:Int)=0:=by omega
  rw[run_shut F230 rfl rfl (by simp)]
  push_cast[Mov.v,h,h1]
theorem f231 {l:List Tim}(hl:l.length<140737488355328){st:St}:run Tryz.prog HH 231 [.sl (l.map Tim.v),.sl []] st=some (.ret (.bool (decide (l.length=0))),st):=by
 by_cases h:l.length=0
 ·have h0:l=[]:=List.length_eq_zero_iff.1 h
  subst h0
  rw[run_shut F231 rfl rfl (by simp)]
  push_cast[runL_of B231_0.eq_1]
 ·have h1:¬(l.length:Int)=0:=by omega
  rw[run_shut F231 rfl rfl (by simp)]
  push_cast[Tim.v,h,h1]
def zCu (c:Cu):Bool:=decide (c.moves=[])&&decide (c.parts=[])&&(decide (c.num=[])&&(decide (c.label=[])&&(!c.block&&(!c.mark&&(decide (c.follow=0)&&(decide (c.link=[])&&c.loops == 0))))))
theorem f149 {c:Cu}(hl:c.moves.length<140737488355328)(hk:c.parts.length<140737488355328){st:St}:run Tryz.prog HH 149 [c.v,.agg [.str [],.str [],.sl [],.sl [],.bool false,.bool false,.int .i64 0,.str [],.int .i64 0]] st=some (.ret (.bool (zCu c)),st):=by
 have h168:=fun(st:St)=>f230 hl (st:=st)
 have h169:=fun(st:St)=>f231 hk (st:=st)
 rw[run_shut F149 rfl rfl (by simp)]
 push_cast[Cu.v,h168,h169,zCu]
 all_goals ((repeat' split)<;>simp_all)
theorem f144 {e:Edi}{st:St}:run Tryz.prog HH 144 [e.v] st=some (.ret (.bool (e.num == 0)),st):=by
 rw[run_shut F144 rfl rfl (by simp)]
 push_cast[Edi.v]
theorem f145 {e:Edi}{st:St}:run Tryz.prog HH 145 [e.v] st=some (.ret (.bool (e.chan == 0)),st):=by
 rw[run_shut F145 rfl rfl (by simp)]
 push_cast[Edi.v]
theorem f146 {e:Edi}{st:St}:run Tryz.prog HH 146 [e.v] st=some (.ret (.bool (e.prio == 0)),st):=by
 rw[run_shut F146 rfl rfl (by simp)]
 push_cast[Edi.v]
theorem f147 {e:Edi}{st:St}:run Tryz.prog HH 147 [e.v] st=some (.ret (.bool (e.key == [])),st):=by
 rw[run_shut F147 rfl rfl (by simp)]
 push_cast[Edi.v]
theorem f148 {e:Edi}(hl:e.cue.moves.length<140737488355328)(hk:e.cue.parts.length<140737488355328){st:St}:run Tryz.prog HH 148 [e.v] st=some (.ret (.bool (zCu e.cue)),st):=by
 have h:=fun(st:St)=>f149 hl hk (st:=st)
 push_cast[Cu.v]at h
 rw[run_shut F148 rfl rfl (by simp)]
 push_cast[Edi.v,h]
theorem f150 {e:Edi}{st:St}:run Tryz.prog HH 150 [e.v] st=some (.ret (.bool (decide (e.pal.num=0)&&(e.pal.hues.length:Int) == 0)),st):=by
 rw[run_shut F150 rfl rfl (by simp)]
 push_cast[Edi.v]
theorem f151 {e:Edi}{st:St}:run Tryz.prog HH 151 [e.v] st=some (.ret (.bool (decide (e.grp.num=0)&&(e.grp.chans.length:Int) == 0)),st):=by
 rw[run_shut F151 rfl rfl (by simp)]
 push_cast[Edi.v]
theorem f152 {e:Edi}{st:St}:run Tryz.prog HH 152 [e.v] st=some (.ret (.bool (decide (e.sub.num=0)&&(decide (e.sub.prio=0)&&(!e.sub.inh&&(e.sub.gains.length:Int) == 0)))),st):=by
 rw[run_shut F152 rfl rfl (by simp)]
 push_cast[Edi.v]
theorem f153 {e:Edi}{st:St}:run Tryz.prog HH 153 [e.v] st=some (.ret (.bool (decide (e.eff.num=0)&&(decide (e.eff.attr=0)&&(decide (e.eff.wave=[])&&(decide (e.eff.period=0)&&(decide (e.eff.spread=0)&&e.eff.size == 0)))))),st):=by
 rw[run_shut F153 rfl rfl (by simp)]
 push_cast[Edi.v]
 all_goals ((repeat' split)<;>simp_all)
theorem f154 {e:Edi}{st:St}:run Tryz.prog HH 154 [e.v] st=some (.ret (.bool (e.fix.chan == 0&&(e.fix.part == 0&&(e.fix.prof.isEmpty&&(e.fix.univ == 0&&(e.fix.addr == 0&&(e.fix.phase == 0&&e.fix.cable.isEmpty))))))),st):=by
 rw[run_shut F154 rfl rfl (by simp)]
 push_cast[Edi.v]
 all_goals ((repeat' split)<;>simp_all)
structure Use where
 ks:List Int
 f:FuncId
 z:Edi→Bool
instance:Inhabited Use:=⟨⟨[],0,fun _=>true⟩⟩
@[reducible] def Use.v (u:Use):V:=.agg [.sl (u.ks.map (.int .i64)),.fn (.func u.f) [] []]
def uses:List Use:=[⟨[0,1,2,4,6,8,10,12],144,fun e=>e.num == 0⟩,⟨[12],145,fun e=>e.chan == 0⟩,⟨[2],146,fun e=>e.prio == 0⟩,⟨[1,13],147,fun e=>e.key == []⟩,⟨[0],148,fun e=>zCu e.cue⟩,
 ⟨[3],150,fun e=>decide (e.pal.num=0)&&(e.pal.hues.length:Int) == 0⟩,⟨[5],151,fun e=>decide (e.grp.num=0)&&(e.grp.chans.length:Int) == 0⟩,⟨[7],152,fun e=>decide (e.sub.num=0)&&(decide (e.sub.prio=0)&&(!e.sub.inh&&(e.sub.gains.length:Int) == 0))⟩,
 ⟨[9],153,fun e=>decide (e.eff.num=0)&&(decide (e.eff.attr=0)&&(decide (e.eff.wave=[])&&(decide (e.eff.period=0)&&(decide (e.eff.spread=0)&&e.eff.size == 0))))⟩,⟨[11],154,fun e=>e.fix.chan == 0&&(e.fix.part == 0&&(e.fix.prof.isEmpty&&(e.fix.univ == 0&&(e.fix.addr == 0&&(e.fix.phase == 0&&e.fix.cable.isEmpty)))))⟩]
theorem f90 {st:St}:run Tryz.prog HH 90 [] st=some (.ret (.sl (uses.map Use.v)),st):=by
 rw[run_shut F90 rfl rfl (by simp)]
 push_cast[uses,Use.v,List.map_cons,List.map_nil,(fun(a0:V) (st:St) (h:V.bdL 0 [a0]=true)=>run_shut (P:=Tryz.prog) (H:=HH) (args:=[a0]) (st:=st) F143 rfl rfl h)]
def useR (e:Edi):List Use→Int
 |[]=>0
 |u::r=>if u.ks.any (e.kind == ·)||u.z e then useR e r else 3
theorem L45 {e:Edi}{us:List Use}(hl:us.length<140737488355328)(hk:∀u∈us,u.ks.length<140737488355328∧memL u.f HH.raw=false∧∀st:St,run Tryz.prog HH u.f [e.v] st=some (.ret (.bool (u.z e)),st)):∀r j,us.drop j=r→runL Tryz.prog HH [1,13,14,15] n B45_0 [(1,.ep e.v 0),(13,.sl (us.map Use.v)),(14,.int .i64 us.length),(15,.int .i64 j)] (stN g n)=lpE (stN g n) [] 2 (useR e r):=by
 refine drop_ind (fun j h=>?_) (fun q r j h hx hd ih=>?_)
 all_goals rw[runL_of B45_0.eq_1]
 ·have h1:¬(j:Int)<us.length:=by omega
  push_cast[h1,useR]
 ·have h1:(j:Int)<us.length:=by omega
  have hw:=iw1 (j:=j) (by omega)
  obtain⟨h2,h3,h4⟩:=hk q (List.mem_of_mem_drop (hd▸List.mem_cons_self ..))
  have h5:=fun(st:St)=>f91 (v:=e.kind) h2 (st:=st)
  rw[HH_raw]at h3
  push_cast[Edi.v]at h3 h4
  push_cast[h1,hw,hx,Edi.v,Use.v,h3,h4,h5]at ih ⊢
  rw[useR,ih]
  cases q.ks.any (e.kind == ·)<;>cases q.z e<;>simp[lpE]
def edtC (e:Edi):Int:=if e.kind<0∨13<e.kind then 1 else useR e uses
theorem f45 {e:Edi}(hl:e.cue.moves.length<140737488355328)(hk:e.cue.parts.length<140737488355328){st:St}:run Tryz.prog HH 45 [e.v] st=some (.ret (.int .i64 (edtC e)),st):=by
 have hL:=L45 (g:=st.x.gl) (n:=1) (e:=e) (us:=uses) (by decide) (by
  intro u hu
  simp only[uses,List.mem_cons,List.mem_nil_iff,or_false]at hu
  rcases hu with rfl|rfl|rfl|rfl|rfl|rfl|rfl|rfl|rfl|rfl
  ·exact⟨by decide,rfl,fun _=>f144⟩
  ·exact⟨by decide,rfl,fun _=>f145⟩
  ·exact⟨by decide,rfl,fun _=>f146⟩
  ·exact⟨by decide,rfl,fun _=>f147⟩
  ·exact⟨by decide,rfl,fun _=>f148 hl hk⟩
  ·exact⟨by decide,rfl,fun _=>f150⟩
  ·exact⟨by decide,rfl,fun _=>f151⟩
  ·exact⟨by decide,rfl,fun _=>f152⟩
  ·exact⟨by decide,rfl,fun _=>f153⟩
  ·exact⟨by decide,rfl,fun _=>f154⟩) uses 0 rfl
 rw[run_shut F45 rfl rfl (by simp)]
 have h42:=fun(st:St)=>f90 (st:=st)
 have hlen:(uses.length:Int)=10:=rfl
 push_cast[Edi.v,hlen]at hL
 by_cases h1:e.kind<0
 ·have e1:edtC e=1:=if_pos (.inl h1)
  push_cast[Edi.v,e1,h1]
 ·by_cases h2:13<e.kind
  ·have e1:edtC e=1:=if_pos (.inr h2)
   push_cast[Edi.v,e1,h1,h2]
  ·have e1:edtC e=useR e uses:=if_neg (by omega)
   rw[e1]
   generalize useR e uses=c at *
   push_cast[Edi.v,h1,h2,h42,hL,hlen,lpE]
end Go.Proofs.YtmjkgajnpmiomaaGreatDoor

namespace Go.Proofs.YtmjkgajnpmiomaaGreatDoor
open Go.Sha
set_option maxRecDepth 10000
theorem F208:compF Tryz.prog 208=some ⟨9,[.tmp 2],(.g [.k 2 false] (.join [2] (.reg [.m 3 0,.v 4 .geq 3 0,.m 5 4,.my 6 0 5,.vy 7 .leq 6 65535 5,.e 8 5 7,.m 2 8]) (.ret [2])))⟩:=by kernel_rfl
theorem F201:compF Tryz.prog 201=some ⟨9,[.tmp 2],(.g [.k 2 false] (.join [2] (.reg [.m 3 0,.v 4 .geq 3 0,.m 5 4,.my 6 0 5,.vy 7 .leq 6 65535 5,.e 8 5 7,.m 2 8]) (.ret [2])))⟩:=by kernel_rfl
def B133_0:Cd:=(.g [.b 16 .lss 15 14] (.join [0,13,14,15] (.i 16 .skip (.exit [0] 1)) (.join [0,13,14,15] (.block 2 (.g [.m 17 15,.r 18 2 13 15,.d 19 2 18,.s 4 (.alloc 191 [.i 0,.i 0]),.m 3 17,.w 2 4 19] (.z [4] (.join [0,3,4,13,14,15] (.join [0,3,4,13,14,15,29] (.reg [.a 20 0 4,.l 21 20,.f 22 208 21,.z 23 22,.m 24 23,.ax 25 1 4 24,.lx 26 25 24,.x 27 (.f 208 [.t 26]) 24,.x 28 (.un .not (.t 27)) 24,.o 29 24 28]) (.i 29 (.g [.c 2 2] (.ret [2])) .skip)) (.join [0,13,14,15,42] (.dreg 13 [.m 30 3,.v 31 .gtr 30 0,.m 32 31,.ay 33 0 4 32,.ly 34 33 32,.my 35 0 32,.my 36 3 32,.vy 37 .sub 36 1 32,.ry 38 2 35 37 32,.ay 39 0 38 32,.ly 40 39 32,.by' 41 .leq 34 40 32,.e 42 32 41]) (.i 42 (.g [.c 2 9] (.ret [2])) .skip)))))) (.reg [.v 43 .add 15 1,.m 15 43]))))
theorem F133:compF Tryz.prog 133=some ⟨59,[.tmp 2],(.g [.c 2 0] (.join [0] (.block 0 (.g [.m 6 0,.u 7 6,.v 8 .lss 7 2,.m 5 8] (.i 5 (.g [.c 2 14] (.ret [2])) (.g [.m 10 0,.u 11 10,.v 12 .gtr 11 16,.m 9 12] (.i 9 (.g [.c 2 5] (.ret [2])) .skip))))) (.join [0] (.g [.m 13 0,.u 14 13,.c 15 0] (.block 1 (.loop [0,13,14,15] [] B133_0))) (.join [] (.join [58] (.reg [.m 44 0,.s 45 (.iadr 2 (.t 44) (.i 0)),.a 46 0 45,.l 47 46,.v 48 .neq 47 0,.m 49 48,.mx 50 0 49,.mx 51 0 49,.x 52 (.len (.t 51)) 49,.vx 53 .sub 52 1 49,.x 54 (.iadr 2 (.t 50) (.t 53)) 49,.ax 55 0 54 49,.lx 56 55 49,.vx 57 .neq 56 65535 49,.o 58 49 57]) (.i 58 (.g [.c 2 14] (.ret [2])) .skip)) (.g [.c 2 0] (.ret [2]))))))⟩:=by kernel_rfl
def B124_0:Cd:=(.join [0,3] (.g [.m 10 3,.m 11 0,.u 12 11,.b 13 .lss 10 12] (.i 13 .skip (.exit [0] 0))) (.join [0,3] (.block 1 (.join [0,3] (.join [0,3,31] (.reg [.m 16 0,.m 17 3,.r 18 2 16 17,.a 19 0 18,.l 20 19,.f 21 201 20,.z 22 21,.m 23 22,.mx 24 0 23,.mx 25 3 23,.x 26 (.iadr 2 (.t 24) (.t 25)) 23,.ax 27 1 26 23,.lx 28 27 23,.x 29 (.f 201 [.t 28]) 23,.x 30 (.un .not (.t 29)) 23,.o 31 23 30]) (.i 31 (.g [.c 2 2] (.ret [2])) .skip)) (.join [0,3,47] (.dreg 16 [.m 32 3,.v 33 .gtr 32 0,.m 34 33,.my 35 0 34,.my 36 3 34,.ry 37 2 35 36 34,.ay 38 0 37 34,.ly 39 38 34,.my 40 0 34,.my 41 3 34,.vy 42 .sub 41 1 34,.ry 43 2 40 42 34,.ay 44 0 43 34,.ly 45 44 34,.by' 46 .leq 39 45 34,.e 47 34 46]) (.i 47 (.g [.c 2 9] (.ret [2])) .skip)))) (.reg [.m 14 3,.v 15 .add 14 1,.m 3 15])))
theorem F124:compF Tryz.prog 124=some ⟨63,[.tmp 2],(.g [.c 2 0] (.join [0] (.g [.m 4 0,.u 5 4,.v 6 .lss 5 2] (.i 6 (.g [.c 2 14] (.ret [2])) .skip)) (.join [0] (.g [.m 7 0,.u 8 7,.v 9 .gtr 8 16] (.i 9 (.g [.c 2 5] (.ret [2])) .skip)) (.join [0] (.g [.c 3 0] (.block 0 (.loop [0,3] [] B124_0))) (.join [] (.join [62] (.reg [.m 48 0,.s 49 (.iadr 2 (.t 48) (.i 0)),.a 50 0 49,.l 51 50,.v 52 .neq 51 0,.m 53 52,.mx 54 0 53,.mx 55 0 53,.x 56 (.len (.t 55)) 53,.vx 57 .sub 56 1 53,.x 58 (.iadr 2 (.t 54) (.t 57)) 53,.ax 59 0 58 53,.lx 60 59 53,.vx 61 .neq 60 65535 53,.o 62 53 61]) (.i 62 (.g [.c 2 14] (.ret [2])) .skip)) (.g [.c 2 0] (.ret [2])))))))⟩:=by kernel_rfl
def B209_0:Cd:=(.g [.b 12 .lss 11 10] (.join [9,10,11] (.i 12 .skip (.exit [] 0)) (.join [9,10,11] (.block 1 (.g [.r 13 1 9 11,.l 14 13,.m 4 14] (.g [.m 15 4,.f 16 133 15,.m 5 16] (.g [.m 17 5,.v 18 .neq 17 0] (.i 18 (.g [.m 19 5,.m 2 19] (.ret [2])) .skip))))) (.reg [.v 20 .add 11 1,.m 11 20]))))
theorem F209:compF Tryz.prog 209=some ⟨21,[.tmp 2],(.g [.c 2 0] (.join [0] (.g [.m 6 0,.u 7 6,.v 8 .gtr 7 16] (.i 8 (.g [.c 2 5] (.ret [2])) .skip)) (.join [] (.g [.m 9 0,.u 10 9,.c 11 0] (.block 0 (.loop [9,10,11] [] B209_0))) (.g [.c 2 0] (.ret [2])))))⟩:=by kernel_rfl
def B70_0:Cd:=(.join [0,3] (.g [.m 8 3,.m 9 0,.u 10 9,.b 11 .lss 8 10] (.i 11 .skip (.exit [] 0))) (.join [0,3] (.block 1 (.g [.m 14 0,.m 15 3,.r 16 1 14 15,.l 17 16,.f 18 124 17,.m 4 18] (.g [.m 19 4,.v 20 .neq 19 0] (.i 20 (.g [.m 21 4,.m 2 21] (.ret [2])) .skip)))) (.reg [.m 12 3,.v 13 .add 12 1,.m 3 13])))
theorem F70:compF Tryz.prog 70=some ⟨22,[.tmp 2],(.g [.c 2 0] (.join [0] (.g [.m 5 0,.u 6 5,.v 7 .gtr 6 16] (.i 7 (.g [.c 2 5] (.ret [2])) .skip)) (.join [] (.g [.c 3 0] (.block 0 (.loop [0,3] [] B70_0))) (.g [.c 2 0] (.ret [2])))))⟩:=by kernel_rfl
def B229_0:Cd:=(.g [.b 33 .lss 32 31] (.join [0,3,30,31,32] (.i 33 .skip (.exit [0,3] 1)) (.join [0,3,30,31,32] (.block 2 (.g [.m 34 32,.r 35 2 30 32,.d 36 2 35,.s 5 (.alloc 191 [.i 0,.i 0]),.m 4 34,.w 2 5 36] (.z [5] (.join [0,3,4,5,30,31,32] (.g [.a 37 1 5,.l 38 37,.f 39 297 38,.z 40 39] (.i 40 (.g [.c 2 2] (.ret [2])) .skip)) (.join [0,3,30,31,32,53] (.dreg 13 [.m 41 4,.v 42 .gtr 41 0,.m 43 42,.ay 44 0 5 43,.ly 45 44 43,.my 46 0 43,.my 47 4 43,.vy 48 .sub 47 1 43,.ry 49 2 46 48 43,.ay 50 0 49 43,.ly 51 50 43,.by' 52 .leq 45 51 43,.e 53 43 52]) (.i 53 (.g [.c 2 9] (.ret [2])) .skip)))))) (.reg [.v 54 .add 32 1,.m 32 54]))))
theorem F229:compF Tryz.prog 229=some ⟨66,[.tmp 2],(.g [.c 2 0] (.g [.m 6 0,.u 7 6,.m 3 7] (.join [0,3] (.block 0 (.join [0,3,8] (.reg [.m 9 3,.v 10 .lss 9 2,.m 11 10,.mx 12 3 11,.vx 13 .gtr 12 16 11,.o 14 11 13,.m 8 14]) (.i 8 (.g [.c 2 14] (.ret [2])) (.join [0,3,15] (.reg [.m 16 0,.s 17 (.iadr 2 (.t 16) (.i 0)),.a 18 0 17,.l 19 18,.v 20 .neq 19 0,.m 21 20,.mx 22 0 21,.mx 23 3 21,.vx 24 .sub 23 1 21,.x 25 (.iadr 2 (.t 22) (.t 24)) 21,.ax 26 0 25 21,.lx 27 26 21,.vx 28 .neq 27 1000 21,.o 29 21 28,.m 15 29]) (.i 15 (.g [.c 2 2] (.ret [2])) .skip))))) (.join [0,3] (.g [.m 30 0,.u 31 30,.c 32 0] (.block 1 (.loop [0,3,30,31,32] [] B229_0))) (.join [] (.q (.dreg 11 [.m 55 0,.s 56 (.iadr 2 (.t 55) (.i 0)),.a 57 1 56,.l 58 57,.m 59 0,.m 60 3,.v 61 .sub 60 1,.r 62 2 59 61,.a 63 1 62,.l 64 63,.b 65 .neq 58 64]) (.i 65 (.g [.c 2 3] (.ret [2])) .skip)) (.g [.c 2 0] (.ret [2])))))))⟩:=by kernel_rfl
theorem F297:compF Tryz.prog 297=some ⟨9,[.tmp 2],(.g [.k 2 false] (.join [2] (.reg [.m 3 0,.v 4 .geq 3 (-1000),.m 5 4,.my 6 0 5,.vy 7 .leq 6 1000 5,.e 8 5 7,.m 2 8]) (.ret [2])))⟩:=by kernel_rfl
def B132_0:Cd:=(.join [0,3] (.g [.m 27 3,.m 28 0,.u 29 28,.b 30 .lss 27 29] (.i 30 .skip (.exit [0] 0))) (.join [0,3] (.block 1 (.join [0,3] (.g [.m 33 0,.m 34 3,.r 35 2 33 34,.a 36 1 35,.l 37 36,.f 38 207 37,.z 39 38] (.i 39 (.g [.c 2 2] (.ret [2])) .skip)) (.join [0,3,55] (.dreg 16 [.m 40 3,.v 41 .gtr 40 0,.m 42 41,.my 43 0 42,.my 44 3 42,.ry 45 2 43 44 42,.ay 46 0 45 42,.ly 47 46 42,.my 48 0 42,.my 49 3 42,.vy 50 .sub 49 1 42,.ry 51 2 48 50 42,.ay 52 0 51 42,.ly 53 52 42,.by' 54 .leq 47 53 42,.e 55 42 54]) (.i 55 (.g [.c 2 9] (.ret [2])) .skip)))) (.reg [.m 31 3,.v 32 .add 31 1,.m 3 32])))
theorem F132:compF Tryz.prog 132=some ⟨68,[.tmp 2],(.g [.c 2 0] (.join [0] (.join [0,11] (.reg [.m 4 0,.u 5 4,.v 6 .lss 5 2,.m 7 6,.mx 8 0 7,.x 9 (.len (.t 8)) 7,.vx 10 .gtr 9 16 7,.o 11 7 10]) (.i 11 (.g [.c 2 14] (.ret [2])) .skip)) (.join [0] (.join [0,26] (.reg [.m 12 0,.s 13 (.iadr 2 (.t 12) (.i 0)),.a 14 0 13,.l 15 14,.v 16 .neq 15 0,.m 17 16,.mx 18 0 17,.mx 19 0 17,.x 20 (.len (.t 19)) 17,.vx 21 .sub 20 1 17,.x 22 (.iadr 2 (.t 18) (.t 21)) 17,.ax 23 0 22 17,.lx 24 23 17,.vx 25 .neq 24 1000 17,.o 26 17 25]) (.i 26 (.g [.c 2 2] (.ret [2])) .skip)) (.join [0] (.g [.c 3 0] (.block 0 (.loop [0,3] [] B132_0))) (.join [] (.q (.dreg 12 [.m 56 0,.s 57 (.iadr 2 (.t 56) (.i 0)),.a 58 1 57,.l 59 58,.m 60 0,.m 61 0,.u 62 61,.v 63 .sub 62 1,.r 64 2 60 63,.a 65 1 64,.l 66 65,.b 67 .neq 59 66]) (.i 67 (.g [.c 2 3] (.ret [2])) .skip)) (.g [.c 2 0] (.ret [2])))))))⟩:=by kernel_rfl
theorem F207:compF Tryz.prog 207=some ⟨9,[.tmp 2],(.g [.k 2 false] (.join [2] (.reg [.m 3 0,.v 4 .geq 3 (-1000),.m 5 4,.my 6 0 5,.vy 7 .leq 6 1000 5,.e 8 5 7,.m 2 8]) (.ret [2])))⟩:=by kernel_rfl
def B32_0:Cd:=(.join [0,3] (.join [0,3,11] (.reg [.m 4 3,.m 5 0,.u 6 5,.b 7 .lss 4 6,.m 8 7,.my 9 3 8,.vy 10 .lss 9 40 8,.e 11 8 10]) (.i 11 .skip (.exit [0] 0))) (.join [0,3] (.block 1 (.g [.m 14 0,.m 15 3,.r 16 1 14 15,.l 17 16,.f 18 66 17,.z 19 18] (.i 19 (.g [.k 2 false] (.ret [2])) .skip))) (.reg [.m 12 3,.v 13 .add 12 1,.m 3 13])))
theorem F32:compF Tryz.prog 32=some ⟨23,[.tmp 2],(.g [.k 2 false] (.join [0] (.g [.c 3 0] (.block 0 (.loop [0,3] [] B32_0))) (.g [.m 20 0,.u 21 20,.v 22 .leq 21 40,.m 2 22] (.ret [2]))))⟩:=by kernel_rfl
theorem F66:compF Tryz.prog 66=some ⟨6,[.tmp 2],(.g [.k 2 false] (.g [.m 3 0,.u 4 3,.v 5 .leq 4 40,.m 2 5] (.ret [2])))⟩:=by kernel_rfl
end Go.Proofs.YtmjkgajnpmiomaaGreatDoor

namespace Go.Proofs.YtmjkgajnpmiomaaGreatDoor
open Go.Sha
variable {g:List (Nat×Obj)}{n:Nat}
abbrev lvl (v:Int):Prop:=0≤v∧v≤65535
abbrev hig (v:Int):Prop:=-1000≤v∧v≤1000
theorem f208 {v:Int}{st:St}:run Tryz.prog HH 208 [.int .i64 v] st=some (.ret (.bool (decide (lvl v))),st):=by
 rw[run_shut F208 rfl rfl (by simp)]
 push_cast
 all_goals ((repeat' split)<;>simp_all)
theorem f201 {v:Int}{st:St}:run Tryz.prog HH 201 [.int .i64 v] st=some (.ret (.bool (decide (lvl v))),st):=by
 rw[run_shut F201 rfl rfl (by simp)]
 push_cast
 all_goals ((repeat' split)<;>simp_all)
theorem f297 {v:Int}{st:St}:run Tryz.prog HH 297 [.int .i64 v] st=some (.ret (.bool (decide (hig v))),st):=by
 rw[run_shut F297 rfl rfl (by simp)]
 push_cast
 all_goals ((repeat' split)<;>simp_all)
theorem f207 {v:Int}{st:St}:run Tryz.prog HH 207 [.int .i64 v] st=some (.ret (.bool (decide (hig v))),st):=by
 rw[run_shut F207 rfl rfl (by simp)]
 push_cast
 all_goals ((repeat' split)<;>simp_all)
def ptsL (c:Pt→Prop)[DecidablePred c](l:List Pt):List Pt→Nat→Int
 |[],_=>0
 |q::r,j=>if c q then if 0<j∧q.x≤(l.getD (j-1) default).x then 9 else ptsL c l r (j+1) else 2
abbrev lvP (q:Pt):Prop:=lvl q.x∧lvl q.y
theorem L133 {l:List Pt}(hl:l.length<140737488355328):∀r j,l.drop j=r→runL Tryz.prog HH [0,13,14,15] n B133_0 [(0,.sl (l.map Pt.v)),(13,.sl (l.map Pt.v)),(14,.int .i64 l.length),(15,.int .i64 j)] (stN g n)=lpX 1 (stN g n) [(0,.sl (l.map Pt.v))] 2 (ptsL lvP l r j):=by
 refine drop_ind (fun j h=>?_) (fun q r j h hx hd ih=>?_)
 all_goals rw[runL_of B133_0.eq_1]
 ·have h1:¬(j:Int)<l.length:=by omega
  push_cast[h1,ptsL,Pt.v]
 ·have h1:(j:Int)<l.length:=by omega
  have hw:=iw1 (j:=j) (by omega)
  push_cast[h1,hw,hx,Pt.v,f208,iwrap_pred (j:=j) (by omega)]at ih ⊢
  simp only[ih,ptsL,lps,Int.reduceEq,not_false_eq_true]
  all_goals ((repeat' split)<;>(try simp_all)<;>(try (with_reducible refine dn_eq ?_ ?_<;>first|trivial|omega|rfl))<;>(try omega))
theorem L124 {l:List Pt}(hl:l.length<140737488355328):∀r j,l.drop j=r→runL Tryz.prog HH [0,3] n B124_0 [(0,.sl (l.map Pt.v)),(3,.int .i64 j)] (stN g n)=lpX 0 (stN g n) [(0,.sl (l.map Pt.v))] 2 (ptsL lvP l r j):=by
 refine drop_ind (fun j h=>?_) (fun q r j h hx hd ih=>?_)
 all_goals rw[runL_of B124_0.eq_1]
 ·have h1:¬(j:Int)<l.length:=by omega
  push_cast[h1,ptsL,Pt.v]
 ·have h1:(j:Int)<l.length:=by omega
  have hw:=iw1 (j:=j) (by omega)
  push_cast[h1,hw,hx,Pt.v,f201,iwrap_pred (j:=j) (by omega)]at ih ⊢
  simp only[ih,ptsL,lps,Int.reduceEq,not_false_eq_true]
  all_goals ((repeat' split)<;>(try simp_all)<;>(try (with_reducible refine dn_eq ?_ ?_<;>first|trivial|omega|rfl))<;>(try omega))
def curC (l:List Pt):Int:=if(l.length:Int)<2 then 14 else if 16<(l.length:Int) then 5 else if ptsL lvP l l 0=0 then if ¬(l.getD 0 default).x=0∨¬(l.getD (l.length-1) default).x=65535 then 14 else 0 else ptsL lvP l l 0
theorem f133 {l:List Pt}(hl:l.length<140737488355328){st:St}:run Tryz.prog HH 133 [.sl (l.map Pt.v)] st=some (.ret (.int .i64 (curC l)),st):=by
 rw[run_shut F133 rfl rfl (by simp)]
 have hL0:=fun n=>L133 (g:=st.x.gl) (n:=n) hl _ 0 rfl
 push_cast[Pt.v,curC,iwrap_pred hl]at hL0
 push_cast[Pt.v,curC,iwrap_pred hl,hL0,lpE,lpX,lpI,lpB]
 all_goals exact dn_eq (by omega) (by with_reducible rfl)
theorem f124 {l:List Pt}(hl:l.length<140737488355328){st:St}:run Tryz.prog HH 124 [.sl (l.map Pt.v)] st=some (.ret (.int .i64 (curC l)),st):=by
 rw[run_shut F124 rfl rfl (by simp)]
 have hL0:=fun n=>L124 (g:=st.x.gl) (n:=n) hl _ 0 rfl
 push_cast[Pt.v,curC,iwrap_pred hl]at hL0
 push_cast[Pt.v,curC,iwrap_pred hl,hL0,lpE,lpX,lpI,lpB]
 all_goals exact dn_eq (by omega) (by with_reducible rfl)
def cursL:List (List Pt)→Int
 |[]=>0
 |q::r=>if curC q=0 then cursL r else curC q
theorem L209 {l:List (List Pt)}(hl:l.length<140737488355328)(hb:∀q∈l,q.length<140737488355328):∀r j,l.drop j=r→runL Tryz.prog HH [9,10,11] n B209_0 [(9,.sl (l.map Pt.vs)),(10,.int .i64 l.length),(11,.int .i64 j)] (stN g n)=lpE (stN g n) [] 2 (cursL r):=by
 refine drop_ind (fun j h=>?_) (fun q r j h hx hd ih=>?_)
 all_goals rw[runL_of B209_0.eq_1]
 ·have h1:¬(j:Int)<l.length:=by omega
  push_cast[h1,cursL]
 ·have h1:(j:Int)<l.length:=by omega
  have hw:=iw1 (j:=j) (by omega)
  have hq:q.length<140737488355328:=hb q (List.mem_of_mem_drop (hd▸List.mem_cons_self ..))
  push_cast[h1,hw,hx,f133 hq]at ih ⊢
  simp only[ih,cursL,lps,Int.reduceEq,not_false_eq_true]
  all_goals ((repeat' split)<;>simp_all)
theorem L70 {l:List (List Pt)}(hl:l.length<140737488355328)(hb:∀q∈l,q.length<140737488355328):∀r j,l.drop j=r→runL Tryz.prog HH [0,3] n B70_0 [(0,.sl (l.map Pt.vs)),(3,.int .i64 j)] (stN g n)=lpE (stN g n) [] 2 (cursL r):=by
 refine drop_ind (fun j h=>?_) (fun q r j h hx hd ih=>?_)
 all_goals rw[runL_of B70_0.eq_1]
 ·have h1:¬(j:Int)<l.length:=by omega
  push_cast[h1,cursL]
 ·have h1:(j:Int)<l.length:=by omega
  have hw:=iw1 (j:=j) (by omega)
  have hq:q.length<140737488355328:=hb q (List.mem_of_mem_drop (hd▸List.mem_cons_self ..))
  push_cast[h1,hw,hx,f124 hq]at ih ⊢
  simp only[ih,cursL,lps,Int.reduceEq,not_false_eq_true]
  all_goals ((repeat' split)<;>simp_all)
def cursC (l:List (List Pt)):Int:=if 16<(l.length:Int) then 5 else cursL l
theorem f209 {l:List (List Pt)}(hl:l.length<140737488355328)(hb:∀q∈l,q.length<140737488355328){st:St}:run Tryz.prog HH 209 [.sl (l.map Pt.vs)] st=some (.ret (.int .i64 (cursC l)),st):=by
 rw[run_shut F209 rfl rfl (by simp)]
 have hL0:=fun n=>L209 (g:=st.x.gl) (n:=n) hl hb _ 0 rfl
 push_cast[cursC]at hL0
 push_cast[cursC,hL0,lpE,lpX,lpI,lpB]
theorem f70 {l:List (List Pt)}(hl:l.length<140737488355328)(hb:∀q∈l,q.length<140737488355328){st:St}:run Tryz.prog HH 70 [.sl (l.map Pt.vs)] st=some (.ret (.int .i64 (cursC l)),st):=by
 rw[run_shut F70 rfl rfl (by simp)]
 have hL0:=fun n=>L70 (g:=st.x.gl) (n:=n) hl hb _ 0 rfl
 push_cast[cursC]at hL0
 push_cast[cursC,hL0,lpE,lpX,lpI,lpB]
abbrev hiP (q:Pt):Prop:=hig q.y
theorem L229 {l:List Pt}(hl:l.length<140737488355328):∀r j,l.drop j=r→runL Tryz.prog HH [0,3,30,31,32] n B229_0 [(0,.sl (l.map Pt.v)),(3,.int .i64 l.length),(30,.sl (l.map Pt.v)),(31,.int .i64 l.length),(32,.int .i64 j)] (stN g n)=lpX 1 (stN g n) [(0,.sl (l.map Pt.v)),(3,.int .i64 l.length)] 2 (ptsL hiP l r j):=by
 refine drop_ind (fun j h=>?_) (fun q r j h hx hd ih=>?_)
 all_goals rw[runL_of B229_0.eq_1]
 ·have h1:¬(j:Int)<l.length:=by omega
  push_cast[h1,ptsL,Pt.v]
 ·have h1:(j:Int)<l.length:=by omega
  have hw:=iw1 (j:=j) (by omega)
  push_cast[h1,hw,hx,Pt.v,f297,iwrap_pred (j:=j) (by omega)]at ih ⊢
  simp only[ih,ptsL,lps,Int.reduceEq,not_false_eq_true]
  all_goals ((repeat' split)<;>(try simp_all)<;>(try (with_reducible refine dn_eq ?_ ?_<;>first|trivial|omega|rfl))<;>(try omega))
theorem L132 {l:List Pt}(hl:l.length<140737488355328):∀r j,l.drop j=r→runL Tryz.prog HH [0,3] n B132_0 [(0,.sl (l.map Pt.v)),(3,.int .i64 j)] (stN g n)=lpX 0 (stN g n) [(0,.sl (l.map Pt.v))] 2 (ptsL hiP l r j):=by
 refine drop_ind (fun j h=>?_) (fun q r j h hx hd ih=>?_)
 all_goals rw[runL_of B132_0.eq_1]
 ·have h1:¬(j:Int)<l.length:=by omega
  push_cast[h1,ptsL,Pt.v]
 ·have h1:(j:Int)<l.length:=by omega
  have hw:=iw1 (j:=j) (by omega)
  push_cast[h1,hw,hx,Pt.v,f207,iwrap_pred (j:=j) (by omega)]at ih ⊢
  simp only[ih,ptsL,lps,Int.reduceEq,not_false_eq_true]
  all_goals ((repeat' split)<;>(try simp_all)<;>(try (with_reducible refine dn_eq ?_ ?_<;>first|trivial|omega|rfl))<;>(try omega))
def wavC (l:List Pt):Int:=if(l.length:Int)<2∨16<(l.length:Int) then 14 else if ¬(l.getD 0 default).x=0∨¬(l.getD (l.length-1) default).x=1000 then 2 else if ptsL hiP l l 0=0 then if ¬(l.getD 0 default).y=(l.getD (l.length-1) default).y then 3 else 0 else ptsL hiP l l 0
theorem f229 {l:List Pt}(hl:l.length<140737488355328){st:St}:run Tryz.prog HH 229 [.sl (l.map Pt.v)] st=some (.ret (.int .i64 (wavC l)),st):=by
 rw[run_shut F229 rfl rfl (by simp)]
 have hL0:=fun n=>L229 (g:=st.x.gl) (n:=n) hl _ 0 rfl
 push_cast[Pt.v,wavC,iwrap_pred hl]at hL0
 push_cast[Pt.v,wavC,iwrap_pred hl,hL0,lpE,lpX,lpI,lpB]
 all_goals exact dn_eq (by omega) (by with_reducible rfl)
theorem f132 {l:List Pt}(hl:l.length<140737488355328){st:St}:run Tryz.prog HH 132 [.sl (l.map Pt.v)] st=some (.ret (.int .i64 (wavC l)),st):=by
 rw[run_shut F132 rfl rfl (by simp)]
 have hL0:=fun n=>L132 (g:=st.x.gl) (n:=n) hl _ 0 rfl
 push_cast[Pt.v,wavC,iwrap_pred hl]at hL0
 push_cast[Pt.v,wavC,iwrap_pred hl,hL0,lpE,lpX,lpI,lpB]
 all_goals exact dn_eq (by omega) (by with_reducible rfl)
theorem f66 {l:List Pt}{st:St}:run Tryz.prog HH 66 [.sl (l.map Pt.v)] st=some (.ret (.bool (decide ((l.length:Int)≤40))),st):=by
 rw[run_shut F66 rfl rfl (by simp)]
 push_cast
end Go.Proofs.YtmjkgajnpmiomaaGreatDoor

namespace Go.Proofs.YtmjkgajnpmiomaaGreatDoor
open Go.Sha
set_option maxRecDepth 10000
def B96_0:Cd:=(.g [.b 23 .lss 22 21] (.join [0,3,20,21,22] (.i 23 .skip (.exit [0,3] 0)) (.join [0,3,20,21,22] (.block 1 (.g [.r 24 1 20 22,.l 25 24,.m 6 25] (.g [.m 26 6,.s 27 (.call (.t 26) []),.z 28 27] (.i 28 (.g [.c 2 3] (.ret [2])) .skip)))) (.reg [.v 29 .add 22 1,.m 22 29]))))
theorem F96:compF Tryz.prog 96=some ⟨44,[.tmp 2],(.g [.c 2 0] (.g [.s 3 (.alloc 229 [(.str []),(.str []),(.bool false)])] (.g [.m 8 0,.s 9 (.f 160 [.t 8,(.w [46])]),.m 7 9,.j 10 0 7,.j 11 1 7,.j 12 2 7,.a 13 0 3,.w 1 13 10,.a 14 1 3,.w 1 14 11,.a 15 2 3,.w 1 15 12] (.g [.s 16 (.mkfn (.func 161) [] [.t 3]),.s 17 (.mkfn (.func 163) [] [.t 3]),.s 18 (.mkfn (.func 165) [] [.t 3]),.s 19 (.bslice 33 1 [.t 16,.t 17,.t 18]),.m 4 19] (.join [0,3] (.g [.m 20 4,.u 21 20,.c 22 0] (.block 0 (.loop [0,3,20,21,22] [] B96_0))) (.join [] (.join [43] (.reg [.m 30 0,.s 31 (.bin .eql (.t 30) (.w [48])),.m 32 31,.ax 33 0 3 32,.lx 34 33 32,.x 35 (.lens (.t 34)) 32,.vx 36 .gtr 35 4 32,.o 37 32 36,.m 38 37,.ax 39 1 3 38,.lx 40 39 38,.x 41 (.lens (.t 40)) 38,.vx 42 .gtr 41 3 38,.o 43 38 42]) (.i 43 (.g [.c 2 2] (.ret [2])) .skip)) (.g [.c 2 0] (.ret [2]))))))))⟩:=by kernel_rfl
theorem F161:compF Tryz.prog 161=some ⟨5,[.tmp 1],(.g [.k 1 false] (.g [.a 2 0 0,.l 3 2,.f 4 162 3,.m 1 4] (.ret [1])))⟩:=by kernel_rfl
theorem F163:compF Tryz.prog 163=some ⟨16,[.tmp 1],(.g [.k 1 false] (.join [1] (.reg [.a 2 2 0,.l 3 2,.z 4 3,.m 5 4,.ax 6 1 0 5,.lx 7 6 5,.x 8 (.f 162 [.t 7]) 5,.mx 9 8 5,.ay 10 1 0 9,.ly 11 10 9,.y 12 (.f 164 [.t 11,(.w [48])]) 9,.y 13 (.un .not (.t 12)) 9,.x 14 (.pick (.t 9) (.t 13) (.c (.bool false))) 5,.o 15 5 14,.m 1 15]) (.ret [1])))⟩:=by kernel_rfl
theorem F165:compF Tryz.prog 165=some ⟨12,[.tmp 1],(.g [.k 1 false] (.join [1] (.reg [.a 2 0 0,.l 3 2,.s 4 (.lens (.t 3)),.v 5 .eql 4 1,.m 6 5,.ax 7 0 0 6,.lx 8 7 6,.x 9 (.ichr (.t 8) (.i 0)) 6,.x 10 (.bin .neq (.t 9) (.c (.int .u8 48))) 6,.o 11 6 10,.m 1 11]) (.ret [1])))⟩:=by kernel_rfl
theorem F162:compF Tryz.prog 162=some ⟨10,[.tmp 2],(.g [.k 2 false] (.join [2] (.reg [.m 3 0,.s 4 (.bin .neq (.t 3) (.w [])),.m 5 4,.my 6 0 5,.y 7 (.f 246 [.t 6,(.c (.fn (.func 247) [] []))]) 5,.y 8 (.un .not (.t 7)) 5,.e 9 5 8,.m 2 9]) (.ret [2])))⟩:=by kernel_rfl
theorem F296:compF Tryz.prog 296=some ⟨27,[.tmp 4,.tmp 5],(.g [.c 4 0,.c 5 0] (.g [.m 10 0,.m 11 1,.g' 12 326 10 11,.m 9 12,.j 13 0 9,.j 14 1 9,.j 15 2 9,.m 6 13,.m 7 14,.m 8 15] (.join [8] (.block 0 (.g [.m 17 6,.m 18 7,.b 19 .lss 17 18,.m 16 19] (.i 16 (.g [.m 20 8,.c 4 (-1),.m 5 20] (.ret [4,5])) (.g [.m 22 6,.m 23 7,.b 24 .gtr 22 23,.m 21 24] (.i 21 (.g [.m 25 8,.c 4 1,.m 5 25] (.ret [4,5])) .skip))))) (.g [.m 26 8,.c 4 0,.m 5 26] (.ret [4,5])))))⟩:=by kernel_rfl
theorem F326:compF Tryz.prog 326=some ⟨28,[.tmp 4,.tmp 5,.tmp 6],(.g [.c 4 0,.c 5 0,.c 6 0] (.g [.m 11 0,.f 12 359 11,.m 10 12,.j 13 0 10,.j 14 1 10,.m 7 13,.m 8 14] (.join [1,7] (.g [.m 15 8,.v 16 .neq 15 0] (.i 16 (.g [.m 17 8,.c 4 0,.c 5 0,.m 6 17] (.ret [4,5,6])) .skip)) (.g [.m 19 1,.f 20 359 19,.m 18 20,.j 21 0 18,.j 22 1 18,.m 9 21,.m 8 22] (.join [7,9] (.g [.m 23 8,.v 24 .neq 23 0] (.i 24 (.g [.m 25 8,.c 4 0,.c 5 0,.m 6 25] (.ret [4,5,6])) .skip)) (.g [.m 26 7,.m 27 9,.m 4 26,.m 5 27,.c 6 0] (.ret [4,5,6])))))))⟩:=by kernel_rfl
theorem F359:compF Tryz.prog 359=some ⟨12,[.tmp 2,.tmp 3],(.g [.c 2 0,.c 3 0] (.join [0] (.g [.m 5 0,.f 6 96 5,.m 4 6] (.g [.m 7 4,.v 8 .neq 7 0] (.i 8 (.g [.m 9 4,.c 2 0,.m 3 9] (.ret [2,3])) .skip))) (.g [.m 10 0,.f 11 376 10,.m 2 11,.c 3 0] (.ret [2,3]))))⟩:=by kernel_rfl
theorem F376:compF Tryz.prog 376=some ⟨24,[.tmp 2],(.g [.c 2 0] (.g [.m 9 0,.s 10 (.f 160 [.t 9,(.w [46])]),.m 8 10,.j 11 0 8,.j 12 1 8,.j 13 2 8,.m 3 11,.m 4 12,.m 5 13] (.g [.m 15 3,.m 16 4,.s 17 (.bin .add (.t 16) (.w [48,48,48])),.s 18 (.slices (.t 17) none (some (.i 3))),.b 19 .add 15 18,.f 20 381 19,.m 14 20,.j 21 0 14,.j 22 1 14,.m 6 21,.m 7 22] (.g [.m 23 6,.m 2 23] (.ret [2])))))⟩:=by kernel_rfl
theorem F195:compF Tryz.prog 195=some ⟨54,[.tmp 2],(.g [.c 2 0] (.g [.m 7 0,.f 8 271 7,.m 6 8,.j 9 0 6,.j 10 1 6,.j 11 2 6,.m 3 9,.m 4 10,.m 5 11] (.join [0,3,4,5] (.join [0,3,4,5,22] (.reg [.m 12 3,.f 13 272 12,.z 14 13,.m 15 14,.mx 16 5 15,.mx 17 16 15,.my 18 4 17,.y 19 (.f 272 [.t 18]) 17,.y 20 (.un .not (.t 19)) 17,.x 21 (.pick (.t 17) (.t 20) (.c (.bool false))) 15,.o 22 15 21]) (.i 22 (.g [.c 2 3] (.ret [2])) .skip)) (.join [0,3,4] (.join [0,3,4,41] (.reg [.m 23 3,.s 24 (.lens (.t 23)),.v 25 .gtr 24 1,.m 26 25,.my 27 3 26,.y 28 (.ichr (.t 27) (.i 0)) 26,.y 29 (.bin .eql (.t 28) (.c (.int .u8 48))) 26,.e 30 26 29,.m 31 30,.mx 32 5 31,.mx 33 32 31,.my 34 4 33,.my 35 4 33,.y 36 (.lens (.t 35)) 33,.vy 37 .sub 36 1 33,.y 38 (.ichr (.t 34) (.t 37)) 33,.y 39 (.bin .eql (.t 38) (.c (.int .u8 48))) 33,.x 40 (.pick (.t 33) (.t 39) (.c (.bool false))) 31,.o 41 31 40]) (.i 41 (.g [.c 2 3] (.ret [2])) .skip)) (.join [] (.join [53] (.reg [.m 42 0,.s 43 (.bin .eql (.t 42) (.w [48])),.m 44 43,.mx 45 3 44,.x 46 (.lens (.t 45)) 44,.vx 47 .gtr 46 4 44,.o 48 44 47,.m 49 48,.mx 50 4 49,.x 51 (.lens (.t 50)) 49,.vx 52 .gtr 51 3 49,.o 53 49 52]) (.i 53 (.g [.c 2 2] (.ret [2])) .skip)) (.g [.c 2 0] (.ret [2])))))))⟩:=by kernel_rfl
def B271_0:Cd:=(.join [0,5] (.g [.m 6 5,.m 7 0,.s 8 (.lens (.t 7)),.b 9 .lss 6 8] (.i 9 .skip (.exit [0] 0))) (.join [0,5] (.block 1 (.g [.m 12 0,.m 13 5,.s 14 (.ichr (.t 12) (.t 13)),.s 15 (.bin .eql (.t 14) (.c (.int .u8 46)))] (.i 15 (.q (.dreg 10 [.m 16 0,.m 17 5,.s 18 (.slices (.t 16) none (some (.t 17))),.m 19 0,.m 20 5,.v 21 .add 20 1,.s 22 (.slices (.t 19) (some (.t 21)) none),.m 2 18,.m 3 22,.k 4 true]) (.ret [2,3,4])) .skip))) (.reg [.m 10 5,.v 11 .add 10 1,.m 5 11])))
theorem F271:compF Tryz.prog 271=some ⟨24,[.tmp 2,.tmp 3,.tmp 4],(.g [.s 2 (.mv (.w [])),.s 3 (.mv (.w [])),.k 4 false] (.join [0] (.g [.c 5 0] (.block 0 (.loop [0,5] [] B271_0))) (.g [.m 23 0,.m 2 23,.s 3 (.mv (.w [])),.k 4 false] (.ret [2,3,4]))))⟩:=by kernel_rfl
def B272_0:Cd:=(.join [0,3] (.g [.m 4 3,.m 5 0,.s 6 (.lens (.t 5)),.b 7 .lss 4 6] (.i 7 .skip (.exit [0] 0))) (.join [0,3] (.block 1 (.join [0,3,19] (.reg [.m 10 0,.m 11 3,.s 12 (.ichr (.t 10) (.t 11)),.s 13 (.bin .lss (.t 12) (.c (.int .u8 48))),.m 14 13,.mx 15 0 14,.mx 16 3 14,.x 17 (.ichr (.t 15) (.t 16)) 14,.x 18 (.bin .gtr (.t 17) (.c (.int .u8 57))) 14,.o 19 14 18]) (.i 19 (.g [.k 2 false] (.ret [2])) .skip))) (.reg [.m 8 3,.v 9 .add 8 1,.m 3 9])))
theorem F272:compF Tryz.prog 272=some ⟨23,[.tmp 2],(.g [.k 2 false] (.join [0] (.g [.c 3 0] (.block 0 (.loop [0,3] [] B272_0))) (.g [.m 20 0,.s 21 (.lens (.t 20)),.v 22 .gtr 21 0,.m 2 22] (.ret [2]))))⟩:=by kernel_rfl
theorem F123:compF Tryz.prog 123=some ⟨17,[.tmp 4],(.g [.c 4 0] (.g [.m 7 0,.f 8 200 7,.m 9 1,.f 10 200 9,.m 5 8,.m 6 10] (.join [5,6] (.g [.m 11 5,.m 12 6,.b 13 .lss 11 12] (.i 13 (.g [.c 4 (-1)] (.ret [4])) .skip)) (.join [] (.g [.m 14 5,.m 15 6,.b 16 .gtr 14 15] (.i 16 (.g [.c 4 1] (.ret [4])) .skip)) (.g [.c 4 0] (.ret [4]))))))⟩:=by kernel_rfl
def B200_0:Cd:=(.join [3,4,6,7] (.g [.m 15 7,.m 16 3,.s 17 (.lens (.t 16)),.b 18 .lss 15 17] (.i 18 .skip (.exit [4,6] 0))) (.join [3,4,6,7] (.block 1 (.reg [.m 21 6,.s 22 (.bin .mul (.i 10) (.t 21)),.m 23 3,.m 24 7,.s 25 (.ichr (.t 23) (.t 24)),.s 26 (.bin .sub (.t 25) (.c (.int .u8 48))),.s 27 (.cvi .i64 (.t 26)),.b 28 .add 22 27,.m 6 28])) (.reg [.m 19 7,.v 20 .add 19 1,.m 7 20])))
def B200_1:Cd:=(.join [4,6,8] (.g [.m 29 8,.v 30 .lss 29 3] (.i 30 .skip (.exit [6] 2))) (.join [4,6,8] (.block 3 (.g [.m 33 6,.s 34 (.bin .mul (.i 10) (.t 33)),.m 6 34] (.g [.m 35 8,.m 36 4,.s 37 (.lens (.t 36)),.b 38 .lss 35 37] (.i 38 (.reg [.m 39 6,.m 40 4,.m 41 8,.s 42 (.ichr (.t 40) (.t 41)),.s 43 (.bin .sub (.t 42) (.c (.int .u8 48))),.s 44 (.cvi .i64 (.t 43)),.b 45 .add 39 44,.m 6 45]) .skip)))) (.reg [.m 31 8,.v 32 .add 31 1,.m 8 32])))
theorem F200:compF Tryz.prog 200=some ⟨47,[.tmp 2],(.g [.c 2 0] (.g [.m 10 0,.f 11 271 10,.m 9 11,.j 12 0 9,.j 13 1 9,.j 14 2 9,.m 3 12,.m 4 13,.m 5 14] (.g [.c 6 0] (.join [4,6] (.g [.c 7 0] (.block 0 (.loop [3,4,6,7] [] B200_0))) (.join [6] (.g [.c 8 0] (.block 2 (.loop [4,6,8] [] B200_1))) (.g [.m 46 6,.m 2 46] (.ret [2])))))))⟩:=by kernel_rfl
end Go.Proofs.YtmjkgajnpmiomaaGreatDoor

namespace Go.Proofs.YtmjkgajnpmiomaaGreatDoor
open Go.Sha
set_option maxRecDepth 10000
variable {g:List (Nat×Obj)}{n:Nat}
def nW (s:List UInt8):List UInt8:=s.takeWhile (· != 46)
def nR (s:List UInt8):List UInt8:=(s.dropWhile (· != 46)).drop 1
theorem h259 {s:List UInt8}(hl:s.length<140737488355328){st:St}:run Tryz.prog HH 160 [.str s,.str [46]] st=some (.ret (.tup [.str (nW s),.str (nR s),.bool (s.contains 46)]),st):=run_H (by
 show(hCut [.str s,.str [46]]).map _=_
 rw[hCut,if_pos hl];rfl)
theorem h263 {s t:List UInt8}(hl:s.length<140737488355328)(ht:t.length≤1000){st:St}:run Tryz.prog HH 164 [.str s,.str t] st=some (.ret (.bool (t.isSuffixOf s)),st):=run_H (by
 show(hSuf [.str s,.str t]).map _=_
 rw[hSuf,if_pos ⟨hl,by omega⟩];rfl)
theorem h279 {s:List UInt8}{st:St}:run Tryz.prog HH 246 [.str s,.fn (.func 247) [] []] st=some (.ret (.bool (s.any (!isD ·))),st):=run_H rfl
def digB (s:List UInt8):Bool:=decide (¬s=[])&&!(s.any (!isD ·))
theorem f162 {s:List UInt8}{st:St}:run Tryz.prog HH 162 [.str s] st=some (.ret (.bool (digB s)),st):=by
 rw[run_shut F162 rfl rfl (by simp)]
 push_cast[h279,digB]
def numC (s:List UInt8):Int:=if digB (nW s)=false then 3 else if(!s.contains 46||digB (nR s)&&![48].isSuffixOf (nR s))=false then 3 else if(decide (((nW s).length:Int)=1)||(((nW s).getD 0 0).toNat:Int) != 48)=false then 3 else if s=[48]∨4<((nW s).length:Int)∨3<((nR s).length:Int) then 2 else 0
theorem digB_len {s:List UInt8}(h:¬digB s=false):0<s.length:=by cases s<;>simp_all [digB]
theorem nR_le {s:List UInt8}:(nR s).length≤s.length:=by
 have:=(List.dropWhile_sublist (p:=(· != 46)) (l:=s)).length_le
 simp only[nR,List.length_drop];omega
theorem f96 {s:List UInt8}(hl:s.length<140737488355328){st:St}:run Tryz.prog HH 96 [.str s] st=some (.ret (.int .i64 (numC s)),st):=by
 have h259:=fun(st:St)=>h259 (st:=st) hl
 have h263:=fun(st:St)=>h263 (s:=nR s) (t:=[48]) (st:=st) (by have:=nR_le (s:=s);omega) (by decide)
 rw[run_shut F96 rfl rfl (by simp)]
 push_cast[h259,h263,f162,(fun(a0:V) (st:St) (h:V.bdL 0 [a0]=false)=>run_open (P:=Tryz.prog) (H:=HH) (args:=[a0]) (st:=st) F161 rfl rfl h),(fun(a0:V) (st:St) (h:V.bdL 0 [a0]=false)=>run_open (P:=Tryz.prog) (H:=HH) (args:=[a0]) (st:=st) F163 rfl rfl h),(fun(a0:V) (st:St) (h:V.bdL 0 [a0]=false)=>run_open (P:=Tryz.prog) (H:=HH) (args:=[a0]) (st:=st) F165 rfl rfl h),runL_of (B96_0.eq_1),numC]
 exact dn_eq (fun h _ _=>by have:=digB_len h;omega) rfl
theorem take_w {p:UInt8→Bool}:∀{s:List UInt8},s.take (s.takeWhile p).length=s.takeWhile p
 |[]=>rfl
 |b::r=>by by_cases h:p b=true<;>simp[List.takeWhile_cons,h,take_w (s:=r)]
theorem drop_w {p:UInt8→Bool}:∀{s:List UInt8},s.drop (s.takeWhile p).length=s.dropWhile p
 |[]=>rfl
 |b::r=>by by_cases h:p b=true<;>simp[List.takeWhile_cons,List.dropWhile_cons,h,drop_w (s:=r)]
theorem L271 {s:List UInt8}(hl:s.length<140737488355328):∀r j,s.drop j=r→runL Tryz.prog HH [0,5] n B271_0 [(0,.str s),(5,.int .i64 j)] (stN g n)=if r.contains 46=true then some (.ret,[(2,.str (s.take (j+(nW r).length))),(3,.str (s.drop (j+(nW r).length+1))),(4,.bool true)],stN g n) else some (.exit 0,[(0,.str s)],stN g n):=by
 refine drop_ind (fun j h=>?_) (fun q r j h hx hd ih=>?_)
 all_goals rw[runL_of B271_0.eq_1]
 ·have h1:¬(j:Int)<s.length:=by omega
  push_cast[h1,List.contains_nil]
 ·have h1:(j:Int)<s.length:=by omega
  have hw:=iw1 (j:=j) (by omega)
  push_cast[h1,hw,hx]at ih ⊢
  refine dn_eq (fun _=>by omega) ?_
  by_cases hq:q=46
  ·subst hq;simp[show((j:Int)+1).toNat=j+1 by omega,nW]
  ·have h2:¬((q.toNat:Int)=46):=fun e=>hq (UInt8.toNat_inj.1 (by simpa using Int.ofNat_inj.1 e))
   have h3:∀n,j+1+n=j+(n+1):=fun n=>by omega
   rw[if_neg h2,ih]
   simp[hq,Ne.symm hq,List.contains_cons,nW,h3,List.takeWhile_cons]
theorem n_none:∀{s:List UInt8},s.contains 46=false→nW s=s∧nR s=[]
 |[],_=>⟨rfl,rfl⟩
 |b::r,h=>by
  have hb:(b != 46)=true:=by simp at h ⊢;exact fun e=>h.1 e.symm
  have hr:r.contains 46=false:=by simp at h ⊢;exact h.2
  have:=n_none hr
  simp only[nW,nR,List.takeWhile_cons,List.dropWhile_cons,hb,if_true]at this ⊢
  exact⟨by rw[this.1],this.2⟩
theorem f271 {s:List UInt8}(hl:s.length<140737488355328){st:St}:run Tryz.prog HH 271 [.str s] st=some (.ret (.tup [.str (nW s),.str (nR s),.bool (s.contains 46)]),st):=by
 rw[run_shut F271 rfl rfl (by simp)]
 have hL0:=fun n=>L271 (g:=st.x.gl) (n:=n) hl _ 0 rfl
 push_cast at hL0
 push_cast[hL0]
 cases h:s.contains 46 with
 |true=>simp[nW,nR,take_w,←List.drop_drop,drop_w]
 |false=>simp[n_none h]
theorem isD_i {q:UInt8}:(isD q=false)=((q.toNat:Int)<48∨57<(q.toNat:Int)):=by simp only[isD,Bool.and_eq_false_iff,decide_eq_false_iff_not,eq_iff_iff];omega
theorem L272 {s:List UInt8}(hl:s.length<140737488355328):∀r j,s.drop j=r→runL Tryz.prog HH [0,3] n B272_0 [(0,.str s),(3,.int .i64 j)] (stN g n)=lpB (stN g n) [(0,.str s)] 2 (r.any (!isD ·)) false:=by
 refine drop_ind (fun j h=>?_) (fun q r j h hx hd ih=>?_)
 all_goals rw[runL_of B272_0.eq_1]
 ·have h1:¬(j:Int)<s.length:=by omega
  push_cast[h1,anyC,List.any_nil,Bool.not_eq_true',isD_i]
 ·have h1:(j:Int)<s.length:=by omega
  have hw:=iw1 (j:=j) (by omega)
  push_cast[h1,hw,hx]at ih ⊢
  simp only[ih,anyC,List.any_nil,Bool.not_eq_true',isD_i,lps,Int.reduceEq,not_false_eq_true]
theorem f272 {s:List UInt8}(hl:s.length<140737488355328){st:St}:run Tryz.prog HH 272 [.str s] st=some (.ret (.bool (digB s)),st):=by
 rw[run_shut F272 rfl rfl (by simp)]
 have hL0:=fun n=>L272 (g:=st.x.gl) (n:=n) hl _ 0 rfl
 push_cast at hL0
 push_cast[hL0,lpB]
 cases s<;>simp[digB]
def vwL:List UInt8→Int→Int
 |[],n=>n
 |b::r,n=>vwL r (IntKind.i64.wrap (IntKind.i64.wrap (10*n)+IntKind.i64.wrap (IntKind.u8.wrap ((b.toNat:Int)-48))))
theorem L200 {s:List UInt8}{v:V}(hl:s.length<140737488355328):∀r j,s.drop j=r→∀m,runL Tryz.prog HH [3,4,6,7] n B200_0 [(3,.str s),(4,v),(6,.int .i64 m),(7,.int .i64 j)] (stN g n)=some (.exit 0,[(4,v),(6,.int .i64 (vwL r m))],stN g n):=by
 refine drop_ind (fun j h m=>?_) (fun q r j h hx hd ih m=>?_)
 all_goals rw[runL_of B200_0.eq_1]
 ·have h1:¬(j:Int)<s.length:=by omega
  push_cast[h1,vwL]
 ·have h1:(j:Int)<s.length:=by omega
  have hw:=iw1 (j:=j) (by omega)
  push_cast[h1,hw,hx]at ih ⊢
  simp only[ih,vwL]
theorem nW_len {s:List UInt8}(hl:s.length<140737488355328):(nW s).length<140737488355328:=Nat.lt_of_le_of_lt (List.takeWhile_prefix _).length_le hl
theorem nR_len {s:List UInt8}(hl:s.length<140737488355328):(nR s).length<140737488355328:=by
 have:=(List.dropWhile_suffix (l:=s) (· != (46:UInt8))).length_le
 simp only[nR,List.length_drop];omega
def nxV (r:List UInt8)(k:Nat)(n:Int):Int:=if(k:Int)<(r.length:Int) then IntKind.i64.wrap (IntKind.i64.wrap (10*n)+IntKind.i64.wrap (IntKind.u8.wrap (((r.getD k 0).toNat:Int)-48))) else IntKind.i64.wrap (10*n)
def refV (s:List UInt8):Int:=nxV (nR s) 2 (nxV (nR s) 1 (nxV (nR s) 0 (vwL (nW s) 0)))
theorem f200 {s:List UInt8}(hl:s.length<140737488355328){st:St}:run Tryz.prog HH 200 [.str s] st=some (.ret (.int .i64 (refV s)),st):=by
 rw[run_shut F200 rfl rfl (by simp)]
 have hL0:=fun v m n=>L200 (g:=st.x.gl) (n:=n) (v:=v) (nW_len hl) _ 0 rfl m
 push_cast at hL0
 push_cast[f271 hl,hL0,runL_of B200_1.eq_1]
 exact dn_eq (by omega) rfl
theorem f123 {s t:List UInt8}(hl:s.length<140737488355328)(hk:t.length<140737488355328){st:St}:run Tryz.prog HH 123 [.str s,.str t] st=some (.ret (.int .i64 (if refV s<refV t then -1 else if refV t<refV s then 1 else 0)),st):=by
 rw[run_shut F123 rfl rfl (by simp)]
 push_cast[f200 hl,f200 hk]
theorem suf_last {r:List UInt8}(h:¬r=[]):[48].isSuffixOf r=(((r.getD (r.length-1) 0).toNat:Int) == 48):=by
 obtain⟨a,b,rfl⟩:=(List.eq_nil_or_concat r).resolve_left h
 have h48:∀c:UInt8,(((c.toNat:Int)) == 48)=(48 == c):=fun c=>by
  rw[Bool.eq_iff_iff,beq_iff_eq,beq_iff_eq]
  exact⟨fun e=>UInt8.toNat_inj.1 (by simpa using(Int.ofNat_inj.1 e).symm),fun e=>by rw[←e];rfl⟩
 simp[List.isSuffixOf,h48,List.isPrefixOf]
theorem f195 {s:List UInt8}(hl:s.length<140737488355328){st:St}:run Tryz.prog HH 195 [.str s] st=some (.ret (.int .i64 (numC s)),st):=by
 have h3:=nR_len hl
 rw[run_shut F195 rfl rfl (by simp)]
 push_cast[f271 hl,f272 (nW_len hl),f272 (nR_len hl),iwrap_pred (nR_len hl)]
 refine dn_eq (fun h=>?_) ?_
 ·have h4:s.contains 46=true→0<(nR s).length:=fun e=>by
   by_cases hd:digB (nR s)=false
   ·exact absurd (.inr ⟨e,hd⟩) h
   ·exact digB_len hd
  exact⟨fun _ e=>by have:=h4 e;omega,fun h1=>⟨by omega,fun _ e=>by have:=h4 e;omega⟩⟩
 ·congr 4
  unfold numC
  cases h1:digB (nW s) with
  |false=>simp
  |true =>
   have hw:=digB_len (by simp[h1]:¬digB (nW s)=false)
   have e1:((1:Int)<(nW s).length)=¬((nW s).length:Int)=1:=propext (by omega)
   cases h2:s.contains 46 with
   |false =>
    simp[e1]
   |true =>
    cases h5:digB (nR s) with
    |false=>simp
    |true =>
     rw[suf_last (by rintro e;rw[e]at h5;simp[digB]at h5)]
     simp only[e1]
     generalize (((nR s).getD ((nR s).length-1) 0).toNat:Int)=x
     generalize (((nW s).getD 0 0).toNat:Int)=y
     by_cases p1:((nW s).length:Int)=1<;>by_cases p2:x=48<;>by_cases p3:y=48<;>simp[p1,p2,p3]
theorem h308 {s:List UInt8}{st:St}(h:s≠[]∧s.all isD=true∧s.length≤18):run Tryz.prog HH 381 [.str s] st=some (.ret (.tup [.int .i64 (natOf s),.nili]),st):=run_H (congrArg (Option.map fun r=>(r,st)) (show hAtoi [.str s]=some (.ret (.tup [.int .i64 (natOf s),.nili])) from if_pos h))
abbrev numS (s:List UInt8):List UInt8:=nW s++(nR s++[48,48,48]).take 3
theorem digB_all {s:List UInt8}(h:digB s=true):∀b∈s,isD b=true:=by
 simp only[digB,Bool.and_eq_true,Bool.not_eq_true',List.any_eq_false]at h
 intro b hb;have:=h.2 b hb;simpa using this
theorem numS_ok {s:List UInt8}(h:numC s=0):numS s≠[]∧(numS s).all isD=true∧(numS s).length≤18:=by
 unfold numC at h
 split at h
 ·cases h
 ·rename_i h1
  split at h
  ·cases h
  ·rename_i h2
   split at h
   ·cases h
   ·split at h
    ·cases h
    ·rename_i h3 h4
     have h5:digB (nW s)=true:=by simpa using h1
     have h6:∀b∈nR s,isD b=true:=by
      cases hc:s.contains 46 with
      |false=>rw[(n_none hc).2];simp
      |true=>rw[hc]at h2;simp at h2;exact digB_all h2.1
     refine⟨?_,?_,?_⟩
     ·intro e;simp[numS,List.append_eq_nil_iff]at e
     ·simp only[numS,List.all_eq_true,List.mem_append]
      rintro b (hb|hb)
      ·exact digB_all h5 b hb
      ·rcases List.mem_append.1 (List.mem_of_mem_take hb) with hb|hb
       ·exact h6 b hb
       ·simp at hb;subst hb;rfl
     ·simp[numS];omega
theorem f376 {s:List UInt8}(hl:s.length<140737488355328)(h:numC s=0){st:St}:run Tryz.prog HH 376 [.str s] st=some (.ret (.int .i64 (natOf (numS s))),st):=by
 have h1:(3:Int)≤((nR s++[48,48,48]).length:Nat):=by simp;omega
 rw[run_shut F376 rfl rfl (by simp)]
 push_cast[h259 hl,h308 (numS_ok h)]
 have a:=nW_len hl;have b:=nR_len hl
 exact dn_eq (by simp;omega) rfl
def valN (s:List UInt8):Int:=if numC s=0 then natOf (numS s) else 0
theorem f359 {s:List UInt8}(hl:s.length<140737488355328){st:St}:run Tryz.prog HH 359 [.str s] st=some (.ret (.tup [.int .i64 (valN s),.int .i64 (numC s)]),st):=by
 rw[run_shut F359 rfl rfl (by simp)]
 by_cases h:numC s=0
 ·push_cast[f96 hl,f376 hl h,h,valN]
 ·push_cast[f96 hl,h,valN]
theorem f326 {s t:List UInt8}(hl:s.length<140737488355328)(hk:t.length<140737488355328){st:St}:run Tryz.prog HH 326 [.str s,.str t] st=some (.ret (.tup [.int .i64 (if ¬numC s=0 then 0 else if ¬numC t=0 then 0 else valN s),.int .i64 (if ¬numC s=0 then 0 else if ¬numC t=0 then 0 else valN t),.int .i64 (if ¬numC s=0 then numC s else if ¬numC t=0 then numC t else 0)]),st):=by
 rw[run_shut F326 rfl rfl (by simp)]
 push_cast[f359 hl,f359 hk]
def cmpN (s t:List UInt8):Int:=if ¬numC s=0∨¬numC t=0 then 0 else if valN s<valN t then -1 else if valN t<valN s then 1 else 0
theorem f296 {s t:List UInt8}(hl:s.length<140737488355328)(hk:t.length<140737488355328){st:St}:run Tryz.prog HH 296 [.str s,.str t] st=some (.ret (.tup [.int .i64 (cmpN s t),.int .i64 (if ¬numC s=0 then numC s else if ¬numC t=0 then numC t else 0)]),st):=by
 rw[run_shut F296 rfl rfl (by simp)]
 push_cast[f326 hl hk,cmpN]
 by_cases h1:numC s=0<;>by_cases h2:numC t=0<;>simp[h1,h2]
end Go.Proofs.YtmjkgajnpmiomaaGreatDoor

namespace Go.Proofs.YtmjkgajnpmiomaaGreatDoor
open Go.Sha
set_option maxRecDepth 10000
theorem F221:compF Tryz.prog 221=some ⟨24,[.tmp 4],(.g [.q 2 196 0,.c 4 0] (.z [2] (.join [] (.join [23] (.reg [.a 5 0 2,.l 6 5,.m 7 1,.b 8 .lss 6 7,.m 9 8,.ax 10 0 2 9,.lx 11 10 9,.vx 12 .gtr 11 999 9,.o 13 9 12,.m 14 13,.ax 15 1 2 14,.lx 16 15 14,.vx 17 .lss 16 0 14,.o 18 14 17,.m 19 18,.ax 20 1 2 19,.lx 21 20 19,.vx 22 .geq 21 15 19,.o 23 19 22]) (.i 23 (.g [.c 4 2] (.ret [4])) .skip)) (.g [.c 4 0] (.ret [4])))))⟩:=by kernel_rfl
theorem F227:compF Tryz.prog 227=some ⟨21,[.tmp 2],(.g [.q 1 196 0,.c 2 0] (.z [1] (.join [] (.join [20] (.reg [.a 3 0 1,.l 4 3,.v 5 .lss 4 1,.m 6 5,.ax 7 0 1 6,.lx 8 7 6,.vx 9 .gtr 8 999 6,.o 10 6 9,.m 11 10,.ax 12 1 1 11,.lx 13 12 11,.vx 14 .lss 13 0 11,.o 15 11 14,.m 16 15,.ax 17 1 1 16,.lx 18 17 16,.vx 19 .geq 18 15 16,.o 20 16 19]) (.i 20 (.g [.c 2 2] (.ret [2])) .skip)) (.g [.c 2 0] (.ret [2])))))⟩:=by kernel_rfl
theorem F327:compF Tryz.prog 327=some ⟨21,[.tmp 2],(.g [.q 1 196 0,.c 2 0] (.z [1] (.join [] (.join [20] (.reg [.a 3 0 1,.l 4 3,.v 5 .lss 4 1,.m 6 5,.ax 7 0 1 6,.lx 8 7 6,.vx 9 .gtr 8 999 6,.o 10 6 9,.m 11 10,.ax 12 1 1 11,.lx 13 12 11,.vx 14 .lss 13 0 11,.o 15 11 14,.m 16 15,.ax 17 1 1 16,.lx 18 17 16,.vx 19 .geq 18 15 16,.o 20 16 19]) (.i 20 (.g [.c 2 2] (.ret [2])) .skip)) (.g [.c 2 0] (.ret [2])))))⟩:=by kernel_rfl
theorem F131:compF Tryz.prog 131=some ⟨21,[.tmp 2],(.g [.q 1 196 0,.c 2 0] (.z [1] (.join [] (.join [20] (.reg [.a 3 0 1,.l 4 3,.v 5 .lss 4 1,.m 6 5,.ax 7 0 1 6,.lx 8 7 6,.vx 9 .gtr 8 999 6,.o 10 6 9,.m 11 10,.ax 12 1 1 11,.lx 13 12 11,.vx 14 .lss 13 0 11,.o 15 11 14,.m 16 15,.ax 17 1 1 16,.lx 18 17 16,.vx 19 .geq 18 15 16,.o 20 16 19]) (.i 20 (.g [.c 2 2] (.ret [2])) .skip)) (.g [.c 2 0] (.ret [2])))))⟩:=by kernel_rfl
theorem F225:compF Tryz.prog 225=some ⟨20,[.tmp 4],(.g [.q 2 196 0,.q 3 196 1,.c 4 0] (.z [2,3] (.join [2,3] (.g [.a 5 0 2,.l 6 5,.a 7 0 3,.l 8 7,.b 9 .neq 6 8] (.i 9 (.g [.a 10 0 2,.l 11 10,.a 12 0 3,.l 13 12,.b 14 .sub 11 13,.m 4 14] (.ret [4])) .skip)) (.g [.a 15 1 2,.l 16 15,.a 17 1 3,.l 18 17,.b 19 .sub 16 18,.m 4 19] (.ret [4])))))⟩:=by kernel_rfl
theorem F228:compF Tryz.prog 228=some ⟨20,[.tmp 4],(.g [.q 2 196 0,.q 3 196 1,.c 4 0] (.z [2,3] (.join [2,3] (.g [.a 5 0 2,.l 6 5,.a 7 0 3,.l 8 7,.b 9 .neq 6 8] (.i 9 (.g [.a 10 0 2,.l 11 10,.a 12 0 3,.l 13 12,.b 14 .sub 11 13,.m 4 14] (.ret [4])) .skip)) (.g [.a 15 1 2,.l 16 15,.a 17 1 3,.l 18 17,.b 19 .sub 16 18,.m 4 19] (.ret [4])))))⟩:=by kernel_rfl
theorem F329:compF Tryz.prog 329=some ⟨20,[.tmp 4],(.g [.q 2 196 0,.q 3 196 1,.c 4 0] (.z [2,3] (.join [2,3] (.g [.a 5 0 2,.l 6 5,.a 7 0 3,.l 8 7,.b 9 .neq 6 8] (.i 9 (.g [.a 10 0 2,.l 11 10,.a 12 0 3,.l 13 12,.b 14 .sub 11 13,.m 4 14] (.ret [4])) .skip)) (.g [.a 15 1 2,.l 16 15,.a 17 1 3,.l 18 17,.b 19 .sub 16 18,.m 4 19] (.ret [4])))))⟩:=by kernel_rfl
theorem F130:compF Tryz.prog 130=some ⟨24,[.tmp 4],(.g [.q 2 196 0,.q 3 196 1,.k 4 false] (.z [2,3] (.join [4] (.reg [.a 5 0 2,.l 6 5,.a 7 0 3,.l 8 7,.b 9 .lss 6 8,.m 10 9,.ax 11 0 2 10,.lx 12 11 10,.ax 13 0 3 10,.lx 14 13 10,.bx 15 .eql 12 14 10,.mx 16 15 10,.ay 17 1 2 16,.ly 18 17 16,.ay 19 1 3 16,.ly 20 19 16,.by' 21 .lss 18 20 16,.x 22 (.pick (.t 16) (.t 21) (.c (.bool false))) 10,.o 23 10 22,.m 4 23]) (.ret [4]))))⟩:=by kernel_rfl
theorem F222:compF Tryz.prog 222=some ⟨8,[.cell 2 (some 2)],(.g [.q 1 125 0,.s 2 (.alloc 196 [.i 0,.i 0])] (.z [1] (.g [.a 3 0 1,.l 4 3,.a 5 1 1,.l 6 5,.s 7 (.build [.i 0,.i 0] [(0,1,(.t 4)),(1,1,(.t 6))]),.w 2 2 7] (.ret [2]))))⟩:=by kernel_rfl
theorem F328:compF Tryz.prog 328=some ⟨31,[.tmp 2],(.g [.q 1 270 0,.c 2 0] (.z [1] (.join [] (.block 0 (.join [1,3] (.reg [.a 4 0 1,.l 5 4,.v 6 .eql 5 0,.m 7 6,.ay 8 1 1 7,.ly 9 8 7,.y 10 (.f 220 [.t 9]) 7,.e 11 7 10,.m 3 11]) (.i 3 (.g [.c 2 0] (.ret [2])) (.join [12] (.reg [.a 13 0 1,.l 14 13,.v 15 .geq 14 (-1),.m 16 15,.ay 17 0 1 16,.ly 18 17 16,.vy 19 .neq 18 0 16,.e 20 16 19,.m 21 20,.ay 22 0 1 21,.ly 23 22 21,.vy 24 .leq 23 1048576 21,.e 25 21 24,.m 26 25,.ay 27 1 1 26,.ly 28 27 26,.vy 29 .eql 28 0 26,.e 30 26 29,.m 12 30]) (.i 12 (.g [.c 2 0] (.ret [2])) .skip))))) (.g [.c 2 2] (.ret [2])))))⟩:=by kernel_rfl
theorem F273:compF Tryz.prog 273=some ⟨31,[.tmp 2],(.g [.q 1 270 0,.c 2 0] (.z [1] (.join [] (.join [30] (.reg [.a 3 0 1,.l 4 3,.v 5 .eql 4 0,.m 6 5,.ay 7 1 1 6,.ly 8 7 6,.y 9 (.f 129 [.t 8]) 6,.e 10 6 9,.m 11 10,.ax 12 0 1 11,.lx 13 12 11,.vx 14 .geq 13 (-1) 11,.mx 15 14 11,.ay 16 0 1 15,.ly 17 16 15,.vy 18 .leq 17 1048576 15,.x 19 (.pick (.t 15) (.t 18) (.c (.bool false))) 11,.mx 20 19 11,.ay 21 0 1 20,.ly 22 21 20,.vy 23 .neq 22 0 20,.x 24 (.pick (.t 20) (.t 23) (.c (.bool false))) 11,.mx 25 24 11,.ay 26 1 1 25,.ly 27 26 25,.vy 28 .eql 27 0 25,.x 29 (.pick (.t 25) (.t 28) (.c (.bool false))) 11,.o 30 11 29]) (.i 30 (.g [.c 2 0] (.ret [2])) .skip)) (.g [.c 2 2] (.ret [2])))))⟩:=by kernel_rfl
theorem F129:compF Tryz.prog 129=some ⟨9,[.tmp 2],(.g [.k 2 false] (.join [2] (.reg [.m 3 0,.v 4 .geq 3 0,.m 5 4,.my 6 0 5,.vy 7 .leq 6 65535 5,.e 8 5 7,.m 2 8]) (.ret [2])))⟩:=by kernel_rfl
theorem F220:compF Tryz.prog 220=some ⟨9,[.tmp 2],(.g [.k 2 false] (.join [2] (.reg [.m 3 0,.v 4 .geq 3 0,.m 5 4,.my 6 0 5,.vy 7 .leq 6 65535 5,.e 8 5 7,.m 2 8]) (.ret [2])))⟩:=by kernel_rfl
theorem F219:compF Tryz.prog 219=some ⟨10,[.tmp 2],(.g [.q 1 125 0,.c 2 0] (.z [1] (.join [1] (.g [.a 3 2 1,.l 4 3,.f 5 220 4,.z 6 5] (.i 6 (.g [.c 2 2] (.ret [2])) .skip)) (.g [.d 7 3 1,.f 8 222 7,.s 9 (.f 221 [.t 8,.i 0]),.m 2 9] (.ret [2])))))⟩:=by kernel_rfl
def B223_0:Cd:=(.g [.b 19 .lss 18 17] (.join [0,2,3,16,17,18] (.i 19 .skip (.exit [] 0)) (.join [0,2,3,16,17,18] (.block 1 (.g [.m 20 18,.r 21 3 16 18,.d 22 3 21,.s 10 (.alloc 125 [.i 0,.i 0,.i 0]),.m 9 20,.w 3 10 22] (.z [10] (.join [0,2,3,9,10,16,17,18] (.g [.m 23 2,.d 24 3 10,.s 25 (.call (.t 23) [.t 24]),.m 11 25] (.g [.m 26 11,.v 27 .neq 26 0] (.i 27 (.g [.m 28 11,.m 8 28] (.ret [8])) .skip))) (.join [0,2,3,16,17,18,41] (.dreg 13 [.m 29 9,.v 30 .gtr 29 0,.m 31 30,.my 32 3 31,.my 33 0 31,.my 34 9 31,.vy 35 .sub 34 1 31,.ry 36 3 33 35 31,.y 37 (.load (some 3) (.t 36)) 31,.y 38 (.load (some 3) (.t 10)) 31,.y 39 (.call (.t 32) [.t 37,.t 38]) 31,.vy 40 .geq 39 0 31,.e 41 31 40]) (.i 41 (.g [.c 8 9] (.ret [8])) .skip)))))) (.reg [.v 42 .add 18 1,.m 18 42]))))
theorem F223:compF Tryz.prog 223=some ⟨43,[.tmp 8],(.g [.c 8 0] (.join [0,2,3] (.g [.m 12 0,.u 13 12,.m 14 1,.b 15 .gtr 13 14] (.i 15 (.g [.c 8 5] (.ret [8])) .skip)) (.join [] (.g [.m 16 0,.u 17 16,.c 18 0] (.block 0 (.loop [0,2,3,16,17,18] [] B223_0))) (.g [.c 8 0] (.ret [8])))))⟩:=by kernel_rfl
theorem F224:compF Tryz.prog 224=some ⟨10,[.tmp 4],(.g [.q 2 125 0,.q 3 125 1,.c 4 0] (.z [2,3] (.q (.dreg 6 [.d 5 3 2,.f 6 222 5,.d 7 3 3,.f 8 222 7,.g' 9 225 6 8,.m 4 9]) (.ret [4]))))⟩:=by kernel_rfl
theorem F137:compF Tryz.prog 137=some ⟨7,[.tmp 2],(.g [.c 2 0] (.g [.s 3 (.mv (.c (.fn (.func 219) [] [])))] (.g [.m 4 0,.m 5 3,.s 6 (.f 223 [.t 4,.i 256,.t 5,(.c (.fn (.func 224) [] []))]),.m 2 6] (.ret [2]))))⟩:=by kernel_rfl
def B84_0:Cd:=(.g [.b 12 .lss 11 10] (.join [0,9,10,11] (.i 12 .skip (.exit [] 0)) (.join [0,9,10,11] (.block 1 (.g [.m 13 11,.r 14 2 9 11,.d 15 2 14,.s 4 (.alloc 44 [.i 0,.nils]),.m 3 13,.w 2 4 15] (.z [4] (.join [0,4,9,10,11] (.block 2 (.join [0,3,4,9,10,11,16] (.reg [.a 17 0 4,.l 18 17,.v 19 .lss 18 1,.m 20 19,.ax 21 0 4 20,.lx 22 21 20,.vx 23 .gtr 22 1048576 20,.o 24 20 23,.m 16 24]) (.i 16 (.g [.c 2 2] (.ret [2])) (.join [0,4,9,10,11,25] (.dreg 14 [.m 26 3,.v 27 .gtr 26 0,.m 28 27,.ay 29 0 4 28,.ly 30 29 28,.my 31 0 28,.my 32 3 28,.vy 33 .sub 32 1 28,.ry 34 2 31 33 28,.ay 35 0 34 28,.ly 36 35 28,.by' 37 .leq 30 36 28,.e 38 28 37,.m 25 38]) (.i 25 (.g [.c 2 9] (.ret [2])) .skip))))) (.g [.a 39 1 4,.l 40 39,.f 41 137 40,.m 5 41] (.g [.m 42 5,.v 43 .neq 42 0] (.i 43 (.g [.m 44 5,.m 2 44] (.ret [2])) .skip))))))) (.reg [.v 45 .add 11 1,.m 11 45]))))
theorem F84:compF Tryz.prog 84=some ⟨46,[.tmp 2],(.g [.c 2 0] (.join [0] (.g [.m 6 0,.u 7 6,.v 8 .gtr 7 32] (.i 8 (.g [.c 2 5] (.ret [2])) .skip)) (.join [] (.g [.m 9 0,.u 10 9,.c 11 0] (.block 0 (.loop [0,9,10,11] [] B84_0))) (.g [.c 2 0] (.ret [2])))))⟩:=by kernel_rfl
def B74_0:Cd:=(.join [0,3] (.g [.m 8 3,.m 9 0,.u 10 9,.b 11 .lss 8 10] (.i 11 .skip (.exit [] 0))) (.join [0,3] (.block 1 (.g [.m 14 0,.m 15 3,.r 16 3 14 15,.d 17 3 16,.s 4 (.alloc 125 [.i 0,.i 0,.i 0]),.w 3 4 17] (.z [4] (.join [0,3,4] (.join [0,3,4,41] (.reg [.a 18 0 4,.l 19 18,.v 20 .lss 19 0,.m 21 20,.ax 22 0 4 21,.lx 23 22 21,.vx 24 .gtr 23 999 21,.o 25 21 24,.m 26 25,.ax 27 1 4 26,.lx 28 27 26,.vx 29 .lss 28 0 26,.o 30 26 29,.m 31 30,.ax 32 1 4 31,.lx 33 32 31,.vx 34 .geq 33 15 31,.o 35 31 34,.m 36 35,.ax 37 2 4 36,.lx 38 37 36,.x 39 (.f 129 [.t 38]) 36,.x 40 (.un .not (.t 39)) 36,.o 41 36 40]) (.i 41 (.g [.c 2 2] (.ret [2])) .skip)) (.join [0,3,65] (.dreg 24 [.m 42 3,.v 43 .gtr 42 0,.m 44 43,.my 45 0 44,.my 46 3 44,.vy 47 .sub 46 1 44,.ry 48 3 45 47 44,.ay 49 0 48 44,.ly 50 49 44,.my 51 0 44,.my 52 3 44,.vy 53 .sub 52 1 44,.ry 54 3 51 53 44,.ay 55 1 54 44,.ly 56 55 44,.y 57 (.build [.i 0,.i 0] [(0,1,(.t 50)),(1,1,(.t 56))]) 44,.ay 58 0 4 44,.ly 59 58 44,.ay 60 1 4 44,.ly 61 60 44,.y 62 (.build [.i 0,.i 0] [(0,1,(.t 59)),(1,1,(.t 61))]) 44,.y 63 (.f 130 [.t 57,.t 62]) 44,.y 64 (.un .not (.t 63)) 44,.e 65 44 64]) (.i 65 (.g [.c 2 9] (.ret [2])) .skip)))))) (.reg [.m 12 3,.v 13 .add 12 1,.m 3 13])))
theorem F74:compF Tryz.prog 74=some ⟨66,[.tmp 2],(.g [.c 2 0] (.join [0] (.g [.m 5 0,.u 6 5,.v 7 .gtr 6 256] (.i 7 (.g [.c 2 5] (.ret [2])) .skip)) (.join [] (.g [.c 3 0] (.block 0 (.loop [0,3] [] B74_0))) (.g [.c 2 0] (.ret [2])))))⟩:=by kernel_rfl
def B38_0:Cd:=(.join [0,3] (.g [.m 8 3,.m 9 0,.u 10 9,.b 11 .lss 8 10] (.i 11 .skip (.exit [] 0))) (.join [0,3] (.block 1 (.join [0,3] (.join [0,3,27] (.reg [.m 14 0,.m 15 3,.r 16 2 14 15,.a 17 0 16,.l 18 17,.v 19 .lss 18 1,.m 20 19,.mx 21 0 20,.mx 22 3 20,.x 23 (.iadr 2 (.t 21) (.t 22)) 20,.ax 24 0 23 20,.lx 25 24 20,.vx 26 .gtr 25 1048576 20,.o 27 20 26]) (.i 27 (.g [.c 2 2] (.ret [2])) .skip)) (.join [0,3] (.join [0,3,43] (.dreg 16 [.m 28 3,.v 29 .gtr 28 0,.m 30 29,.my 31 0 30,.my 32 3 30,.ry 33 2 31 32 30,.ay 34 0 33 30,.ly 35 34 30,.my 36 0 30,.my 37 3 30,.vy 38 .sub 37 1 30,.ry 39 2 36 38 30,.ay 40 0 39 30,.ly 41 40 30,.by' 42 .leq 35 41 30,.e 43 30 42]) (.i 43 (.g [.c 2 9] (.ret [2])) .skip)) (.g [.m 44 0,.m 45 3,.r 46 2 44 45,.a 47 1 46,.l 48 47,.f 49 74 48,.m 4 49] (.g [.m 50 4,.v 51 .neq 50 0] (.i 51 (.g [.m 52 4,.m 2 52] (.ret [2])) .skip)))))) (.reg [.m 12 3,.v 13 .add 12 1,.m 3 13])))
theorem F38:compF Tryz.prog 38=some ⟨53,[.tmp 2],(.g [.c 2 0] (.join [0] (.g [.m 5 0,.u 6 5,.v 7 .gtr 6 32] (.i 7 (.g [.c 2 5] (.ret [2])) .skip)) (.join [] (.g [.c 3 0] (.block 0 (.loop [0,3] [] B38_0))) (.g [.c 2 0] (.ret [2])))))⟩:=by kernel_rfl
end Go.Proofs.YtmjkgajnpmiomaaGreatDoor

namespace Go.Proofs.YtmjkgajnpmiomaaGreatDoor
open Go.Sha
set_option maxRecDepth 10000
variable {g:List (Nat×Obj)}{n:Nat}
def prmC (c:Int)(x:Prm):Int:=if x.chan<c∨999<x.chan∨x.attr<0∨15≤x.attr then 2 else 0
theorem f227 {x:Prm}{st:St}:run Tryz.prog HH 227 [x.v] st=some (.ret (.int .i64 (prmC 1 x)),st):=by
 rw[run_shut F227 rfl rfl (by simp)]
 push_cast[Prm.v,prmC]
theorem f327 {x:Prm}{st:St}:run Tryz.prog HH 327 [x.v] st=some (.ret (.int .i64 (prmC 1 x)),st):=by
 rw[run_shut F327 rfl rfl (by simp)]
 push_cast[Prm.v,prmC]
theorem f131 {x:Prm}{st:St}:run Tryz.prog HH 131 [x.v] st=some (.ret (.int .i64 (prmC 1 x)),st):=by
 rw[run_shut F131 rfl rfl (by simp)]
 push_cast[Prm.v,prmC]
theorem f221 {x:Prm}{c:Int}{st:St}:run Tryz.prog HH 221 [x.v,.int .i64 c] st=some (.ret (.int .i64 (prmC c x)),st):=by
 rw[run_shut F221 rfl rfl (by simp)]
 push_cast[Prm.v,prmC]
def cmpP (x y:Prm):Int:=if ¬x.chan=y.chan then IntKind.i64.wrap (x.chan-y.chan) else IntKind.i64.wrap (x.attr-y.attr)
theorem f225 {x y:Prm}{st:St}:run Tryz.prog HH 225 [x.v,y.v] st=some (.ret (.int .i64 (cmpP x y)),st):=by
 rw[run_shut F225 rfl rfl (by simp)]
 push_cast[Prm.v,cmpP]
theorem f228 {x y:Prm}{st:St}:run Tryz.prog HH 228 [x.v,y.v] st=some (.ret (.int .i64 (cmpP x y)),st):=by
 rw[run_shut F228 rfl rfl (by simp)]
 push_cast[Prm.v,cmpP]
theorem f329 {x y:Prm}{st:St}:run Tryz.prog HH 329 [x.v,y.v] st=some (.ret (.int .i64 (cmpP x y)),st):=by
 rw[run_shut F329 rfl rfl (by simp)]
 push_cast[Prm.v,cmpP]
def befP (x y:Prm):Bool:=decide (x.chan<y.chan)||decide (x.chan=y.chan)&&decide (x.attr<y.attr)
theorem f130 {x y:Prm}{st:St}:run Tryz.prog HH 130 [x.v,y.v] st=some (.ret (.bool (befP x y)),st):=by
 rw[run_shut F130 rfl rfl (by simp)]
 push_cast[Prm.v,befP]
theorem p227 {a b:Int}{st:St}:run Tryz.prog HH 227 [.agg [.int .i64 a,.int .i64 b]] st=some (.ret (.int .i64 (prmC 1 ⟨a,b⟩)),st):=f227 (x:=⟨a,b⟩)
theorem p327 {a b:Int}{st:St}:run Tryz.prog HH 327 [.agg [.int .i64 a,.int .i64 b]] st=some (.ret (.int .i64 (prmC 1 ⟨a,b⟩)),st):=f327 (x:=⟨a,b⟩)
theorem p131 {a b:Int}{st:St}:run Tryz.prog HH 131 [.agg [.int .i64 a,.int .i64 b]] st=some (.ret (.int .i64 (prmC 1 ⟨a,b⟩)),st):=f131 (x:=⟨a,b⟩)
theorem p221 {a b c:Int}{st:St}:run Tryz.prog HH 221 [.agg [.int .i64 a,.int .i64 b],.int .i64 c] st=some (.ret (.int .i64 (prmC c ⟨a,b⟩)),st):=f221 (x:=⟨a,b⟩)
theorem p225 {a b c d:Int}{st:St}:run Tryz.prog HH 225 [.agg [.int .i64 a,.int .i64 b],.agg [.int .i64 c,.int .i64 d]] st=some (.ret (.int .i64 (cmpP ⟨a,b⟩ ⟨c,d⟩)),st):=f225 (x:=⟨a,b⟩) (y:=⟨c,d⟩)
theorem p228 {a b c d:Int}{st:St}:run Tryz.prog HH 228 [.agg [.int .i64 a,.int .i64 b],.agg [.int .i64 c,.int .i64 d]] st=some (.ret (.int .i64 (cmpP ⟨a,b⟩ ⟨c,d⟩)),st):=f228 (x:=⟨a,b⟩) (y:=⟨c,d⟩)
theorem p329 {a b c d:Int}{st:St}:run Tryz.prog HH 329 [.agg [.int .i64 a,.int .i64 b],.agg [.int .i64 c,.int .i64 d]] st=some (.ret (.int .i64 (cmpP ⟨a,b⟩ ⟨c,d⟩)),st):=f329 (x:=⟨a,b⟩) (y:=⟨c,d⟩)
theorem p130 {a b c d:Int}{st:St}:run Tryz.prog HH 130 [.agg [.int .i64 a,.int .i64 b],.agg [.int .i64 c,.int .i64 d]] st=some (.ret (.bool (befP ⟨a,b⟩ ⟨c,d⟩)),st):=f130 (x:=⟨a,b⟩) (y:=⟨c,d⟩)
abbrev Hue.p (x:Hue):Prm:=⟨x.chan,x.attr⟩
theorem f222 {x:Hue}{st:St}:run Tryz.prog HH 222 [x.v] st=some (.ret (Prm.v x.p),st):=by
 rw[run_shut F222 rfl rfl (by simp)]
 push_cast[Hue.v,Prm.v,Hue.p]
theorem f220 {v:Int}{st:St}:run Tryz.prog HH 220 [.int .i64 v] st=some (.ret (.bool (decide (lvl v))),st):=by
 rw[run_shut F220 rfl rfl (by simp)]
 push_cast
 all_goals ((repeat' split)<;>simp_all)
theorem f129 {v:Int}{st:St}:run Tryz.prog HH 129 [.int .i64 v] st=some (.ret (.bool (decide (lvl v))),st):=by
 rw[run_shut F129 rfl rfl (by simp)]
 push_cast
 all_goals ((repeat' split)<;>simp_all)
def valC (x:Val):Int:=if x.pal=0∧lvl x.lev∨-1≤x.pal∧¬x.pal=0∧x.pal≤1048576∧x.lev=0 then 0 else 2
theorem f328 {x:Val}{st:St}:run Tryz.prog HH 328 [x.v] st=some (.ret (.int .i64 (valC x)),st):=by
 rw[run_shut F328 rfl rfl (by simp)]
 push_cast[Val.v,valC,f220]
 by_cases h1:x.pal=0<;>by_cases h2:lvl x.lev<;>simp[h1,h2]
theorem p328 {a b:Int}{st:St}:run Tryz.prog HH 328 [.agg [.int .i64 a,.int .i64 b]] st=some (.ret (.int .i64 (valC ⟨a,b⟩)),st):=f328 (x:=⟨a,b⟩)
theorem f273 {x:Val}{st:St}:run Tryz.prog HH 273 [x.v] st=some (.ret (.int .i64 (valC x)),st):=by
 rw[run_shut F273 rfl rfl (by simp)]
 push_cast[Val.v,valC,f129]
 by_cases h1:x.pal=0<;>by_cases h2:lvl x.lev<;>simp[h1,h2,and_left_comm]
theorem p273 {a b:Int}{st:St}:run Tryz.prog HH 273 [.agg [.int .i64 a,.int .i64 b]] st=some (.ret (.int .i64 (valC ⟨a,b⟩)),st):=f273 (x:=⟨a,b⟩)
def hueC (x:Hue):Int:=if lvl x.lev then prmC 0 x.p else 2
theorem f219 {x:Hue}{st:St}:run Tryz.prog HH 219 [x.v] st=some (.ret (.int .i64 (hueC x)),st):=by
 rw[run_shut F219 rfl rfl (by simp)]
 push_cast[Hue.v,hueC,f220,f222,p221]
 all_goals ((repeat' split)<;>simp_all)
theorem f224 {x y:Hue}{st:St}:run Tryz.prog HH 224 [x.v,y.v] st=some (.ret (.int .i64 (cmpP x.p y.p)),st):=by
 rw[run_shut F224 rfl rfl (by simp)]
 push_cast[Hue.v,p225,f222]
def huesP (l:List Hue):List Hue→Nat→Int
 |[],_=>0
 |q::r,j=>if hueC q=0 then if 0<j∧0≤cmpP (l.getD (j-1) default).p q.p then 9 else huesP l r (j+1) else hueC q
theorem L223 {l:List Hue}(hl:l.length<140737488355328):∀r j,l.drop j=r→runL Tryz.prog HH [0,2,3,16,17,18] n B223_0 [(0,.sl (l.map Hue.v)),(2,.fn (.func 219) [] []),(3,.fn (.func 224) [] []),(16,.sl (l.map Hue.v)),(17,.int .i64 l.length),(18,.int .i64 j)] (stN g n)=lpE (stN g n) [] 8 (huesP l r j):=by
 refine drop_ind (fun j h=>?_) (fun q r j h hx hd ih=>?_)
 all_goals rw[runL_of B223_0.eq_1]
 ·have h1:¬(j:Int)<l.length:=by omega
  push_cast[h1,huesP,Hue.v]
 ·have h1:(j:Int)<l.length:=by omega
  have hw:=iw1 (j:=j) (by omega)
  push_cast[h1,hw,hx,Hue.v,f219,f224,iwrap_pred (j:=j) (by omega)]at ih ⊢
  simp only[ih,huesP,lps,Int.reduceEq,not_false_eq_true]
  all_goals ((repeat' split)<;>(try simp_all)<;>(try (with_reducible refine dn_eq ?_ ?_<;>first|trivial|omega|rfl))<;>(try omega))
def huesR (l:List Hue):List Hue→Nat→Int
 |[],_=>0
 |q::r,j=>if q.chan<0∨999<q.chan∨q.attr<0∨15≤q.attr∨¬lvl q.lev then 2 else if 0<j∧befP (l.getD (j-1) default).p q.p=false then 9 else huesR l r (j+1)
theorem L74 {l:List Hue}(hl:l.length<140737488355328):∀r j,l.drop j=r→runL Tryz.prog HH [0,3] n B74_0 [(0,.sl (l.map Hue.v)),(3,.int .i64 j)] (stN g n)=lpE (stN g n) [] 2 (huesR l r j):=by
 refine drop_ind (fun j h=>?_) (fun q r j h hx hd ih=>?_)
 all_goals rw[runL_of B74_0.eq_1]
 ·have h1:¬(j:Int)<l.length:=by omega
  push_cast[h1,huesR,Hue.v]
 ·have h1:(j:Int)<l.length:=by omega
  have hw:=iw1 (j:=j) (by omega)
  push_cast[h1,hw,hx,Hue.v,f129,p130,iwrap_pred (j:=j) (by omega)]at ih ⊢
  simp only[ih,huesR,lps,Int.reduceEq,not_false_eq_true]
  all_goals ((repeat' split)<;>(try simp_all)<;>(try (with_reducible refine dn_eq ?_ ?_<;>first|trivial|omega|rfl))<;>(try omega))
def hueLP (l:List Hue):Int:=if 256<(l.length:Int) then 5 else huesP l l 0
def hueLR (l:List Hue):Int:=if 256<(l.length:Int) then 5 else huesR l l 0
theorem f223 {l:List Hue}(hl:l.length<140737488355328){st:St}:run Tryz.prog HH 223 [.sl (l.map Hue.v),.int .i64 256,.fn (.func 219) [] [],.fn (.func 224) [] []] st=some (.ret (.int .i64 (hueLP l)),st):=by
 rw[run_shut F223 rfl rfl (by simp)]
 have hL0:=fun n=>L223 (g:=st.x.gl) (n:=n) hl _ 0 rfl
 push_cast[hueLP]at hL0
 push_cast[hueLP,hL0,lpE,lpX,lpI,lpB]
theorem f137 {l:List Hue}(hl:l.length<140737488355328){st:St}:run Tryz.prog HH 137 [.sl (l.map Hue.v)] st=some (.ret (.int .i64 (hueLP l)),st):=by
 rw[run_shut F137 rfl rfl (by simp)]
 push_cast[f223 hl]
theorem f74 {l:List Hue}(hl:l.length<140737488355328){st:St}:run Tryz.prog HH 74 [.sl (l.map Hue.v)] st=some (.ret (.int .i64 (hueLR l)),st):=by
 rw[run_shut F74 rfl rfl (by simp)]
 have hL0:=fun n=>L74 (g:=st.x.gl) (n:=n) hl _ 0 rfl
 push_cast[hueLR]at hL0
 push_cast[hueLR,hL0,lpE,lpX,lpI,lpB]
def palsP (l:List Pal):List Pal→Nat→Int
 |[],_=>0
 |q::r,j=>if q.num<1∨1048576<q.num then 2 else if 0<j∧q.num≤(l.getD (j-1) default).num then 9 else if hueLP q.hues=0 then palsP l r (j+1) else hueLP q.hues
def palsR (l:List Pal):List Pal→Nat→Int
 |[],_=>0
 |q::r,j=>if q.num<1∨1048576<q.num then 2 else if 0<j∧q.num≤(l.getD (j-1) default).num then 9 else if hueLR q.hues=0 then palsR l r (j+1) else hueLR q.hues
theorem L84 {l:List Pal}(hl:l.length<140737488355328)(hb:∀q∈l,q.hues.length<140737488355328):∀r j,l.drop j=r→runL Tryz.prog HH [0,9,10,11] n B84_0 [(0,.sl (l.map Pal.v)),(9,.sl (l.map Pal.v)),(10,.int .i64 l.length),(11,.int .i64 j)] (stN g n)=lpE (stN g n) [] 2 (palsP l r j):=by
 refine drop_ind (fun j h=>?_) (fun q r j h hx hd ih=>?_)
 all_goals rw[runL_of B84_0.eq_1]
 ·have h1:¬(j:Int)<l.length:=by omega
  push_cast[h1,palsP,Pal.v]
 ·have h1:(j:Int)<l.length:=by omega
  have hw:=iw1 (j:=j) (by omega)
  have hq:q.hues.length<140737488355328:=hb q (List.mem_of_mem_drop (hd▸List.mem_cons_self ..))
  push_cast[h1,hw,hx,Pal.v,f137 hq,iwrap_pred (j:=j) (by omega)]at ih ⊢
  simp only[ih,palsP,lps,Int.reduceEq,not_false_eq_true]
  all_goals ((repeat' split)<;>(try simp_all)<;>(try (with_reducible refine dn_eq ?_ ?_<;>first|trivial|omega|rfl))<;>(try omega))
theorem L38 {l:List Pal}(hl:l.length<140737488355328)(hb:∀q∈l,q.hues.length<140737488355328):∀r j,l.drop j=r→runL Tryz.prog HH [0,3] n B38_0 [(0,.sl (l.map Pal.v)),(3,.int .i64 j)] (stN g n)=lpE (stN g n) [] 2 (palsR l r j):=by
 refine drop_ind (fun j h=>?_) (fun q r j h hx hd ih=>?_)
 all_goals rw[runL_of B38_0.eq_1]
 ·have h1:¬(j:Int)<l.length:=by omega
  push_cast[h1,palsR,Pal.v]
 ·have h1:(j:Int)<l.length:=by omega
  have hw:=iw1 (j:=j) (by omega)
  have hq:q.hues.length<140737488355328:=hb q (List.mem_of_mem_drop (hd▸List.mem_cons_self ..))
  push_cast[h1,hw,hx,Pal.v,f74 hq,iwrap_pred (j:=j) (by omega)]at ih ⊢
  simp only[ih,palsR,lps,Int.reduceEq,not_false_eq_true]
  all_goals ((repeat' split)<;>(try simp_all)<;>(try (with_reducible refine dn_eq ?_ ?_<;>first|trivial|omega|rfl))<;>(try omega))
def palsCP (l:List Pal):Int:=if 32<(l.length:Int) then 5 else palsP l l 0
def palsCR (l:List Pal):Int:=if 32<(l.length:Int) then 5 else palsR l l 0
theorem f84 {l:List Pal}(hl:l.length<140737488355328)(hb:∀q∈l,q.hues.length<140737488355328){st:St}:run Tryz.prog HH 84 [.sl (l.map Pal.v)] st=some (.ret (.int .i64 (palsCP l)),st):=by
 rw[run_shut F84 rfl rfl (by simp)]
 have hL0:=fun n=>L84 (g:=st.x.gl) (n:=n) hl hb _ 0 rfl
 push_cast[palsCP]at hL0
 push_cast[palsCP,hL0,lpE,lpX,lpI,lpB]
theorem f38 {l:List Pal}(hl:l.length<140737488355328)(hb:∀q∈l,q.hues.length<140737488355328){st:St}:run Tryz.prog HH 38 [.sl (l.map Pal.v)] st=some (.ret (.int .i64 (palsCR l)),st):=by
 rw[run_shut F38 rfl rfl (by simp)]
 have hL0:=fun n=>L38 (g:=st.x.gl) (n:=n) hl hb _ 0 rfl
 push_cast[palsCR]at hL0
 push_cast[palsCR,hL0,lpE,lpX,lpI,lpB]
end Go.Proofs.YtmjkgajnpmiomaaGreatDoor

namespace Go.Proofs.YtmjkgajnpmiomaaGreatDoor
open Go.Sha
set_option maxRecDepth 10000
def B87_0:Cd:=(.g [.b 13 .lss 12 11] (.join [3,10,11,12] (.i 13 .skip (.exit [] 0)) (.join [3,10,11,12] (.block 1 (.g [.r 14 4 10 12,.d 15 4 14,.s 5 (.alloc 50 [.i 0,.i 0,(.bool false),.nils]),.w 4 5 15] (.z [5] (.join [3,5,10,11,12] (.g [.d 16 4 5,.f 17 139 16,.m 6 17] (.g [.m 18 6,.v 19 .neq 18 0] (.i 19 (.g [.m 20 6,.m 2 20] (.ret [2])) .skip))) (.join [5,10,11,12] (.g [.a 21 0 5,.l 22 21,.m 23 3,.b 24 .leq 22 23] (.i 24 (.g [.c 2 9] (.ret [2])) .skip)) (.reg [.a 25 0 5,.l 26 25,.m 3 26])))))) (.reg [.v 27 .add 12 1,.m 12 27]))))
theorem F87:compF Tryz.prog 87=some ⟨28,[.tmp 2],(.g [.c 2 0] (.join [0] (.g [.m 7 0,.u 8 7,.v 9 .gtr 8 16] (.i 9 (.g [.c 2 5] (.ret [2])) .skip)) (.g [.c 3 0] (.join [] (.g [.m 10 0,.u 11 10,.c 12 0] (.block 0 (.loop [3,10,11,12] [] B87_0))) (.g [.c 2 0] (.ret [2]))))))⟩:=by kernel_rfl
def B139_0:Cd:=(.g [.b 32 .lss 31 30] (.join [1,29,30,31] (.i 32 .skip (.exit [] 0)) (.join [1,29,30,31] (.block 1 (.g [.m 33 31,.r 34 3 29 31,.d 35 3 34,.s 4 (.alloc 198 [.i 0,.i 0,.i 0]),.m 3 33,.w 3 4 35] (.z [4] (.join [1,3,4,29,30,31] (.g [.a 36 0 4,.d 37 2 36,.f 38 227 37,.m 5 38] (.g [.m 39 5,.v 40 .neq 39 0] (.i 40 (.g [.m 41 5,.m 2 41] (.ret [2])) .skip))) (.block 2 (.join [1,3,4,29,30,31,42] (.reg [.a 43 2 4,.l 44 43,.v 45 .lss 44 0,.m 46 45,.ax 47 2 4 46,.lx 48 47 46,.vx 49 .gtr 48 65535 46,.o 50 46 49,.m 42 50]) (.i 42 (.g [.c 2 2] (.ret [2])) (.join [1,3,4,29,30,31,51] (.reg [.a 52 2 1,.l 53 52,.m 54 53,.ay 55 0 4 54,.ay 56 1 55 54,.ly 57 56 54,.vy 58 .neq 57 0 54,.e 59 54 58,.m 51 59]) (.i 51 (.g [.c 2 11] (.ret [2])) (.join [1,29,30,31,60] (.dreg 16 [.m 61 3,.v 62 .gtr 61 0,.m 63 62,.ay 64 3 1 63,.ly 65 64 63,.my 66 3 63,.vy 67 .sub 66 1 63,.ry 68 3 65 67 63,.ay 69 0 68 63,.y 70 (.load (some 2) (.t 69)) 63,.ay 71 0 4 63,.y 72 (.load (some 2) (.t 71)) 63,.y 73 (.f 228 [.t 70,.t 72]) 63,.vy 74 .geq 73 0 63,.e 75 63 74,.m 60 75]) (.i 60 (.g [.c 2 9] (.ret [2])) .skip))))))))))) (.reg [.v 76 .add 31 1,.m 31 76]))))
theorem F139:compF Tryz.prog 139=some ⟨77,[.tmp 2],(.g [.q 1 50 0,.c 2 0] (.z [1] (.join [1] (.join [1,23] (.reg [.a 6 0 1,.l 7 6,.v 8 .lss 7 1,.m 9 8,.ax 10 0 1 9,.lx 11 10 9,.vx 12 .gtr 11 1048576 9,.o 13 9 12,.m 14 13,.ax 15 1 1 14,.lx 16 15 14,.vx 17 .lss 16 0 14,.o 18 14 17,.m 19 18,.ax 20 1 1 19,.lx 21 20 19,.vx 22 .gtr 21 9 19,.o 23 19 22]) (.i 23 (.g [.c 2 2] (.ret [2])) .skip)) (.join [1] (.g [.a 24 3 1,.l 25 24,.u 26 25,.v 27 .gtr 26 128] (.i 27 (.g [.c 2 5] (.ret [2])) .skip)) (.join [] (.g [.a 28 3 1,.l 29 28,.u 30 29,.c 31 0] (.block 0 (.loop [1,29,30,31] [] B139_0))) (.g [.c 2 0] (.ret [2])))))))⟩:=by kernel_rfl
def B40_0:Cd:=(.join [0,3] (.g [.m 8 3,.m 9 0,.u 10 9,.b 11 .lss 8 10] (.i 11 .skip (.exit [] 0))) (.join [0,3] (.block 1 (.join [0,3] (.g [.m 14 0,.m 15 3,.r 16 4 14 15,.d 17 4 16,.f 18 75 17,.m 4 18] (.g [.m 19 4,.v 20 .neq 19 0] (.i 20 (.g [.m 21 4,.m 2 21] (.ret [2])) .skip))) (.join [0,3,37] (.dreg 16 [.m 22 3,.v 23 .gtr 22 0,.m 24 23,.my 25 0 24,.my 26 3 24,.ry 27 4 25 26 24,.ay 28 0 27 24,.ly 29 28 24,.my 30 0 24,.my 31 3 24,.vy 32 .sub 31 1 24,.ry 33 4 30 32 24,.ay 34 0 33 24,.ly 35 34 24,.by' 36 .leq 29 35 24,.e 37 24 36]) (.i 37 (.g [.c 2 9] (.ret [2])) .skip)))) (.reg [.m 12 3,.v 13 .add 12 1,.m 3 13])))
theorem F40:compF Tryz.prog 40=some ⟨38,[.tmp 2],(.g [.c 2 0] (.join [0] (.g [.m 5 0,.u 6 5,.v 7 .gtr 6 16] (.i 7 (.g [.c 2 5] (.ret [2])) .skip)) (.join [] (.g [.c 3 0] (.block 0 (.loop [0,3] [] B40_0))) (.g [.c 2 0] (.ret [2])))))⟩:=by kernel_rfl
def B75_0:Cd:=(.join [1,3] (.g [.m 28 3,.a 29 3 1,.l 30 29,.u 31 30,.b 32 .lss 28 31] (.i 32 .skip (.exit [] 0))) (.join [1,3] (.block 1 (.g [.a 35 3 1,.l 36 35,.m 37 3,.r 38 3 36 37,.d 39 3 38,.s 4 (.alloc 198 [.i 0,.i 0,.i 0]),.w 3 4 39] (.z [4] (.join [1,3,4] (.g [.a 40 0 4,.d 41 2 40,.f 42 131 41,.m 5 42] (.g [.m 43 5,.v 44 .neq 43 0] (.i 44 (.g [.m 45 5,.m 2 45] (.ret [2])) .skip))) (.join [1,3,4] (.g [.a 46 2 4,.l 47 46,.f 48 129 47,.z 49 48] (.i 49 (.g [.c 2 2] (.ret [2])) .skip)) (.join [1,3,4] (.join [1,3,4,57] (.reg [.a 50 2 1,.l 51 50,.m 52 51,.ay 53 0 4 52,.ay 54 1 53 52,.ly 55 54 52,.vy 56 .neq 55 0 52,.e 57 52 56]) (.i 57 (.g [.c 2 11] (.ret [2])) .skip)) (.join [1,3,72] (.dreg 15 [.m 58 3,.v 59 .gtr 58 0,.m 60 59,.ay 61 3 1 60,.ly 62 61 60,.my 63 3 60,.vy 64 .sub 63 1 60,.ry 65 3 62 64 60,.ay 66 0 65 60,.y 67 (.load (some 2) (.t 66)) 60,.ay 68 0 4 60,.y 69 (.load (some 2) (.t 68)) 60,.y 70 (.f 130 [.t 67,.t 69]) 60,.y 71 (.un .not (.t 70)) 60,.e 72 60 71]) (.i 72 (.g [.c 2 9] (.ret [2])) .skip)))))))) (.reg [.m 33 3,.v 34 .add 33 1,.m 3 34])))
theorem F75:compF Tryz.prog 75=some ⟨73,[.tmp 2],(.g [.q 1 50 0,.c 2 0] (.z [1] (.join [1] (.join [1,23] (.reg [.a 6 0 1,.l 7 6,.v 8 .lss 7 1,.m 9 8,.ax 10 0 1 9,.lx 11 10 9,.vx 12 .gtr 11 1048576 9,.o 13 9 12,.m 14 13,.ax 15 1 1 14,.lx 16 15 14,.vx 17 .lss 16 0 14,.o 18 14 17,.m 19 18,.ax 20 1 1 19,.lx 21 20 19,.vx 22 .gtr 21 9 19,.o 23 19 22]) (.i 23 (.g [.c 2 2] (.ret [2])) .skip)) (.join [1] (.g [.a 24 3 1,.l 25 24,.u 26 25,.v 27 .gtr 26 128] (.i 27 (.g [.c 2 5] (.ret [2])) .skip)) (.join [] (.g [.c 3 0] (.block 0 (.loop [1,3] [] B75_0))) (.g [.c 2 0] (.ret [2])))))))⟩:=by kernel_rfl
theorem F89:compF Tryz.prog 89=some ⟨5,[.tmp 2],(.g [.c 2 0] (.g [.m 3 0,.s 4 (.f 140 [.t 3,(.c (.fn (.func 141) [] [])),(.c (.fn (.func 142) [] []))]),.m 2 4] (.ret [2])))⟩:=by kernel_rfl
def B140_0:Cd:=(.g [.b 16 .lss 15 14] (.join [0,1,2,13,14,15] (.i 16 .skip (.exit [] 0)) (.join [0,1,2,13,14,15] (.block 1 (.g [.m 17 15,.r 18 6 13 15,.d 19 6 18,.s 8 (.alloc 53 [.i 0,.i 0,.nils,.i 0,.i 0,.i 0]),.m 7 17,.w 6 8 19] (.z [8] (.join [0,1,2,7,8,13,14,15] (.g [.m 20 1,.d 21 6 8,.s 22 (.call (.t 20) [.t 21]),.m 9 22] (.g [.m 23 9,.v 24 .neq 23 0] (.i 24 (.g [.m 25 9,.m 6 25] (.ret [6])) .skip))) (.join [0,1,2,13,14,15,40] (.dreg 15 [.m 26 7,.v 27 .gtr 26 0,.m 28 27,.my 29 2 28,.y 30 (.load (some 6) (.t 8)) 28,.y 31 (.call (.t 29) [.t 30]) 28,.my 32 2 28,.my 33 0 28,.my 34 7 28,.vy 35 .sub 34 1 28,.ry 36 6 33 35 28,.y 37 (.load (some 6) (.t 36)) 28,.y 38 (.call (.t 32) [.t 37]) 28,.by' 39 .leq 31 38 28,.e 40 28 39]) (.i 40 (.g [.c 6 9] (.ret [6])) .skip)))))) (.reg [.v 41 .add 15 1,.m 15 41]))))
theorem F140:compF Tryz.prog 140=some ⟨42,[.tmp 6],(.g [.c 6 0] (.join [0,1,2] (.g [.m 10 0,.u 11 10,.v 12 .gtr 11 16] (.i 12 (.g [.c 6 5] (.ret [6])) .skip)) (.join [] (.g [.m 13 0,.u 14 13,.c 15 0] (.block 0 (.loop [0,1,2,13,14,15] [] B140_0))) (.g [.c 6 0] (.ret [6])))))⟩:=by kernel_rfl
theorem F141:compF Tryz.prog 141=some ⟨56,[.tmp 2],(.g [.q 1 53 0,.c 2 0] (.z [1] (.join [1] (.join [1,21] (.reg [.a 4 0 1,.l 5 4,.v 6 .lss 5 1,.m 7 6,.ax 8 0 1 7,.lx 9 8 7,.vx 10 .gtr 9 1048576 7,.o 11 7 10,.m 12 11,.ax 13 1 1 12,.lx 14 13 12,.vx 15 .lss 14 0 12,.o 16 12 15,.m 17 16,.ax 18 1 1 17,.lx 19 18 17,.vx 20 .geq 19 15 17,.o 21 17 20]) (.i 21 (.g [.c 2 2] (.ret [2])) .skip)) (.join [1] (.g [.a 22 2 1,.l 23 22,.f 24 229 23,.m 3 24] (.g [.m 25 3,.v 26 .neq 25 0] (.i 26 (.g [.m 27 3,.m 2 27] (.ret [2])) .skip))) (.join [] (.join [55] (.reg [.a 28 3 1,.l 29 28,.v 30 .lss 29 1,.m 31 30,.ax 32 3 1 31,.lx 33 32 31,.vx 34 .gtr 33 10000000 31,.o 35 31 34,.m 36 35,.ax 37 4 1 36,.lx 38 37 36,.vx 39 .lss 38 0 36,.o 40 36 39,.m 41 40,.ax 42 4 1 41,.lx 43 42 41,.vx 44 .gtr 43 1000 41,.o 45 41 44,.m 46 45,.ax 47 5 1 46,.lx 48 47 46,.vx 49 .lss 48 0 46,.o 50 46 49,.m 51 50,.ax 52 5 1 51,.lx 53 52 51,.vx 54 .gtr 53 65535 51,.o 55 51 54]) (.i 55 (.g [.c 2 2] (.ret [2])) .skip)) (.g [.c 2 0] (.ret [2])))))))⟩:=by kernel_rfl
theorem F142:compF Tryz.prog 142=some ⟨5,[.tmp 2],(.g [.q 1 53 0,.c 2 0] (.z [1] (.g [.a 3 0 1,.l 4 3,.m 2 4] (.ret [2]))))⟩:=by kernel_rfl
def B41_0:Cd:=(.join [0,3] (.g [.m 8 3,.m 9 0,.u 10 9,.b 11 .lss 8 10] (.i 11 .skip (.exit [] 0))) (.join [0,3] (.block 1 (.join [0,3] (.g [.m 14 0,.m 15 3,.r 16 6 14 15,.d 17 6 16,.f 18 76 17,.m 4 18] (.g [.m 19 4,.v 20 .neq 19 0] (.i 20 (.g [.m 21 4,.m 2 21] (.ret [2])) .skip))) (.join [0,3,37] (.dreg 16 [.m 22 3,.v 23 .gtr 22 0,.m 24 23,.my 25 0 24,.my 26 3 24,.ry 27 6 25 26 24,.ay 28 0 27 24,.ly 29 28 24,.my 30 0 24,.my 31 3 24,.vy 32 .sub 31 1 24,.ry 33 6 30 32 24,.ay 34 0 33 24,.ly 35 34 24,.by' 36 .leq 29 35 24,.e 37 24 36]) (.i 37 (.g [.c 2 9] (.ret [2])) .skip)))) (.reg [.m 12 3,.v 13 .add 12 1,.m 3 13])))
theorem F41:compF Tryz.prog 41=some ⟨38,[.tmp 2],(.g [.c 2 0] (.join [0] (.g [.m 5 0,.u 6 5,.v 7 .gtr 6 16] (.i 7 (.g [.c 2 5] (.ret [2])) .skip)) (.join [] (.g [.c 3 0] (.block 0 (.loop [0,3] [] B41_0))) (.g [.c 2 0] (.ret [2])))))⟩:=by kernel_rfl
theorem F76:compF Tryz.prog 76=some ⟨52,[.tmp 2],(.g [.q 1 53 0,.c 2 0] (.z [1] (.join [1] (.join [1,21] (.reg [.a 4 0 1,.l 5 4,.v 6 .lss 5 1,.m 7 6,.ax 8 0 1 7,.lx 9 8 7,.vx 10 .gtr 9 1048576 7,.o 11 7 10,.m 12 11,.ax 13 1 1 12,.lx 14 13 12,.vx 15 .lss 14 0 12,.o 16 12 15,.m 17 16,.ax 18 1 1 17,.lx 19 18 17,.vx 20 .geq 19 15 17,.o 21 17 20]) (.i 21 (.g [.c 2 2] (.ret [2])) .skip)) (.join [1] (.g [.a 22 2 1,.l 23 22,.f 24 132 23,.m 3 24] (.g [.m 25 3,.v 26 .neq 25 0] (.i 26 (.g [.m 27 3,.m 2 27] (.ret [2])) .skip))) (.join [] (.join [51] (.reg [.a 28 3 1,.l 29 28,.v 30 .lss 29 1,.m 31 30,.ax 32 3 1 31,.lx 33 32 31,.vx 34 .gtr 33 10000000 31,.o 35 31 34,.m 36 35,.ax 37 4 1 36,.lx 38 37 36,.vx 39 .lss 38 0 36,.o 40 36 39,.m 41 40,.ax 42 4 1 41,.lx 43 42 41,.vx 44 .gtr 43 1000 41,.o 45 41 44,.m 46 45,.ax 47 5 1 46,.lx 48 47 46,.x 49 (.f 129 [.t 48]) 46,.x 50 (.un .not (.t 49)) 46,.o 51 46 50]) (.i 51 (.g [.c 2 2] (.ret [2])) .skip)) (.g [.c 2 0] (.ret [2])))))))⟩:=by kernel_rfl
end Go.Proofs.YtmjkgajnpmiomaaGreatDoor

namespace Go.Proofs.YtmjkgajnpmiomaaGreatDoor
open Go.Sha
set_option maxRecDepth 10000
variable {g:List (Nat×Obj)}{n:Nat}
def gansP (h:Bool)(l:List Gan):List Gan→Nat→Int
 |[],_=>0
 |q::r,j=>if prmC 1 q.prm=0 then if q.lev<0∨65535<q.lev then 2 else if h=true∧¬q.prm.attr=0 then 11 else if 0<j∧0≤cmpP (l.getD (j-1) default).prm q.prm then 9 else gansP h l r (j+1) else prmC 1 q.prm
def gansR (h:Bool)(l:List Gan):List Gan→Nat→Int
 |[],_=>0
 |q::r,j=>if prmC 1 q.prm=0 then if ¬lvl q.lev then 2 else if h=true∧¬q.prm.attr=0 then 11 else if 0<j∧befP (l.getD (j-1) default).prm q.prm=false then 9 else gansR h l r (j+1) else prmC 1 q.prm
theorem L139 {x:Sb}(hl:x.gains.length<140737488355328):∀r j,x.gains.drop j=r→runL Tryz.prog HH [1,29,30,31] n B139_0 [(1,.ep x.v 0),(29,.sl (x.gains.map Gan.v)),(30,.int .i64 x.gains.length),(31,.int .i64 j)] (stN g n)=lpE (stN g n) [] 2 (gansP x.inh x.gains r j):=by
 refine drop_ind (fun j h=>?_) (fun q r j h hx hd ih=>?_)
 all_goals rw[runL_of B139_0.eq_1]
 ·have h1:¬(j:Int)<x.gains.length:=by omega
  push_cast[h1,gansP,Gan.v,Sb.v]
 ·have h1:(j:Int)<x.gains.length:=by omega
  have hw:=iw1 (j:=j) (by omega)
  push_cast[h1,hw,hx,Gan.v,Sb.v,p227,p228,iwrap_pred (j:=j) (by omega)]at ih ⊢
  simp only[ih,gansP,lps,Int.reduceEq,not_false_eq_true]
  all_goals ((repeat' split)<;>(try simp_all)<;>(try (with_reducible refine dn_eq ?_ ?_<;>first|trivial|omega|rfl))<;>(try omega))
theorem L75 {x:Sb}(hl:x.gains.length<140737488355328):∀r j,x.gains.drop j=r→runL Tryz.prog HH [1,3] n B75_0 [(1,.ep x.v 0),(3,.int .i64 j)] (stN g n)=lpE (stN g n) [] 2 (gansR x.inh x.gains r j):=by
 refine drop_ind (fun j h=>?_) (fun q r j h hx hd ih=>?_)
 all_goals rw[runL_of B75_0.eq_1]
 ·have h1:¬(j:Int)<x.gains.length:=by omega
  push_cast[h1,gansR,Gan.v,Sb.v]
 ·have h1:(j:Int)<x.gains.length:=by omega
  have hw:=iw1 (j:=j) (by omega)
  push_cast[h1,hw,hx,Gan.v,Sb.v,p131,p130,f129,iwrap_pred (j:=j) (by omega)]at ih ⊢
  simp only[ih,gansR,lps,Int.reduceEq,not_false_eq_true]
  all_goals ((repeat' split)<;>(try simp_all)<;>(try (with_reducible refine dn_eq ?_ ?_<;>first|trivial|omega|rfl))<;>(try omega))
abbrev sbOk (x:Sb):Prop:=x.num<1∨1048576<x.num∨x.prio<0∨9<x.prio
def sbP (x:Sb):Int:=if sbOk x then 2 else if 128<(x.gains.length:Int) then 5 else gansP x.inh x.gains x.gains 0
def sbR (x:Sb):Int:=if sbOk x then 2 else if 128<(x.gains.length:Int) then 5 else gansR x.inh x.gains x.gains 0
theorem f139 {x:Sb}(hl:x.gains.length<140737488355328){st:St}:run Tryz.prog HH 139 [x.v] st=some (.ret (.int .i64 (sbP x)),st):=by
 rw[run_shut F139 rfl rfl (by simp)]
 have hL0:=fun n=>L139 (g:=st.x.gl) (n:=n) hl _ 0 rfl
 push_cast[Sb.v,sbP,sbOk]at hL0
 push_cast[Sb.v,sbP,sbOk,hL0,lpE,lpX,lpI,lpB]
theorem f75 {x:Sb}(hl:x.gains.length<140737488355328){st:St}:run Tryz.prog HH 75 [x.v] st=some (.ret (.int .i64 (sbR x)),st):=by
 rw[run_shut F75 rfl rfl (by simp)]
 have hL0:=fun n=>L75 (g:=st.x.gl) (n:=n) hl _ 0 rfl
 push_cast[Sb.v,sbR,sbOk]at hL0
 push_cast[Sb.v,sbR,sbOk,hL0,lpE,lpX,lpI,lpB]
def subsP:List Sb→Int→Int
 |[],_=>0
 |q::r,n=>if sbP q=0 then if q.num≤n then 9 else subsP r q.num else sbP q
def subsR (l:List Sb):List Sb→Nat→Int
 |[],_=>0
 |q::r,j=>if sbR q=0 then if 0<j∧q.num≤(l.getD (j-1) default).num then 9 else subsR l r (j+1) else sbR q
theorem L87 {l:List Sb}(hl:l.length<140737488355328)(hb:∀q∈l,q.gains.length<140737488355328):∀r j,l.drop j=r→∀m,runL Tryz.prog HH [3,10,11,12] n B87_0 [(3,.int .i64 m),(10,.sl (l.map Sb.v)),(11,.int .i64 l.length),(12,.int .i64 j)] (stN g n)=lpE (stN g n) [] 2 (subsP r m):=by
 refine drop_ind (fun j h m=>?_) (fun q r j h hx hd ih m=>?_)
 all_goals rw[runL_of B87_0.eq_1]
 ·have h1:¬(j:Int)<l.length:=by omega
  push_cast[h1,subsP,Sb.v]
 ·have h1:(j:Int)<l.length:=by omega
  have hw:=iw1 (j:=j) (by omega)
  have hq:q.gains.length<140737488355328:=hb q (List.mem_of_mem_drop (hd▸List.mem_cons_self ..))
  push_cast[h1,hw,hx,Sb.v,f139 hq]at ih ⊢
  simp only[ih,subsP,lps,Int.reduceEq,not_false_eq_true]
  all_goals ((repeat' split)<;>simp_all)
theorem L40 {l:List Sb}(hl:l.length<140737488355328)(hb:∀q∈l,q.gains.length<140737488355328):∀r j,l.drop j=r→runL Tryz.prog HH [0,3] n B40_0 [(0,.sl (l.map Sb.v)),(3,.int .i64 j)] (stN g n)=lpE (stN g n) [] 2 (subsR l r j):=by
 refine drop_ind (fun j h=>?_) (fun q r j h hx hd ih=>?_)
 all_goals rw[runL_of B40_0.eq_1]
 ·have h1:¬(j:Int)<l.length:=by omega
  push_cast[h1,subsR,Sb.v]
 ·have h1:(j:Int)<l.length:=by omega
  have hw:=iw1 (j:=j) (by omega)
  have hq:q.gains.length<140737488355328:=hb q (List.mem_of_mem_drop (hd▸List.mem_cons_self ..))
  push_cast[h1,hw,hx,Sb.v,f75 hq,iwrap_pred (j:=j) (by omega)]at ih ⊢
  simp only[ih,subsR,lps,Int.reduceEq,not_false_eq_true]
  all_goals ((repeat' split)<;>(try simp_all)<;>(try (with_reducible refine dn_eq ?_ ?_<;>first|trivial|omega|rfl))<;>(try omega))
def subsCP (l:List Sb):Int:=if 16<(l.length:Int) then 5 else subsP l 0
def subsCR (l:List Sb):Int:=if 16<(l.length:Int) then 5 else subsR l l 0
theorem f87 {l:List Sb}(hl:l.length<140737488355328)(hb:∀q∈l,q.gains.length<140737488355328){st:St}:run Tryz.prog HH 87 [.sl (l.map Sb.v)] st=some (.ret (.int .i64 (subsCP l)),st):=by
 rw[run_shut F87 rfl rfl (by simp)]
 have hL0:=fun n=>L87 (g:=st.x.gl) (n:=n) hl hb _ 0 rfl 0
 push_cast[subsCP]at hL0
 push_cast[subsCP,hL0,lpE,lpX,lpI,lpB]
theorem f40 {l:List Sb}(hl:l.length<140737488355328)(hb:∀q∈l,q.gains.length<140737488355328){st:St}:run Tryz.prog HH 40 [.sl (l.map Sb.v)] st=some (.ret (.int .i64 (subsCR l)),st):=by
 rw[run_shut F40 rfl rfl (by simp)]
 have hL0:=fun n=>L40 (g:=st.x.gl) (n:=n) hl hb _ 0 rfl
 push_cast[subsCR]at hL0
 push_cast[subsCR,hL0,lpE,lpX,lpI,lpB]
def effC (x:Eff):Int:=if x.num<1∨1048576<x.num∨x.attr<0∨15≤x.attr then 2 else if ¬wavC x.wave=0 then wavC x.wave else if x.period<1∨10000000<x.period∨x.spread<0∨1000<x.spread∨¬lvl x.size then 2 else 0
theorem f141 {x:Eff}(hl:x.wave.length<140737488355328){st:St}:run Tryz.prog HH 141 [x.v] st=some (.ret (.int .i64 (effC x)),st):=by
 have e:(x.size<0∨65535<x.size)=¬lvl x.size:=propext (by unfold lvl;omega)
 rw[run_shut F141 rfl rfl (by simp)]
 push_cast[Eff.v,effC,f229 hl,e]
theorem f76 {x:Eff}(hl:x.wave.length<140737488355328){st:St}:run Tryz.prog HH 76 [x.v] st=some (.ret (.int .i64 (effC x)),st):=by
 rw[run_shut F76 rfl rfl (by simp)]
 push_cast[Eff.v,effC,f132 hl,f129]
theorem f142 {x:Eff}{st:St}:run Tryz.prog HH 142 [x.v] st=some (.ret (.int .i64 x.num),st):=by
 rw[run_shut F142 rfl rfl (by simp)]
 push_cast[Eff.v]
def effsL (l:List Eff):List Eff→Nat→Int
 |[],_=>0
 |q::r,j=>if effC q=0 then if 0<j∧q.num≤(l.getD (j-1) default).num then 9 else effsL l r (j+1) else effC q
theorem L140 {l:List Eff}(hl:l.length<140737488355328)(hb:∀q∈l,q.wave.length<140737488355328):∀r j,l.drop j=r→runL Tryz.prog HH [0,1,2,13,14,15] n B140_0 [(0,.sl (l.map Eff.v)),(1,.fn (.func 141) [] []),(2,.fn (.func 142) [] []),(13,.sl (l.map Eff.v)),(14,.int .i64 l.length),(15,.int .i64 j)] (stN g n)=lpE (stN g n) [] 6 (effsL l r j):=by
 refine drop_ind (fun j h=>?_) (fun q r j h hx hd ih=>?_)
 all_goals rw[runL_of B140_0.eq_1]
 ·have h1:¬(j:Int)<l.length:=by omega
  push_cast[h1,effsL,Eff.v]
 ·have h1:(j:Int)<l.length:=by omega
  have hw:=iw1 (j:=j) (by omega)
  have hq:q.wave.length<140737488355328:=hb q (List.mem_of_mem_drop (hd▸List.mem_cons_self ..))
  push_cast[h1,hw,hx,Eff.v,f141 hq,f142,iwrap_pred (j:=j) (by omega)]at ih ⊢
  simp only[ih,effsL,lps,Int.reduceEq,not_false_eq_true]
  all_goals ((repeat' split)<;>(try simp_all)<;>(try (with_reducible refine dn_eq ?_ ?_<;>first|trivial|omega|rfl))<;>(try omega))
theorem L41 {l:List Eff}(hl:l.length<140737488355328)(hb:∀q∈l,q.wave.length<140737488355328):∀r j,l.drop j=r→runL Tryz.prog HH [0,3] n B41_0 [(0,.sl (l.map Eff.v)),(3,.int .i64 j)] (stN g n)=lpE (stN g n) [] 2 (effsL l r j):=by
 refine drop_ind (fun j h=>?_) (fun q r j h hx hd ih=>?_)
 all_goals rw[runL_of B41_0.eq_1]
 ·have h1:¬(j:Int)<l.length:=by omega
  push_cast[h1,effsL,Eff.v]
 ·have h1:(j:Int)<l.length:=by omega
  have hw:=iw1 (j:=j) (by omega)
  have hq:q.wave.length<140737488355328:=hb q (List.mem_of_mem_drop (hd▸List.mem_cons_self ..))
  push_cast[h1,hw,hx,Eff.v,f76 hq,iwrap_pred (j:=j) (by omega)]at ih ⊢
  simp only[ih,effsL,lps,Int.reduceEq,not_false_eq_true]
  all_goals ((repeat' split)<;>(try simp_all)<;>(try (with_reducible refine dn_eq ?_ ?_<;>first|trivial|omega|rfl))<;>(try omega))
def effsC (l:List Eff):Int:=if 16<(l.length:Int) then 5 else effsL l l 0
theorem f89 {l:List Eff}(hl:l.length<140737488355328)(hb:∀q∈l,q.wave.length<140737488355328){st:St}:run Tryz.prog HH 89 [.sl (l.map Eff.v)] st=some (.ret (.int .i64 (effsC l)),st):=by
 rw[run_shut F89 rfl rfl (by simp)]
 have hL0:=fun n=>L140 (g:=st.x.gl) (n:=n) hl hb _ 0 rfl
 push_cast[effsC,(fun(a0 a1 a2:V) (st:St) (h:V.bdL 0 [a0,a1,a2]=true)=>run_shut (P:=Tryz.prog) (H:=HH) (args:=[a0,a1,a2]) (st:=st) F140 rfl rfl h)]at hL0
 push_cast[effsC,(fun(a0 a1 a2:V) (st:St) (h:V.bdL 0 [a0,a1,a2]=true)=>run_shut (P:=Tryz.prog) (H:=HH) (args:=[a0,a1,a2]) (st:=st) F140 rfl rfl h),hL0,lpE,lpX,lpI,lpB]
theorem f41 {l:List Eff}(hl:l.length<140737488355328)(hb:∀q∈l,q.wave.length<140737488355328){st:St}:run Tryz.prog HH 41 [.sl (l.map Eff.v)] st=some (.ret (.int .i64 (effsC l)),st):=by
 rw[run_shut F41 rfl rfl (by simp)]
 have hL0:=fun n=>L41 (g:=st.x.gl) (n:=n) hl hb _ 0 rfl
 push_cast[effsC]at hL0
 push_cast[effsC,hL0,lpE,lpX,lpI,lpB]
end Go.Proofs.YtmjkgajnpmiomaaGreatDoor

namespace Go.Proofs.YtmjkgajnpmiomaaGreatDoor
open Go.Sha
set_option maxRecDepth 10000
def B157_0:Cd:=(.g [.b 9 .lss 8 7] (.join [1,6,7,8] (.i 9 .skip (.exit [] 0)) (.join [1,6,7,8] (.block 1 (.g [.r 10 1 6 8,.l 11 10,.m 4 11] (.g [.m 12 4,.d 13 9 1,.s 14 (.call (.t 12) [.t 13]),.m 5 14] (.g [.m 15 5,.v 16 .neq 15 0] (.i 16 (.g [.m 17 5,.m 2 17] (.ret [2])) .skip))))) (.reg [.v 18 .add 8 1,.m 8 18]))))
theorem F157:compF Tryz.prog 157=some ⟨19,[.tmp 2],(.g [.q 1 41 0,.c 2 0] (.z [1] (.join [] (.g [.s 6 (.bslice 223 1 [(.c (.fn (.func 234) [] [])),(.c (.fn (.func 235) [] [])),(.c (.fn (.func 237) [] [])),(.c (.fn (.func 239) [] [])),(.c (.fn (.func 240) [] []))]),.u 7 6,.c 8 0] (.block 0 (.loop [1,6,7,8] [] B157_0))) (.g [.c 2 0] (.ret [2])))))⟩:=by kernel_rfl
theorem F234:compF Tryz.prog 234=some ⟨6,[.tmp 2],(.g [.q 1 41 0,.c 2 0] (.z [1] (.g [.a 3 0 1,.l 4 3,.f 5 96 4,.m 2 5] (.ret [2]))))⟩:=by kernel_rfl
theorem F235:compF Tryz.prog 235=some ⟨6,[.tmp 2],(.g [.q 1 41 0,.c 2 0] (.z [1] (.g [.a 3 1 1,.l 4 3,.f 5 236 4,.m 2 5] (.ret [2]))))⟩:=by kernel_rfl
theorem F237:compF Tryz.prog 237=some ⟨6,[.tmp 2],(.g [.q 1 41 0,.c 2 0] (.z [1] (.g [.a 3 2 1,.l 4 3,.f 5 238 4,.m 2 5] (.ret [2]))))⟩:=by kernel_rfl
def B236_0:Cd:=(.g [.b 12 .lss 11 10] (.join [9,10,11] (.i 12 .skip (.exit [] 0)) (.join [9,10,11] (.block 1 (.g [.r 13 1 9 11,.l 14 13,.m 4 14] (.join [9,10,11,24] (.reg [.m 15 4,.s 16 (.bin .lss (.t 15) (.c (.int .u8 32))),.m 17 16,.mx 18 4 17,.x 19 (.bin .gtr (.t 18) (.c (.int .u8 126))) 17,.o 20 17 19,.m 21 20,.mx 22 4 21,.x 23 (.bin .eql (.t 22) (.c (.int .u8 34))) 21,.o 24 21 23]) (.i 24 (.g [.c 2 3] (.ret [2])) .skip)))) (.reg [.v 25 .add 11 1,.m 11 25]))))
theorem F236:compF Tryz.prog 236=some ⟨26,[.tmp 2],(.g [.c 2 0] (.join [0] (.g [.m 5 0,.s 6 (.lens (.t 5)),.v 7 .gtr 6 24] (.i 7 (.g [.c 2 13] (.ret [2])) .skip)) (.join [] (.g [.m 8 0,.s 9 (.cvsb 5 (.t 8)),.u 10 9,.c 11 0] (.block 0 (.loop [9,10,11] [] B236_0))) (.g [.c 2 0] (.ret [2])))))⟩:=by kernel_rfl
def B238_0:Cd:=(.g [.b 12 .lss 11 10] (.join [0,9,10,11] (.i 12 .skip (.exit [] 0)) (.join [0,9,10,11] (.block 1 (.g [.m 13 11,.r 14 5 9 11,.d 15 5 14,.s 4 (.alloc 272 [.i 0,.i 0,.i 0,.i 0,.i 0]),.m 3 13,.w 5 4 15] (.z [4] (.q (.dreg 6 [.d 16 5 4,.m 17 0,.m 18 3,.s 19 (.slice 5 (.t 17) none (some (.t 18)) none),.g' 20 300 16 19,.m 5 20]) (.g [.m 21 5,.v 22 .neq 21 0] (.i 22 (.g [.m 23 5,.m 2 23] (.ret [2])) .skip)))))) (.reg [.v 24 .add 11 1,.m 11 24]))))
theorem F238:compF Tryz.prog 238=some ⟨25,[.tmp 2],(.g [.c 2 0] (.join [0] (.g [.m 6 0,.u 7 6,.v 8 .gtr 7 128] (.i 8 (.g [.c 2 5] (.ret [2])) .skip)) (.join [] (.g [.m 9 0,.u 10 9,.c 11 0] (.block 0 (.loop [0,9,10,11] [] B238_0))) (.g [.c 2 0] (.ret [2])))))⟩:=by kernel_rfl
theorem F300:compF Tryz.prog 300=some ⟨44,[.tmp 4],(.g [.q 2 272 0,.c 4 0] (.z [2] (.join [1,2] (.g [.a 8 0 2,.d 9 2 8,.f 10 327 9,.m 5 10] (.g [.m 11 5,.v 12 .neq 11 0] (.i 12 (.g [.m 13 5,.m 4 13] (.ret [4])) .skip))) (.join [1,2] (.g [.a 14 2 2,.d 15 2 14,.f 16 328 15,.m 6 16] (.g [.m 17 6,.v 18 .neq 17 0] (.i 18 (.g [.m 19 6,.m 4 19] (.ret [4])) .skip))) (.join [1,2] (.join [1,2,27] (.reg [.a 20 4 2,.l 21 20,.v 22 .lss 21 1,.m 23 22,.ax 24 4 2 23,.lx 25 24 23,.vx 26 .gtr 25 4 23,.o 27 23 26]) (.i 27 (.g [.c 4 2] (.ret [4])) .skip)) (.join [] (.g [.m 28 1,.u 29 28,.m 7 29] (.join [43] (.dreg 14 [.m 30 7,.v 31 .gtr 30 0,.m 32 31,.my 33 1 32,.my 34 7 32,.vy 35 .sub 34 1 32,.ry 36 5 33 35 32,.ay 37 0 36 32,.y 38 (.load (some 2) (.t 37)) 32,.ay 39 0 2 32,.y 40 (.load (some 2) (.t 39)) 32,.y 41 (.f 329 [.t 38,.t 40]) 32,.vy 42 .geq 41 0 32,.e 43 32 42]) (.i 43 (.g [.c 4 9] (.ret [4])) .skip))) (.g [.c 4 0] (.ret [4]))))))))⟩:=by kernel_rfl
def B239_0:Cd:=(.g [.v 38 .lss 37 6] (.join [1,18,19,20,36,37] (.i 38 .skip (.exit [1,18,19,20] 3)) (.join [1,18,19,20,36,37] (.block 4 (.g [.s 39 (.gen (.ia 6 none 1) [.t 36,.t 37]),.m 7 39] (.join [1,18,19,20,36,37,45] (.reg [.m 40 7,.v 41 .lss 40 0,.m 42 41,.mx 43 7 42,.vx 44 .gtr 43 10000000 42,.o 45 42 44]) (.i 45 (.g [.c 2 2] (.ret [2])) .skip)))) (.reg [.v 46 .add 37 1,.m 37 46]))))
def B239_1:Cd:=(.g [.b 21 .lss 20 19] (.join [1,18,19,20] (.i 21 .skip (.exit [1] 1)) (.join [1,18,19,20] (.block 2 (.g [.r 22 6 18 20,.d 23 6 22,.s 5 (.alloc 266 [.i 0,.i 0,.i 0,.i 0,.i 0,.i 0]),.w 6 5 23] (.z [5] (.g [.a 24 0 5,.l 25 24,.a 26 1 5,.l 27 26,.a 28 2 5,.l 29 28,.a 30 3 5,.l 31 30,.a 32 4 5,.l 33 32,.a 34 5 5,.l 35 34,.s 36 (.build [.i 0,.i 0,.i 0,.i 0,.i 0,.i 0] [(0,1,(.t 25)),(1,1,(.t 27)),(2,1,(.t 29)),(3,1,(.t 31)),(4,1,(.t 33)),(5,1,(.t 35))]),.c 37 0] (.block 3 (.loop [1,18,19,20,36,37] [] B239_0)))))) (.reg [.v 47 .add 20 1,.m 20 47]))))
theorem F239:compF Tryz.prog 239=some ⟨52,[.tmp 2],(.g [.q 1 41 0,.c 2 0] (.z [1] (.join [1] (.g [.a 8 3 1,.l 9 8,.u 10 9,.m 3 10] (.block 0 (.g [.m 12 3,.v 13 .eql 12 0,.m 11 13] (.i 11 (.g [.c 2 12] (.ret [2])) (.g [.m 15 3,.v 16 .gtr 15 4,.m 14 16] (.i 14 (.g [.c 2 5] (.ret [2])) .skip)))))) (.join [1] (.g [.a 17 3 1,.l 18 17,.u 19 18,.c 20 0] (.block 1 (.loop [1,18,19,20] [] B239_1))) (.join [] (.g [.a 48 2 1,.l 49 48,.s 50 (.mkfn (.func 302) [] [.t 1]),.g' 51 301 49 50] (.i 51 (.g [.c 2 6] (.ret [2])) .skip)) (.g [.c 2 0] (.ret [2])))))))⟩:=by kernel_rfl
theorem F302:compF Tryz.prog 302=some ⟨10,[.tmp 3],(.g [.q 2 272 0,.k 3 false] (.z [2] (.g [.a 4 4 2,.l 5 4,.a 6 3 1,.l 7 6,.u 8 7,.b 9 .gtr 5 8,.m 3 9] (.ret [3]))))⟩:=by kernel_rfl
theorem F301:compF Tryz.prog 301=some ⟨9,[.tmp 4],(.g [.k 4 false] (.g [.m 5 0,.m 6 1,.g' 7 330 5 6,.v 8 .geq 7 0,.m 4 8] (.ret [4])))⟩:=by kernel_rfl
def B330_0:Cd:=(.g [.b 9 .lss 8 7] (.join [0,1,7,8] (.i 9 .skip (.exit [] 0)) (.join [0,1,7,8] (.block 1 (.g [.m 10 8,.m 5 10] (.g [.m 11 1,.m 12 0,.m 13 5,.r 14 5 12 13,.d 15 5 14,.s 16 (.call (.t 11) [.t 15])] (.i 16 (.g [.m 17 5,.m 4 17] (.ret [4])) .skip)))) (.reg [.v 18 .add 8 1,.m 8 18]))))
theorem F330:compF Tryz.prog 330=some ⟨19,[.tmp 4],(.g [.c 4 0] (.join [] (.g [.m 6 0,.u 7 6,.c 8 0] (.block 0 (.loop [0,1,7,8] [] B330_0))) (.g [.c 4 (-1)] (.ret [4]))))⟩:=by kernel_rfl
theorem F240:compF Tryz.prog 240=some ⟨44,[.tmp 2],(.g [.q 1 41 0,.c 2 0] (.z [1] (.join [1] (.join [1,16] (.reg [.a 4 6 1,.l 5 4,.v 6 .neq 5 (-1),.m 7 6,.ay 8 6 1 7,.ly 9 8 7,.vy 10 .lss 9 25 7,.my 11 10 7,.ax 12 6 1 11,.lx 13 12 11,.vx 14 .gtr 13 10000000 11,.y 15 (.pick (.t 11) (.c (.bool true)) (.t 14)) 7,.e 16 7 15]) (.i 16 (.g [.c 2 2] (.ret [2])) .skip)) (.join [1] (.g [.a 17 7 1,.l 18 17,.s 19 (.bin .neq (.t 18) (.w []))] (.i 19 (.g [.a 20 7 1,.l 21 20,.f 22 96 21,.m 3 22] (.g [.m 23 3,.v 24 .neq 23 0] (.i 24 (.g [.m 25 3,.m 2 25] (.ret [2])) .skip))) .skip)) (.join [] (.block 0 (.join [1,26] (.reg [.a 27 8 1,.l 28 27,.v 29 .lss 28 0,.m 30 29,.ax 31 8 1 30,.lx 32 31 30,.vx 33 .gtr 32 100 30,.o 34 30 33,.m 26 34]) (.i 26 (.g [.c 2 2] (.ret [2])) (.join [35] (.reg [.a 36 8 1,.l 37 36,.v 38 .gtr 37 0,.m 39 38,.ay 40 7 1 39,.ly 41 40 39,.y 42 (.bin .eql (.t 41) (.w [])) 39,.e 43 39 42,.m 35 43]) (.i 35 (.g [.c 2 11] (.ret [2])) .skip))))) (.g [.c 2 0] (.ret [2])))))))⟩:=by kernel_rfl
def B122_0:Cd:=(.join [1,7] (.g [.m 32 7,.a 33 2 1,.l 34 33,.u 35 34,.b 36 .lss 32 35] (.i 36 .skip (.exit [1] 0))) (.join [1,7] (.block 1 (.q (.dreg 10 [.a 39 2 1,.l 40 39,.m 41 7,.r 42 5 40 41,.a 43 4 42,.l 44 43,.a 45 3 1,.l 46 45,.u 47 46,.b 48 .gtr 44 47]) (.i 48 (.g [.c 2 6] (.ret [2])) .skip))) (.reg [.m 37 7,.v 38 .add 37 1,.m 7 38])))
theorem F122:compF Tryz.prog 122=some ⟨51,[.tmp 2],(.g [.q 1 41 0,.c 2 0] (.z [1] (.join [1] (.g [.a 8 0 1,.l 9 8,.f 10 195 9,.m 3 10] (.g [.m 11 3,.v 12 .neq 11 0] (.i 12 (.g [.m 13 3,.m 2 13] (.ret [2])) .skip))) (.join [1] (.g [.a 14 1 1,.l 15 14,.f 16 196 15,.m 4 16] (.g [.m 17 4,.v 18 .neq 17 0] (.i 18 (.g [.m 19 4,.m 2 19] (.ret [2])) .skip))) (.join [1] (.g [.a 20 2 1,.l 21 20,.f 22 197 21,.m 5 22] (.g [.m 23 5,.v 24 .neq 23 0] (.i 24 (.g [.m 25 5,.m 2 25] (.ret [2])) .skip))) (.join [1] (.g [.a 26 3 1,.l 27 26,.f 28 198 27,.m 6 28] (.g [.m 29 6,.v 30 .neq 29 0] (.i 30 (.g [.m 31 6,.m 2 31] (.ret [2])) .skip))) (.join [1] (.g [.c 7 0] (.block 0 (.loop [1,7] [] B122_0))) (.g [.d 49 9 1,.f 50 199 49,.m 2 50] (.ret [2])))))))))⟩:=by kernel_rfl
def B196_0:Cd:=(.join [0,3] (.g [.m 7 3,.m 8 0,.s 9 (.lens (.t 8)),.b 10 .lss 7 9] (.i 10 .skip (.exit [] 0))) (.join [0,3] (.block 1 (.join [0,3,28] (.reg [.m 13 0,.m 14 3,.s 15 (.ichr (.t 13) (.t 14)),.s 16 (.bin .lss (.t 15) (.c (.int .u8 32))),.m 17 16,.mx 18 0 17,.mx 19 3 17,.x 20 (.ichr (.t 18) (.t 19)) 17,.x 21 (.bin .gtr (.t 20) (.c (.int .u8 126))) 17,.o 22 17 21,.m 23 22,.mx 24 0 23,.mx 25 3 23,.x 26 (.ichr (.t 24) (.t 25)) 23,.x 27 (.bin .eql (.t 26) (.c (.int .u8 34))) 23,.o 28 23 27]) (.i 28 (.g [.c 2 3] (.ret [2])) .skip))) (.reg [.m 11 3,.v 12 .add 11 1,.m 3 12])))
theorem F196:compF Tryz.prog 196=some ⟨29,[.tmp 2],(.g [.c 2 0] (.join [0] (.g [.m 4 0,.s 5 (.lens (.t 4)),.v 6 .gtr 5 24] (.i 6 (.g [.c 2 13] (.ret [2])) .skip)) (.join [] (.g [.c 3 0] (.block 0 (.loop [0,3] [] B196_0))) (.g [.c 2 0] (.ret [2])))))⟩:=by kernel_rfl
def B197_0:Cd:=(.join [0,3] (.g [.m 9 3,.m 10 0,.u 11 10,.b 12 .lss 9 11] (.i 12 .skip (.exit [] 0))) (.join [0,3] (.block 1 (.join [0,3] (.g [.m 15 0,.m 16 3,.r 17 5 15 16,.a 18 0 17,.d 19 2 18,.f 20 131 19,.m 4 20] (.g [.m 21 4,.v 22 .neq 21 0] (.i 22 (.g [.m 23 4,.m 2 23] (.ret [2])) .skip))) (.join [0,3] (.g [.m 24 0,.m 25 3,.r 26 5 24 25,.a 27 2 26,.d 28 2 27,.f 29 273 28,.m 5 29] (.g [.m 30 5,.v 31 .neq 30 0] (.i 31 (.g [.m 32 5,.m 2 32] (.ret [2])) .skip))) (.join [0,3] (.join [0,3,46] (.reg [.m 33 0,.m 34 3,.r 35 5 33 34,.a 36 4 35,.l 37 36,.v 38 .lss 37 1,.m 39 38,.mx 40 0 39,.mx 41 3 39,.x 42 (.iadr 5 (.t 40) (.t 41)) 39,.ax 43 4 42 39,.lx 44 43 39,.vx 45 .gtr 44 4 39,.o 46 39 45]) (.i 46 (.g [.c 2 2] (.ret [2])) .skip)) (.join [0,3,63] (.dreg 17 [.m 47 3,.v 48 .gtr 47 0,.m 49 48,.my 50 0 49,.my 51 3 49,.vy 52 .sub 51 1 49,.ry 53 5 50 52 49,.ay 54 0 53 49,.y 55 (.load (some 2) (.t 54)) 49,.my 56 0 49,.my 57 3 49,.ry 58 5 56 57 49,.ay 59 0 58 49,.y 60 (.load (some 2) (.t 59)) 49,.y 61 (.f 130 [.t 55,.t 60]) 49,.y 62 (.un .not (.t 61)) 49,.e 63 49 62]) (.i 63 (.g [.c 2 9] (.ret [2])) .skip)))))) (.reg [.m 13 3,.v 14 .add 13 1,.m 3 14])))
theorem F197:compF Tryz.prog 197=some ⟨64,[.tmp 2],(.g [.c 2 0] (.join [0] (.g [.m 6 0,.u 7 6,.v 8 .gtr 7 128] (.i 8 (.g [.c 2 5] (.ret [2])) .skip)) (.join [] (.g [.c 3 0] (.block 0 (.loop [0,3] [] B197_0))) (.g [.c 2 0] (.ret [2])))))⟩:=by kernel_rfl
def B198_0:Cd:=(.join [0,3] (.g [.m 11 3,.m 12 0,.u 13 12,.b 14 .lss 11 13] (.i 14 .skip (.exit [] 0))) (.join [0,3] (.block 1 (.g [.m 17 0,.m 18 3,.r 19 6 17 18,.d 20 6 19,.s 4 (.alloc 266 [.i 0,.i 0,.i 0,.i 0,.i 0,.i 0]),.w 6 4 20] (.z [4] (.join [0,3,54] (.reg [.a 21 0 4,.l 22 21,.f 23 274 22,.z 24 23,.m 25 24,.ax 26 1 4 25,.lx 27 26 25,.x 28 (.f 274 [.t 27]) 25,.x 29 (.un .not (.t 28)) 25,.o 30 25 29,.m 31 30,.ax 32 2 4 31,.lx 33 32 31,.x 34 (.f 274 [.t 33]) 31,.x 35 (.un .not (.t 34)) 31,.o 36 31 35,.m 37 36,.ax 38 3 4 37,.lx 39 38 37,.x 40 (.f 274 [.t 39]) 37,.x 41 (.un .not (.t 40)) 37,.o 42 37 41,.m 43 42,.ax 44 4 4 43,.lx 45 44 43,.x 46 (.f 274 [.t 45]) 43,.x 47 (.un .not (.t 46)) 43,.o 48 43 47,.m 49 48,.ax 50 5 4 49,.lx 51 50 49,.x 52 (.f 274 [.t 51]) 49,.x 53 (.un .not (.t 52)) 49,.o 54 49 53]) (.i 54 (.g [.c 2 2] (.ret [2])) .skip))))) (.reg [.m 15 3,.v 16 .add 15 1,.m 3 16])))
theorem F198:compF Tryz.prog 198=some ⟨55,[.tmp 2],(.g [.c 2 0] (.join [0] (.g [.m 5 0,.u 6 5,.v 7 .eql 6 0] (.i 7 (.g [.c 2 12] (.ret [2])) .skip)) (.join [0] (.g [.m 8 0,.u 9 8,.v 10 .gtr 9 4] (.i 10 (.g [.c 2 5] (.ret [2])) .skip)) (.join [] (.g [.c 3 0] (.block 0 (.loop [0,3] [] B198_0))) (.g [.c 2 0] (.ret [2]))))))⟩:=by kernel_rfl
theorem F199:compF Tryz.prog 199=some ⟨42,[.tmp 2],(.g [.q 1 41 0,.c 2 0] (.z [1] (.join [1] (.join [1,16] (.reg [.a 4 6 1,.l 5 4,.v 6 .neq 5 (-1),.m 7 6,.ay 8 6 1 7,.ly 9 8 7,.vy 10 .lss 9 25 7,.my 11 10 7,.ax 12 6 1 11,.lx 13 12 11,.vx 14 .gtr 13 10000000 11,.y 15 (.pick (.t 11) (.c (.bool true)) (.t 14)) 7,.e 16 7 15]) (.i 16 (.g [.c 2 2] (.ret [2])) .skip)) (.join [1] (.g [.a 17 7 1,.l 18 17,.s 19 (.bin .neq (.t 18) (.w []))] (.i 19 (.g [.a 20 7 1,.l 21 20,.f 22 195 21,.m 3 22] (.g [.m 23 3,.v 24 .neq 23 0] (.i 24 (.g [.m 25 3,.m 2 25] (.ret [2])) .skip))) .skip)) (.join [1] (.join [1,33] (.reg [.a 26 8 1,.l 27 26,.v 28 .lss 27 0,.m 29 28,.ax 30 8 1 29,.lx 31 30 29,.vx 32 .gtr 31 100 29,.o 33 29 32]) (.i 33 (.g [.c 2 2] (.ret [2])) .skip)) (.join [] (.join [41] (.reg [.a 34 8 1,.l 35 34,.v 36 .gtr 35 0,.m 37 36,.ay 38 7 1 37,.ly 39 38 37,.y 40 (.bin .eql (.t 39) (.w [])) 37,.e 41 37 40]) (.i 41 (.g [.c 2 11] (.ret [2])) .skip)) (.g [.c 2 0] (.ret [2]))))))))⟩:=by kernel_rfl
theorem F274:compF Tryz.prog 274=some ⟨9,[.tmp 2],(.g [.k 2 false] (.join [2] (.reg [.m 3 0,.v 4 .geq 3 0,.m 5 4,.my 6 0 5,.vy 7 .leq 6 10000000 5,.e 8 5 7,.m 2 8]) (.ret [2])))⟩:=by kernel_rfl
def B138_0:Cd:=(.g [.b 34 .lss 33 32] (.join [1,31,32,33] (.i 34 .skip (.exit [] 1)) (.join [1,31,32,33] (.block 2 (.g [.m 35 33,.r 36 9 31 33,.d 37 9 36,.s 4 (.alloc 41 [(.str []),(.str []),.nils,.nils,(.bool false),(.bool false),.i 0,(.str []),.i 0]),.m 3 35,.w 9 4 37] (.z [4] (.join [1,3,4,31,32,33] (.g [.d 38 9 4,.f 39 157 38,.m 5 39] (.g [.m 40 5,.v 41 .neq 40 0] (.i 41 (.g [.m 42 5,.m 2 42] (.ret [2])) .skip))) (.join [1,31,32,33,57] (.dreg 15 [.m 43 3,.v 44 .gtr 43 0,.m 45 44,.ay 46 2 1 45,.ly 47 46 45,.my 48 3 45,.vy 49 .sub 48 1 45,.ry 50 9 47 49 45,.ay 51 0 50 45,.ly 52 51 45,.ay 53 0 4 45,.ly 54 53 45,.y 55 (.f 226 [.t 52,.t 54]) 45,.vy 56 .geq 55 0 45,.e 57 45 56]) (.i 57 (.g [.c 2 9] (.ret [2])) .skip)))))) (.reg [.v 58 .add 33 1,.m 33 58]))))
theorem F138:compF Tryz.prog 138=some ⟨59,[.tmp 2],(.g [.q 1 98 0,.c 2 0] (.z [1] (.join [1] (.block 0 (.join [1,6] (.reg [.a 7 0 1,.l 8 7,.v 9 .lss 8 1,.m 10 9,.ax 11 0 1 10,.lx 12 11 10,.vx 13 .gtr 12 1048576 10,.o 14 10 13,.m 15 14,.ax 16 1 1 15,.lx 17 16 15,.vx 18 .lss 17 0 15,.o 19 15 18,.m 20 19,.ax 21 1 1 20,.lx 22 21 20,.vx 23 .gtr 22 9 20,.o 24 20 23,.m 6 24]) (.i 6 (.g [.c 2 2] (.ret [2])) (.g [.a 26 2 1,.l 27 26,.u 28 27,.v 29 .gtr 28 64,.m 25 29] (.i 25 (.g [.c 2 5] (.ret [2])) .skip))))) (.join [] (.g [.a 30 2 1,.l 31 30,.u 32 31,.c 33 0] (.block 1 (.loop [1,31,32,33] [] B138_0))) (.g [.c 2 0] (.ret [2]))))))⟩:=by kernel_rfl
theorem F226:compF Tryz.prog 226=some ⟨14,[.tmp 4],(.g [.c 4 0] (.g [.m 8 0,.m 9 1,.g' 10 296 8 9,.m 7 10,.j 11 0 7,.j 12 1 7,.m 5 11,.m 6 12] (.g [.m 13 5,.m 4 13] (.ret [4]))))⟩:=by kernel_rfl
def B68_0:Cd:=(.join [1,3] (.g [.m 27 3,.a 28 2 1,.l 29 28,.u 30 29,.b 31 .lss 27 30] (.i 31 .skip (.exit [] 0))) (.join [1,3] (.block 1 (.join [1,3] (.g [.a 34 2 1,.l 35 34,.m 36 3,.r 37 9 35 36,.d 38 9 37,.f 39 122 38,.m 4 39] (.g [.m 40 4,.v 41 .neq 40 0] (.i 41 (.g [.m 42 4,.m 2 42] (.ret [2])) .skip))) (.join [1,3,61] (.dreg 19 [.m 43 3,.v 44 .gtr 43 0,.m 45 44,.ay 46 2 1 45,.ly 47 46 45,.my 48 3 45,.vy 49 .sub 48 1 45,.ry 50 9 47 49 45,.ay 51 0 50 45,.ly 52 51 45,.ay 53 2 1 45,.ly 54 53 45,.my 55 3 45,.ry 56 9 54 55 45,.ay 57 0 56 45,.ly 58 57 45,.y 59 (.f 123 [.t 52,.t 58]) 45,.vy 60 .geq 59 0 45,.e 61 45 60]) (.i 61 (.g [.c 2 9] (.ret [2])) .skip)))) (.reg [.m 32 3,.v 33 .add 32 1,.m 3 33])))
theorem F68:compF Tryz.prog 68=some ⟨62,[.tmp 2],(.g [.q 1 98 0,.c 2 0] (.z [1] (.join [1] (.join [1,22] (.reg [.a 5 0 1,.l 6 5,.v 7 .lss 6 1,.m 8 7,.ax 9 0 1 8,.lx 10 9 8,.vx 11 .gtr 10 1048576 8,.o 12 8 11,.m 13 12,.ax 14 1 1 13,.lx 15 14 13,.vx 16 .lss 15 0 13,.o 17 13 16,.m 18 17,.ax 19 1 1 18,.lx 20 19 18,.vx 21 .gtr 20 9 18,.o 22 18 21]) (.i 22 (.g [.c 2 2] (.ret [2])) .skip)) (.join [1] (.g [.a 23 2 1,.l 24 23,.u 25 24,.v 26 .gtr 25 64] (.i 26 (.g [.c 2 5] (.ret [2])) .skip)) (.join [] (.g [.c 3 0] (.block 0 (.loop [1,3] [] B68_0))) (.g [.c 2 0] (.ret [2])))))))⟩:=by kernel_rfl
end Go.Proofs.YtmjkgajnpmiomaaGreatDoor

namespace Go.Proofs.YtmjkgajnpmiomaaGreatDoor
open Go.Sha
set_option maxRecDepth 10000
variable {g:List (Nat×Obj)}{n:Nat}
abbrev tim (v:Int):Prop:=0≤v∧v≤10000000
theorem f274 {v:Int}{st:St}:run Tryz.prog HH 274 [.int .i64 v] st=some (.ret (.bool (decide (tim v))),st):=by
 rw[run_shut F274 rfl rfl (by simp)]
 push_cast
 all_goals ((repeat' split)<;>simp_all)
def labL:List UInt8→Int
 |[]=>0
 |q::r=>if(q.toNat:Int)<32∨126<(q.toNat:Int)∨(q.toNat:Int)=34 then 3 else labL r
theorem L196 {s:List UInt8}(hl:s.length<140737488355328):∀r j,s.drop j=r→runL Tryz.prog HH [0,3] n B196_0 [(0,.str s),(3,.int .i64 j)] (stN g n)=lpE (stN g n) [] 2 (labL r):=by
 refine drop_ind (fun j h=>?_) (fun q r j h hx hd ih=>?_)
 all_goals rw[runL_of B196_0.eq_1]
 ·have h1:¬(j:Int)<s.length:=by omega
  push_cast[h1,labL]
 ·have h1:(j:Int)<s.length:=by omega
  have hw:=iw1 (j:=j) (by omega)
  push_cast[h1,hw,hx]at ih ⊢
  simp only[ih,labL,lps,Int.reduceEq,not_false_eq_true]
def labC (s:List UInt8):Int:=if 24<(s.length:Int) then 13 else labL s
theorem f196 {s:List UInt8}(hl:s.length<140737488355328){st:St}:run Tryz.prog HH 196 [.str s] st=some (.ret (.int .i64 (labC s)),st):=by
 rw[run_shut F196 rfl rfl (by simp)]
 have hL0:=fun n=>L196 (g:=st.x.gl) (n:=n) hl _ 0 rfl
 push_cast[labC]at hL0
 push_cast[labC,hL0,lpE,lpX,lpI,lpB]
theorem L236 {s:List UInt8}(hl:s.length<140737488355328):∀r j,s.drop j=r→runL Tryz.prog HH [9,10,11] 1 B236_0 [(9,.osl 0 s.length),(10,.int .i64 s.length),(11,.int .i64 j)] (stO g 5 1 (s.map bV))=lpE (stO g 5 1 (s.map bV)) [] 2 (labL r):=by
 refine drop_ind (fun j h=>?_) (fun q r j h hx hd ih=>?_)
 all_goals rw[runL_of B236_0.eq_1]
 ·have h1:¬(j:Int)<s.length:=by omega
  push_cast[h1,labL]
 ·have h1:(j:Int)<s.length:=by omega
  have hw:=iw1 (j:=j) (by omega)
  have hk:∀d,(s.map bV).getD j d=bV q:=getD_drop hd
  push_cast[h1,hw,hx,bV,hk]at ih ⊢
  simp only[ih,labL,lps,Int.reduceEq,not_false_eq_true]
  all_goals exact dn_eq (by omega) (by with_reducible rfl)
def movX (x:Mov)(k:Nat)(y:Prm):Int:=if ¬prmC 1 x.prm=0 then prmC 1 x.prm else if ¬valC x.val=0 then valC x.val else if x.part<1∨4<x.part then 2 else if 0<(k:Int)∧0≤cmpP y x.prm then 9 else 0
theorem f300 {x:Mov}{l:List Mov}{st:St}(hl:l.length<140737488355328):run Tryz.prog HH 300 [x.v,.sl (l.map Mov.v)] st=some (.ret (.int .i64 (movX x l.length (l.getD (l.length-1) default).prm)),st):=by
 rw[run_shut F300 rfl rfl (by simp)]
 push_cast[Mov.v,p327,p328,p329,movX,iwrap_pred hl]
 all_goals exact dn_eq (by omega) (by with_reducible rfl)
theorem f236 {s:List UInt8}(hl:s.length<140737488355328){st:St}:run Tryz.prog HH 236 [.str s] st=some (.ret (.int .i64 (labC s)),st):=by
 rw[run_shut F236 rfl rfl (by simp)]
 have hL0:=L236 (g:=st.x.gl) hl _ 0 rfl
 push_cast at hL0
 push_cast[hL0,lpE,labC]
 exact dn_eq (by simp[maxLen];omega) rfl
theorem f265t {x:Mov}{l:List Mov}{j:Nat}{st:St}(hl:l.length<140737488355328)(h:j<l.length):run Tryz.prog HH 300 [x.v,.sl ((l.take j).map Mov.v)] st=some (.ret (.int .i64 (movX x j (l.getD (j-1) default).prm)),st):=by
 have h1:(l.take j).length=j:=by simp;omega
 rw[f300 (by omega),h1]
 cases j with
 |zero=>simp[movX]
 |succ k=>simp
def movsP (l:List Mov):List Mov→Nat→Int
 |[],_=>0
 |q::r,j=>if ¬movX q j (l.getD (j-1) default).prm=0 then movX q j (l.getD (j-1) default).prm else movsP l r (j+1)
theorem L238 {l:List Mov}(hl:l.length<140737488355328):∀r j,l.drop j=r→runL Tryz.prog HH [0,9,10,11] n B238_0 [(0,.sl (l.map Mov.v)),(9,.sl (l.map Mov.v)),(10,.int .i64 l.length),(11,.int .i64 j)] (stN g n)=lpE (stN g n) [] 2 (movsP l r j):=by
 refine drop_ind (fun j h=>?_) (fun q r j h hx hd ih=>?_)
 all_goals rw[runL_of B238_0.eq_1]
 ·have h1:¬(j:Int)<l.length:=by omega
  push_cast[h1,movsP,Mov.v]
 ·have h1:(j:Int)<l.length:=by omega
  have hw:=iw1 (j:=j) (by omega)
  have hm:=fun(x:Mov) (st:St)=>f265t (x:=x) (st:=st) hl h
  push_cast[h1,hw,hx,Mov.v,hm]at ih ⊢
  simp only[ih,movsP,lps,Int.reduceEq,not_false_eq_true]
  all_goals ((repeat' split)<;>(try simp_all)<;>(try (with_reducible refine dn_eq ?_ ?_<;>first|trivial|omega|rfl))<;>(try omega))
def movsR (l:List Mov):List Mov→Nat→Int
 |[],_=>0
 |q::r,j=>if ¬prmC 1 q.prm=0 then prmC 1 q.prm else if ¬valC q.val=0 then valC q.val else if q.part<1∨4<q.part then 2 else if 0<j∧befP (l.getD (j-1) default).prm q.prm=false then 9 else movsR l r (j+1)
theorem L197 {l:List Mov}(hl:l.length<140737488355328):∀r j,l.drop j=r→runL Tryz.prog HH [0,3] n B197_0 [(0,.sl (l.map Mov.v)),(3,.int .i64 j)] (stN g n)=lpE (stN g n) [] 2 (movsR l r j):=by
 refine drop_ind (fun j h=>?_) (fun q r j h hx hd ih=>?_)
 all_goals rw[runL_of B197_0.eq_1]
 ·have h1:¬(j:Int)<l.length:=by omega
  push_cast[h1,movsR,Mov.v]
 ·have h1:(j:Int)<l.length:=by omega
  have hw:=iw1 (j:=j) (by omega)
  push_cast[h1,hw,hx,Mov.v,p131,p273,p130,iwrap_pred (j:=j) (by omega)]at ih ⊢
  simp only[ih,movsR,lps,Int.reduceEq,not_false_eq_true]
  all_goals ((repeat' split)<;>(try simp_all)<;>(try (with_reducible refine dn_eq ?_ ?_<;>first|trivial|omega|rfl))<;>(try omega))
def movCP (l:List Mov):Int:=if 128<(l.length:Int) then 5 else movsP l l 0
def movCR (l:List Mov):Int:=if 128<(l.length:Int) then 5 else movsR l l 0
theorem f238 {l:List Mov}(hl:l.length<140737488355328){st:St}:run Tryz.prog HH 238 [.sl (l.map Mov.v)] st=some (.ret (.int .i64 (movCP l)),st):=by
 rw[run_shut F238 rfl rfl (by simp)]
 have hL0:=fun n=>L238 (g:=st.x.gl) (n:=n) hl _ 0 rfl
 push_cast[movCP]at hL0
 push_cast[movCP,hL0,lpE,lpX,lpI,lpB]
theorem f197 {l:List Mov}(hl:l.length<140737488355328){st:St}:run Tryz.prog HH 197 [.sl (l.map Mov.v)] st=some (.ret (.int .i64 (movCR l)),st):=by
 rw[run_shut F197 rfl rfl (by simp)]
 have hL0:=fun n=>L197 (g:=st.x.gl) (n:=n) hl _ 0 rfl
 push_cast[movCR]at hL0
 push_cast[movCR,hL0,lpE,lpX,lpI,lpB]
abbrev timB (q:Tim):Prop:=¬tim q.up∨¬tim q.down∨¬tim q.posi∨¬tim q.colour∨¬tim q.beam∨¬tim q.delay
def timL:List Tim→Int
 |[]=>0
 |q::r=>if timB q then 2 else timL r
theorem L198 {l:List Tim}(hl:l.length<140737488355328):∀r j,l.drop j=r→runL Tryz.prog HH [0,3] n B198_0 [(0,.sl (l.map Tim.v)),(3,.int .i64 j)] (stN g n)=lpE (stN g n) [] 2 (timL r):=by
 refine drop_ind (fun j h=>?_) (fun q r j h hx hd ih=>?_)
 all_goals rw[runL_of B198_0.eq_1]
 ·have h1:¬(j:Int)<l.length:=by omega
  push_cast[h1,timL,Tim.v]
 ·have h1:(j:Int)<l.length:=by omega
  have hw:=iw1 (j:=j) (by omega)
  push_cast[h1,hw,hx,Tim.v,f274]at ih ⊢
  simp only[ih,timL,lps,Int.reduceEq,not_false_eq_true]
def timC (l:List Tim):Int:=if(l.length:Int)=0 then 12 else if 4<(l.length:Int) then 5 else timL l
theorem f198 {l:List Tim}(hl:l.length<140737488355328){st:St}:run Tryz.prog HH 198 [.sl (l.map Tim.v)] st=some (.ret (.int .i64 (timC l)),st):=by
 rw[run_shut F198 rfl rfl (by simp)]
 have hL0:=fun n=>L198 (g:=st.x.gl) (n:=n) hl _ 0 rfl
 push_cast[timC]at hL0
 push_cast[timC,hL0,lpE,lpX,lpI,lpB]
theorem tN {v:Int}:(v<0∨10000000<v)=¬tim v:=propext (by unfold tim;omega)
theorem L239 {x:Cu}(hl:x.parts.length<140737488355328):∀r j,x.parts.drop j=r→runL Tryz.prog HH [1,18,19,20] n B239_1 [(1,.ep x.v 0),(18,.sl (x.parts.map Tim.v)),(19,.int .i64 x.parts.length),(20,.int .i64 j)] (stN g n)=lpX 1 (stN g n) [(1,.ep x.v 0)] 2 (timL r):=by
 refine drop_ind (fun j h=>?_) (fun q r j h hx hd ih=>?_)
 all_goals rw[runL_of B239_1.eq_1]
 ·have h1:¬(j:Int)<x.parts.length:=by omega
  push_cast[h1,timL,timB,mgO,Cu.v,Tim.v]
 ·have h1:(j:Int)<x.parts.length:=by omega
  have hw:=iw1 (j:=j) (by omega)
  push_cast[h1,hw,hx,Cu.v,Tim.v,runL_of B239_0.eq_1,tN]at ih ⊢
  simp only[ih,timL,timB,mgO,lps,Int.reduceEq,not_false_eq_true]
theorem f302 {q:Mov}{x:Cu}{st:St}:run Tryz.prog HH 302 [q.v,.ep x.v 0] st=some (.ret (.bool (decide ((x.parts.length:Int)<q.part))),st):=by
 rw[run_shut F302 rfl rfl (by simp)]
 push_cast[Mov.v,Cu.v]
theorem f330 {x:Cu}(hl:x.moves.length<140737488355328){st:St}:run Tryz.prog HH 330 [.sl (x.moves.map Mov.v),.fn (.func 302) [] [.ep x.v 0]] st=some (.ret (.int .i64 (ix (fun q=>decide ((x.parts.length:Int)<q.part)) x.moves 0)),st) :=
 IxF (f:=Mov.v) (n:=some 5) (fun _=>rfl) (fun _=>rfl) F330 rfl (by simp) hl (fun q _ _=>f302) (fun _ _=>rfl) (fun _=>rfl)
def parC (x:Cu):Int:=if(x.parts.length:Int)=0 then 12 else if 4<(x.parts.length:Int) then 5 else if timL x.parts=0 then if x.moves.any (fun q=>decide ((x.parts.length:Int)<q.part))=true then 6 else 0 else timL x.parts
theorem f239 {x:Cu}(hl:x.parts.length<140737488355328)(hm:x.moves.length<140737488355328){st:St}:run Tryz.prog HH 239 [x.v] st=some (.ret (.int .i64 (parC x)),st):=by
 have h284:=fun(st:St)=>f330 (st:=st) hm
 push_cast[Cu.v]at h284
 rw[run_shut F239 rfl rfl (by simp)]
 have hL0:=fun n=>L239 (g:=st.x.gl) (n:=n) hl _ 0 rfl
 push_cast[Cu.v,parC,h284,ix_ge,(fun(a0 a1:V) (st:St) (h:V.bdL 0 [a0,a1]=true)=>run_shut (P:=Tryz.prog) (H:=HH) (args:=[a0,a1]) (st:=st) F301 rfl rfl h)]at hL0
 push_cast[Cu.v,parC,h284,ix_ge,(fun(a0 a1:V) (st:St) (h:V.bdL 0 [a0,a1]=true)=>run_shut (P:=Tryz.prog) (H:=HH) (args:=[a0,a1]) (st:=st) F301 rfl rfl h),hL0,lpE,lpX,lpI,lpB]
def nxtC (x:Cu):Int:=if ¬x.follow=-1∧(x.follow<25∨10000000<x.follow) then 2 else if ¬x.link=[]∧¬numC x.link=0 then numC x.link else if x.loops<0∨100<x.loops then 2 else if 0<x.loops∧x.link=[] then 11 else 0
theorem f240 {x:Cu}(hl:x.link.length<140737488355328){st:St}:run Tryz.prog HH 240 [x.v] st=some (.ret (.int .i64 (nxtC x)),st):=by
 rw[run_shut F240 rfl rfl (by simp)]
 push_cast[Cu.v,f96 hl,nxtC]
theorem f199 {x:Cu}(hl:x.link.length<140737488355328){st:St}:run Tryz.prog HH 199 [x.v] st=some (.ret (.int .i64 (nxtC x)),st):=by
 rw[run_shut F199 rfl rfl (by simp)]
 push_cast[Cu.v,f195 hl,nxtC]
structure Cu.ok (x:Cu):Prop where
 a:x.num.length<140737488355328
 b:x.label.length<140737488355328
 c:x.moves.length<140737488355328
 d:x.parts.length<140737488355328
 e:x.link.length<140737488355328
theorem f234 {x:Cu}(hl:x.num.length<140737488355328){st:St}:run Tryz.prog HH 234 [x.v] st=some (.ret (.int .i64 (numC x.num)),st):=by
 rw[run_shut F234 rfl rfl (by simp)]
 push_cast[Cu.v,f96 hl]
theorem f235 {x:Cu}(h:x.ok){st:St}:run Tryz.prog HH 235 [x.v] st=some (.ret (.int .i64 (labC x.label)),st):=by
 rw[run_shut F235 rfl rfl (by simp)]
 push_cast[Cu.v,f236 h.b]
theorem f237 {x:Cu}(h:x.ok){st:St}:run Tryz.prog HH 237 [x.v] st=some (.ret (.int .i64 (movCP x.moves)),st):=by
 rw[run_shut F237 rfl rfl (by simp)]
 push_cast[Cu.v,f238 h.c]
def cueP (x:Cu):Int:=if ¬numC x.num=0 then numC x.num else if ¬labC x.label=0 then labC x.label else if ¬movCP x.moves=0 then movCP x.moves else if ¬parC x=0 then parC x else nxtC x
theorem f157 {x:Cu}(h:x.ok){st:St}:run Tryz.prog HH 157 [x.v] st=some (.ret (.int .i64 (cueP x)),st):=by
 rw[run_shut F157 rfl rfl (by simp)]
 push_cast[Cu.v,f234 h.a,f235 h,f237 h,f239 h.d h.c,f240 h.e,cueP,runL_of B157_0.eq_1]
def mpL (n:Int):List Mov→Int
 |[]=>0
 |q::r=>if n<q.part then 6 else mpL n r
theorem mpL_eq {n:Int}:∀{l:List Mov},mpL n l=if l.any (fun q=>decide (n<q.part))=true then 6 else 0
 |[]=>rfl
 |q::r=>by by_cases h:n<q.part<;>simp[mpL,h,mpL_eq (l:=r)]
theorem L122 {x:Cu}(hl:x.moves.length<140737488355328):∀r j,x.moves.drop j=r→runL Tryz.prog HH [1,7] n B122_0 [(1,.ep x.v 0),(7,.int .i64 j)] (stN g n)=lpX 0 (stN g n) [(1,.ep x.v 0)] 2 (mpL x.parts.length r):=by
 refine drop_ind (fun j h=>?_) (fun q r j h hx hd ih=>?_)
 all_goals rw[runL_of B122_0.eq_1]
 ·have h1:¬(j:Int)<x.moves.length:=by omega
  push_cast[h1,mpL,Cu.v,Mov.v]
 ·have h1:(j:Int)<x.moves.length:=by omega
  have hw:=iw1 (j:=j) (by omega)
  push_cast[h1,hw,hx,Cu.v,Mov.v]at ih ⊢
  simp only[ih,mpL,lps,Int.reduceEq,not_false_eq_true]
def cueR (x:Cu):Int:=if ¬numC x.num=0 then numC x.num else if ¬labC x.label=0 then labC x.label else if ¬movCR x.moves=0 then movCR x.moves else if ¬timC x.parts=0 then timC x.parts else if mpL x.parts.length x.moves=0 then nxtC x else mpL x.parts.length x.moves
theorem f122 {x:Cu}(h:x.ok){st:St}:run Tryz.prog HH 122 [x.v] st=some (.ret (.int .i64 (cueR x)),st):=by
 rw[run_shut F122 rfl rfl (by simp)]
 have hL0:=fun n=>L122 (g:=st.x.gl) (n:=n) h.c _ 0 rfl
 push_cast[Cu.v,f195 h.a,f196 h.b,f197 h.c,f198 h.d,f199 h.e,cueR]at hL0
 push_cast[Cu.v,f195 h.a,f196 h.b,f197 h.c,f198 h.d,f199 h.e,cueR,hL0,lpE,lpX,lpI,lpB]
theorem getD_ok {α:Type}[Inhabited α]{ok:α→Prop}{l:List α}(h:∀q∈l,ok q)(h0:ok default)(k:Nat):ok (l.getD k default):=by
 rw[List.getD_eq_getElem?_getD]
 by_cases hk:k<l.length
 ·rw[List.getElem?_eq_getElem hk];exact h _ (List.getElem_mem _)
 ·rw[List.getElem?_eq_none (by omega)];exact h0
theorem Cu.ok0:(default:Cu).ok:=⟨by decide,by decide,by decide,by decide,by decide⟩
theorem f226 {s t:List UInt8}(hl:s.length<140737488355328)(hk:t.length<140737488355328){st:St}:run Tryz.prog HH 226 [.str s,.str t] st=some (.ret (.int .i64 (cmpN s t)),st):=by
 rw[run_shut F226 rfl rfl (by simp)]
 push_cast[f296 hl hk]
def cuesP (l:List Cu):List Cu→Nat→Int
 |[],_=>0
 |q::r,j=>if ¬cueP q=0 then cueP q else if 0<j∧0≤cmpN (l.getD (j-1) default).num q.num then 9 else cuesP l r (j+1)
theorem L138 {x:Lst}(hl:x.cues.length<140737488355328)(hb:∀q∈x.cues,q.ok):∀r j,x.cues.drop j=r→runL Tryz.prog HH [1,31,32,33] n B138_0 [(1,.ep x.v 0),(31,.sl (x.cues.map Cu.v)),(32,.int .i64 x.cues.length),(33,.int .i64 j)] (stN g n)=lpX 1 (stN g n) [] 2 (cuesP x.cues r j):=by
 refine drop_ind (fun j h=>?_) (fun q r j h hx hd ih=>?_)
 all_goals rw[runL_of B138_0.eq_1]
 ·have h1:¬(j:Int)<x.cues.length:=by omega
  push_cast[h1,cuesP,Lst.v,Cu.v]
 ·have h1:(j:Int)<x.cues.length:=by omega
  have hw:=iw1 (j:=j) (by omega)
  have hq:q.ok:=hb q (List.mem_of_mem_drop (hd▸List.mem_cons_self ..))
  push_cast[h1,hw,hx,Lst.v,Cu.v,f157 hq,f226 (getD_ok hb Cu.ok0 _).a hq.a,iwrap_pred (j:=j) (by omega)]at ih ⊢
  simp only[ih,cuesP,lps,Int.reduceEq,not_false_eq_true]
  all_goals ((repeat' split)<;>(try simp_all)<;>(try (with_reducible refine dn_eq ?_ ?_<;>first|trivial|omega|rfl))<;>(try omega))
def ordR (s t:List UInt8):Int:=if refV s<refV t then -1 else if refV t<refV s then 1 else 0
def cuesR (l:List Cu):List Cu→Nat→Int
 |[],_=>0
 |q::r,j=>if ¬cueR q=0 then cueR q else if 0<j∧0≤ordR (l.getD (j-1) default).num q.num then 9 else cuesR l r (j+1)
theorem L68 {x:Lst}(hl:x.cues.length<140737488355328)(hb:∀q∈x.cues,q.ok):∀r j,x.cues.drop j=r→runL Tryz.prog HH [1,3] n B68_0 [(1,.ep x.v 0),(3,.int .i64 j)] (stN g n)=lpE (stN g n) [] 2 (cuesR x.cues r j):=by
 refine drop_ind (fun j h=>?_) (fun q r j h hx hd ih=>?_)
 all_goals rw[runL_of B68_0.eq_1]
 ·have h1:¬(j:Int)<x.cues.length:=by omega
  push_cast[h1,cuesR,ordR,Lst.v,Cu.v]
 ·have h1:(j:Int)<x.cues.length:=by omega
  have hw:=iw1 (j:=j) (by omega)
  have hq:q.ok:=hb q (List.mem_of_mem_drop (hd▸List.mem_cons_self ..))
  push_cast[h1,hw,hx,Lst.v,Cu.v,f122 hq,f123 (getD_ok hb Cu.ok0 _).a hq.a,iwrap_pred (j:=j) (by omega)]at ih ⊢
  simp only[ih,cuesR,ordR,lps,Int.reduceEq,not_false_eq_true]
  all_goals ((repeat' split)<;>(try simp_all)<;>(try (with_reducible refine dn_eq ?_ ?_<;>first|trivial|omega|rfl))<;>(try omega))
structure Lst.ok (x:Lst):Prop where
 a:x.cues.length<140737488355328
 b:∀q∈x.cues,q.ok
abbrev lstB (x:Lst):Prop:=x.num<1∨1048576<x.num∨x.prio<0∨9<x.prio
def lstP (x:Lst):Int:=if lstB x then 2 else if 64<(x.cues.length:Int) then 5 else cuesP x.cues x.cues 0
def lstR (x:Lst):Int:=if lstB x then 2 else if 64<(x.cues.length:Int) then 5 else cuesR x.cues x.cues 0
theorem f138 {x:Lst}(h:x.ok){st:St}:run Tryz.prog HH 138 [x.v] st=some (.ret (.int .i64 (lstP x)),st):=by
 rw[run_shut F138 rfl rfl (by simp)]
 have hL0:=fun n=>L138 (g:=st.x.gl) (n:=n) h.a h.b _ 0 rfl
 push_cast[Lst.v,lstP,lstB]at hL0
 push_cast[Lst.v,lstP,lstB,hL0,lpE,lpX,lpI,lpB]
theorem f68 {x:Lst}(h:x.ok){st:St}:run Tryz.prog HH 68 [x.v] st=some (.ret (.int .i64 (lstR x)),st):=by
 rw[run_shut F68 rfl rfl (by simp)]
 have hL0:=fun n=>L68 (g:=st.x.gl) (n:=n) h.a h.b _ 0 rfl
 push_cast[Lst.v,lstR,lstB]at hL0
 push_cast[Lst.v,lstR,lstB,hL0,lpE,lpX,lpI,lpB]
end Go.Proofs.YtmjkgajnpmiomaaGreatDoor

namespace Go.Proofs.YtmjkgajnpmiomaaGreatDoor
open Go.Sha
set_option maxRecDepth 10000
theorem F134:compF Tryz.prog 134=some ⟨29,[.tmp 4],(.g [.q 2 94 0,.c 4 0] (.z [2] (.join [1,2] (.g [.m 7 1,.f 8 209 7,.m 5 8] (.g [.m 9 5,.v 10 .neq 9 0] (.i 10 (.g [.m 11 5,.m 4 11] (.ret [4])) .skip))) (.g [.s 12 (.mkfn (.func 211) [] [.t 2]),.s 13 (.build [.nilf,.i 0] [(0,1,(.t 12)),(1,1,(.i 8))]),.s 14 (.mkfn (.func 213) [] [.t 2]),.s 15 (.build [.nilf,.i 0] [(0,1,(.t 14)),(1,1,(.i 2))]),.s 16 (.mkfn (.func 214) [] [.t 2]),.s 17 (.build [.nilf,.i 0] [(0,1,(.t 16)),(1,1,(.i 2))]),.s 18 (.mkfn (.func 215) [] [.t 2]),.s 19 (.build [.nilf,.i 0] [(0,1,(.t 18)),(1,1,(.i 5))]),.s 20 (.bslice 279 2 [.t 13,.t 15,.t 17,.t 19]),.f 21 210 20,.m 6 21] (.join [1,2] (.g [.m 22 6,.v 23 .neq 22 0] (.i 23 (.g [.m 24 6,.m 4 24] (.ret [4])) .skip)) (.g [.d 25 4 2,.m 26 1,.u 27 26,.g' 28 216 25 27,.m 4 28] (.ret [4])))))))⟩:=by kernel_rfl
def B210_0:Cd:=(.g [.b 8 .lss 7 6] (.join [5,6,7] (.i 8 .skip (.exit [] 0)) (.join [5,6,7] (.block 1 (.g [.r 9 2 5 7,.d 10 2 9,.s 4 (.alloc 279 [.nilf,.i 0]),.w 2 4 10] (.z [4] (.g [.a 11 0 4,.l 12 11,.s 13 (.call (.t 12) [])] (.i 13 (.g [.a 14 1 4,.l 15 14,.m 2 15] (.ret [2])) .skip))))) (.reg [.v 16 .add 7 1,.m 7 16]))))
theorem F210:compF Tryz.prog 210=some ⟨17,[.tmp 2],(.g [.c 2 0] (.join [] (.g [.m 5 0,.u 6 5,.c 7 0] (.block 0 (.loop [5,6,7] [] B210_0))) (.g [.c 2 0] (.ret [2]))))⟩:=by kernel_rfl
theorem F211:compF Tryz.prog 211=some ⟨6,[.tmp 1],(.g [.k 1 false] (.g [.a 2 0 0,.l 3 2,.f 4 212 3,.z 5 4,.m 1 5] (.ret [1])))⟩:=by kernel_rfl
theorem F212:compF Tryz.prog 212=some ⟨23,[.tmp 2],(.g [.k 2 false] (.join [0] (.join [0,19] (.reg [.m 3 0,.s 4 (.bin .eql (.t 3) (.w [])),.m 5 4,.mx 6 0 5,.x 7 (.lens (.t 6)) 5,.vx 8 .gtr 7 24 5,.o 9 5 8,.m 10 9,.mx 11 0 10,.x 12 (.ichr (.t 11) (.i 0)) 10,.x 13 (.bin .lss (.t 12) (.c (.int .u8 97))) 10,.o 14 10 13,.m 15 14,.mx 16 0 15,.x 17 (.ichr (.t 16) (.i 0)) 15,.x 18 (.bin .gtr (.t 17) (.c (.int .u8 122))) 15,.o 19 15 18]) (.i 19 (.g [.k 2 false] (.ret [2])) .skip)) (.g [.m 20 0,.s 21 (.f 278 [.t 20,(.w [97,98,99,100,101,102,103,104,105,106,107,108,109,110,111,112,113,114,115,116,117,118,119,120,121,122,48,49,50,51,52,53,54,55,56,57,95])]),.s 22 (.bin .eql (.t 21) (.w [])),.m 2 22] (.ret [2]))))⟩:=by kernel_rfl
theorem F213:compF Tryz.prog 213=some ⟨10,[.tmp 1],(.g [.k 1 false] (.join [1] (.reg [.a 2 1 0,.l 3 2,.v 4 .lss 3 1,.m 5 4,.ax 6 1 0 5,.lx 7 6 5,.vx 8 .gtr 7 512 5,.o 9 5 8,.m 1 9]) (.ret [1])))⟩:=by kernel_rfl
theorem F214:compF Tryz.prog 214=some ⟨10,[.tmp 1],(.g [.k 1 false] (.join [1] (.reg [.a 2 2 0,.l 3 2,.v 4 .lss 3 0,.m 5 4,.ax 6 2 0 5,.lx 7 6 5,.vx 8 .gtr 7 1048576 5,.o 9 5 8,.m 1 9]) (.ret [1])))⟩:=by kernel_rfl
theorem F215:compF Tryz.prog 215=some ⟨6,[.tmp 1],(.g [.k 1 false] (.g [.a 2 3 0,.l 3 2,.u 4 3,.v 5 .gtr 4 16,.m 1 5] (.ret [1])))⟩:=by kernel_rfl
def B216_0:Cd:=(.g [.b 54 .lss 53 52] (.join [1,2,5,6,16,17,18,51,52,53] (.i 54 .skip (.exit [1,2,5,6,16,17,18] 2)) (.join [1,2,5,6,16,17,18,51,52,53] (.block 3 (.g [.r 55 1 51 53,.l 56 55,.m 12 56] (.reg [.l 57 5,.m 58 12,.n (.act (.mset (.i .i64)) [.t 57,.t 58,(.c (.bool true))])]))) (.reg [.v 59 .add 53 1,.m 53 59]))))
def B216_1:Cd:=(.g [.b 19 .lss 18 17] (.join [1,2,5,6,16,17,18] (.i 19 .skip (.exit [] 0)) (.join [1,2,5,6,16,17,18] (.block 1 (.g [.r 20 10 16 18,.d 21 10 20,.s 8 (.alloc 132 [.i 0,.i 0,.i 0,.i 0,.i 0,.i 0,.i 0,.i 0,(.bool false),.nils]),.w 10 8 21] (.z [8] (.g [.s 22 (.mkfn (.func 279) [] [.t 8]),.s 23 (.build [.nilf,.i 0] [(0,1,(.t 22)),(1,1,(.i 1))]),.s 24 (.mkfn (.func 280) [] [.t 6,.t 8]),.s 25 (.build [.nilf,.i 0] [(0,1,(.t 24)),(1,1,(.i 7))]),.s 26 (.mkfn (.func 281) [] [.t 8]),.s 27 (.build [.nilf,.i 0] [(0,1,(.t 26)),(1,1,(.i 1))]),.s 28 (.mkfn (.func 283) [] [.t 8,.t 2]),.s 29 (.build [.nilf,.i 0] [(0,1,(.t 28)),(1,1,(.i 2))]),.s 30 (.mkfn (.func 287) [] [.t 8]),.s 31 (.build [.nilf,.i 0] [(0,1,(.t 30)),(1,1,(.i 3))]),.s 32 (.mkfn (.func 288) [] [.t 8,.t 5]),.s 33 (.build [.nilf,.i 0] [(0,1,(.t 32)),(1,1,(.i 11))]),.s 34 (.mkfn (.func 290) [] [.t 8]),.s 35 (.build [.nilf,.i 0] [(0,1,(.t 34)),(1,1,(.i 11))]),.s 36 (.bslice 279 2 [.t 23,.t 25,.t 27,.t 29,.t 31,.t 33,.t 35]),.f 37 210 36,.m 9 37] (.join [1,2,5,6,8,16,17,18] (.g [.m 38 9,.v 39 .neq 38 0] (.i 39 (.g [.m 40 9,.m 4 40] (.ret [4])) .skip)) (.join [1,2,5,6,8,16,17,18] (.g [.d 41 10 8,.m 42 1,.g' 43 291 41 42,.m 10 43] (.g [.m 44 10,.v 45 .neq 44 0] (.i 45 (.g [.m 46 10,.m 4 46] (.ret [4])) .skip))) (.g [.l 47 6,.a 48 0 8,.l 49 48,.n (.act (.mset (.i .i64)) [.t 47,.t 49,(.c (.bool true))])] (.g [.d 50 10 8,.f 51 285 50,.u 52 51,.c 53 0] (.block 2 (.loop [1,2,5,6,16,17,18,51,52,53] [] B216_0)))))))))) (.reg [.v 60 .add 18 1,.m 18 60]))))
theorem F216:compF Tryz.prog 216=some ⟨61,[.tmp 4],(.g [.q 2 94 0,.c 4 0] (.z [2] (.g [.s 13 (.act .mkmap []),.s 14 (.act .mkmap []),.s 5 (.alloc 324 [.nilm]),.s 6 (.alloc 324 [.nilm]),.w 1 5 13,.w 1 6 14] (.z [5,6] (.join [] (.g [.a 15 3 2,.l 16 15,.u 17 16,.c 18 0] (.block 0 (.loop [1,2,5,6,16,17,18] [] B216_1))) (.g [.c 4 0] (.ret [4])))))))⟩:=by kernel_rfl
theorem F279:compF Tryz.prog 279=some ⟨10,[.tmp 1],(.g [.k 1 false] (.join [1] (.reg [.a 2 0 0,.l 3 2,.v 4 .lss 3 0,.m 5 4,.ax 6 0 0 5,.lx 7 6 5,.vx 8 .geq 7 15 5,.o 9 5 8,.m 1 9]) (.ret [1])))⟩:=by kernel_rfl
theorem F280:compF Tryz.prog 280=some ⟨7,[.tmp 2],(.g [.k 2 false] (.g [.l 3 0,.a 4 0 1,.l 5 4,.s 6 (.act (.look (.i .i64) (.bool false) false) [.t 3,.t 5]),.m 2 6] (.ret [2])))⟩:=by kernel_rfl
theorem F281:compF Tryz.prog 281=some ⟨5,[.tmp 1],(.g [.k 1 false] (.g [.d 2 10 0,.f 3 282 2,.v 4 .neq 3 0,.m 1 4] (.ret [1])))⟩:=by kernel_rfl
theorem F282:compF Tryz.prog 282=some ⟨11,[.tmp 2],(.g [.q 1 132 0,.c 2 0] (.z [1] (.join [] (.join [10] (.reg [.a 3 1 1,.l 4 3,.v 5 .neq 4 8,.m 6 5,.ay 7 1 1 6,.ly 8 7 6,.vy 9 .neq 8 16 6,.e 10 6 9]) (.i 10 (.g [.c 2 1] (.ret [2])) .skip)) (.g [.c 2 0] (.ret [2])))))⟩:=by kernel_rfl
theorem F283:compF Tryz.prog 283=some ⟨7,[.tmp 2],(.g [.k 2 false] (.g [.d 3 10 0,.f 4 285 3,.s 5 (.mkfn (.func 286) [] [.t 1]),.g' 6 284 4 5,.m 2 6] (.ret [2])))⟩:=by kernel_rfl
theorem F284:compF Tryz.prog 284=some ⟨9,[.tmp 4],(.g [.k 4 false] (.g [.m 5 0,.m 6 1,.g' 7 323 5 6,.v 8 .geq 7 0,.m 4 8] (.ret [4])))⟩:=by kernel_rfl
theorem F285:compF Tryz.prog 285=some ⟨14,[.tmp 2],(.g [.q 1 132 0,.s 2 (.mv (.c .nils))] (.z [1] (.join [1] (.g [.a 3 1 1,.l 4 3,.v 5 .eql 4 16] (.i 5 (.g [.a 6 2 1,.l 7 6,.a 8 3 1,.l 9 8,.s 10 (.bslice 3 1 [.t 7,.t 9]),.m 2 10] (.ret [2])) .skip)) (.g [.a 11 2 1,.l 12 11,.s 13 (.bslice 3 1 [.t 12]),.m 2 13] (.ret [2])))))⟩:=by kernel_rfl
theorem F286:compF Tryz.prog 286=some ⟨12,[.tmp 3],(.g [.k 3 false] (.join [3] (.reg [.m 4 0,.v 5 .lss 4 0,.m 6 5,.mx 7 0 6,.ax 8 1 1 6,.lx 9 8 6,.bx 10 .geq 7 9 6,.o 11 6 10,.m 3 11]) (.ret [3])))⟩:=by kernel_rfl
theorem F287:compF Tryz.prog 287=some ⟨10,[.tmp 1],(.g [.k 1 false] (.join [1] (.reg [.a 2 1 0,.l 3 2,.v 4 .eql 3 8,.m 5 4,.ay 6 3 0 5,.ly 7 6 5,.vy 8 .neq 7 0 5,.e 9 5 8,.m 1 9]) (.ret [1])))⟩:=by kernel_rfl
theorem F288:compF Tryz.prog 288=some ⟨7,[.tmp 2],(.g [.k 2 false] (.g [.d 3 10 0,.f 4 285 3,.s 5 (.mkfn (.func 289) [] [.t 1]),.g' 6 284 4 5,.m 2 6] (.ret [2])))⟩:=by kernel_rfl
theorem F289:compF Tryz.prog 289=some ⟨7,[.tmp 3],(.g [.k 3 false] (.g [.l 4 1,.m 5 0,.s 6 (.act (.look (.i .i64) (.bool false) false) [.t 4,.t 5]),.m 3 6] (.ret [3])))⟩:=by kernel_rfl
theorem F290:compF Tryz.prog 290=some ⟨12,[.tmp 1],(.g [.k 1 false] (.join [1] (.reg [.a 2 1 0,.l 3 2,.v 4 .eql 3 16,.m 5 4,.ay 6 3 0 5,.ly 7 6 5,.ay 8 2 0 5,.ly 9 8 5,.by' 10 .eql 7 9 5,.e 11 5 10,.m 1 11]) (.ret [1])))⟩:=by kernel_rfl
theorem F291:compF Tryz.prog 291=some ⟨16,[.tmp 4],(.g [.q 2 132 0,.c 4 0] (.z [2] (.join [2] (.join [2,13] (.reg [.a 5 4 2,.l 6 5,.v 7 .lss 6 0,.m 8 7,.ax 9 4 2 8,.lx 10 9 8,.mx 11 1 8,.bx 12 .gtr 10 11 8,.o 13 8 12]) (.i 13 (.g [.c 4 6] (.ret [4])) .skip)) (.g [.d 14 10 2,.f 15 324 14,.m 4 15] (.ret [4])))))⟩:=by kernel_rfl
def B323_0:Cd:=(.g [.b 9 .lss 8 7] (.join [0,1,7,8] (.i 9 .skip (.exit [] 0)) (.join [0,1,7,8] (.block 1 (.g [.m 10 8,.m 5 10] (.g [.m 11 1,.m 12 0,.m 13 5,.r 14 1 12 13,.l 15 14,.s 16 (.call (.t 11) [.t 15])] (.i 16 (.g [.m 17 5,.m 4 17] (.ret [4])) .skip)))) (.reg [.v 18 .add 8 1,.m 8 18]))))
theorem F323:compF Tryz.prog 323=some ⟨19,[.tmp 4],(.g [.c 4 0] (.join [] (.g [.m 6 0,.u 7 6,.c 8 0] (.block 0 (.loop [0,1,7,8] [] B323_0))) (.g [.c 4 (-1)] (.ret [4]))))⟩:=by kernel_rfl
theorem F324:compF Tryz.prog 324=some ⟨16,[.tmp 2],(.g [.q 1 132 0,.c 2 0] (.z [1] (.g [.s 4 (.mkfn (.func 355) [] [.t 1]),.s 5 (.build [.nilf,.i 0] [(0,1,(.t 4)),(1,1,(.i 2))]),.s 6 (.mkfn (.func 357) [] [.t 1]),.s 7 (.build [.nilf,.i 0] [(0,1,(.t 6)),(1,1,(.i 2))]),.s 8 (.bslice 279 2 [.t 5,.t 7]),.f 9 210 8,.m 3 9] (.join [1] (.g [.m 10 3,.v 11 .neq 10 0] (.i 11 (.g [.m 12 3,.m 2 12] (.ret [2])) .skip)) (.g [.a 13 9 1,.l 14 13,.f 15 358 14,.m 2 15] (.ret [2]))))))⟩:=by kernel_rfl
theorem F355:compF Tryz.prog 355=some ⟨6,[.tmp 1],(.g [.k 1 false] (.g [.a 2 5 0,.l 3 2,.f 4 356 3,.z 5 4,.m 1 5] (.ret [1])))⟩:=by kernel_rfl
theorem F356:compF Tryz.prog 356=some ⟨9,[.tmp 2],(.g [.k 2 false] (.join [2] (.reg [.m 3 0,.v 4 .geq 3 0,.m 5 4,.my 6 0 5,.vy 7 .leq 6 65535 5,.e 8 5 7,.m 2 8]) (.ret [2])))⟩:=by kernel_rfl
theorem F357:compF Tryz.prog 357=some ⟨21,[.tmp 1],(.g [.k 1 false] (.join [1] (.dreg 20 [.a 2 6 0,.l 3 2,.v 4 .lss 3 0,.m 5 4,.ax 6 6 0 5,.lx 7 6 5,.ax 8 7 0 5,.lx 9 8 5,.bx 10 .gtr 7 9 5,.o 11 5 10,.m 12 11,.ax 13 7 0 12,.lx 14 13 12,.ax 15 1 0 12,.lx 16 15 12,.x 17 (.bin .shl (.i 1) (.t 16)) 12,.vx 18 .sub 17 1 12,.bx 19 .gtr 14 18 12,.o 20 12 19,.m 1 20]) (.ret [1])))⟩:=by kernel_rfl
def B358_0:Cd:=(.g [.b 12 .lss 11 10] (.join [1,9,10,11] (.i 12 .skip (.exit [] 0)) (.join [1,9,10,11] (.block 1 (.g [.m 13 11,.r 14 3 9 11,.d 15 3 14,.s 3 (.alloc 3 [.i 0]),.s 4 (.alloc 316 [(.str []),.i 0,.i 0]),.w 1 3 13,.w 3 4 15] (.z [3,4] (.g [.s 16 (.mkfn (.func 370) [] [.t 4]),.s 17 (.build [.nilf,.i 0] [(0,1,(.t 16)),(1,1,(.i 8))]),.s 18 (.mkfn (.func 371) [] [.t 1,.t 3,.t 4]),.s 19 (.build [.nilf,.i 0] [(0,1,(.t 18)),(1,1,(.i 7))]),.s 20 (.mkfn (.func 374) [] [.t 4]),.s 21 (.build [.nilf,.i 0] [(0,1,(.t 20)),(1,1,(.i 2))]),.s 22 (.mkfn (.func 375) [] [.t 3,.t 4,.t 1]),.s 23 (.build [.nilf,.i 0] [(0,1,(.t 22)),(1,1,(.i 9))]),.s 24 (.bslice 279 2 [.t 17,.t 19,.t 21,.t 23]),.f 25 210 24,.m 5 25] (.g [.m 26 5,.v 27 .neq 26 0] (.i 27 (.g [.m 28 5,.m 2 28] (.ret [2])) .skip)))))) (.reg [.v 29 .add 11 1,.m 11 29]))))
theorem F358:compF Tryz.prog 358=some ⟨30,[.tmp 2],(.g [.q 1 130 0,.c 2 0] (.z [1] (.join [1] (.g [.l 6 1,.u 7 6,.v 8 .gtr 7 16] (.i 8 (.g [.c 2 5] (.ret [2])) .skip)) (.join [] (.g [.l 9 1,.u 10 9,.c 11 0] (.block 0 (.loop [1,9,10,11] [] B358_0))) (.g [.c 2 0] (.ret [2]))))))⟩:=by kernel_rfl
theorem F370:compF Tryz.prog 370=some ⟨6,[.tmp 1],(.g [.k 1 false] (.g [.a 2 0 0,.l 3 2,.f 4 212 3,.z 5 4,.m 1 5] (.ret [1])))⟩:=by kernel_rfl
theorem F371:compF Tryz.prog 371=some ⟨9,[.tmp 3],(.g [.k 3 false] (.g [.l 4 0,.l 5 1,.s 6 (.slice 3 (.t 4) none (some (.t 5)) none),.s 7 (.mkfn (.func 373) [] [.t 2]),.g' 8 372 6 7,.m 3 8] (.ret [3])))⟩:=by kernel_rfl
theorem F372:compF Tryz.prog 372=some ⟨9,[.tmp 4],(.g [.k 4 false] (.g [.m 5 0,.m 6 1,.g' 7 380 5 6,.v 8 .geq 7 0,.m 4 8] (.ret [4])))⟩:=by kernel_rfl
theorem F373:compF Tryz.prog 373=some ⟨9,[.tmp 3],(.g [.q 2 316 0,.k 3 false] (.z [2] (.g [.a 4 0 2,.l 5 4,.a 6 0 1,.l 7 6,.b 8 .eql 5 7,.m 3 8] (.ret [3]))))⟩:=by kernel_rfl
theorem F374:compF Tryz.prog 374=some ⟨19,[.tmp 1],(.g [.k 1 false] (.join [1] (.reg [.a 2 1 0,.l 3 2,.f 4 356 3,.z 5 4,.m 6 5,.ax 7 2 0 6,.lx 8 7 6,.x 9 (.f 356 [.t 8]) 6,.x 10 (.un .not (.t 9)) 6,.o 11 6 10,.m 12 11,.ax 13 1 0 12,.lx 14 13 12,.ax 15 2 0 12,.lx 16 15 12,.bx 17 .gtr 14 16 12,.o 18 12 17,.m 1 18]) (.ret [1])))⟩:=by kernel_rfl
theorem F375:compF Tryz.prog 375=some ⟨17,[.tmp 3],(.g [.k 3 false] (.join [3] (.dreg 14 [.l 4 0,.v 5 .gtr 4 0,.m 6 5,.ay 7 1 1 6,.ly 8 7 6,.ly 9 2 6,.ly 10 0 6,.vy 11 .sub 10 1 6,.ry 12 3 9 11 6,.ay 13 2 12 6,.ly 14 13 6,.by' 15 .leq 8 14 6,.e 16 6 15,.m 3 16]) (.ret [3])))⟩:=by kernel_rfl
def B380_0:Cd:=(.g [.b 9 .lss 8 7] (.join [0,1,7,8] (.i 9 .skip (.exit [] 0)) (.join [0,1,7,8] (.block 1 (.g [.m 10 8,.m 5 10] (.g [.m 11 1,.m 12 0,.m 13 5,.r 14 3 12 13,.d 15 3 14,.s 16 (.call (.t 11) [.t 15])] (.i 16 (.g [.m 17 5,.m 4 17] (.ret [4])) .skip)))) (.reg [.v 18 .add 8 1,.m 8 18]))))
theorem F380:compF Tryz.prog 380=some ⟨19,[.tmp 4],(.g [.c 4 0] (.join [] (.g [.m 6 0,.u 7 6,.c 8 0] (.block 0 (.loop [0,1,7,8] [] B380_0))) (.g [.c 4 (-1)] (.ret [4]))))⟩:=by kernel_rfl
end Go.Proofs.YtmjkgajnpmiomaaGreatDoor

namespace Go.Proofs.YtmjkgajnpmiomaaGreatDoor
open Go.Sha
set_option maxRecDepth 10000
def B202_0:Cd:=(.join [0,3] (.g [.m 5 3,.m 6 0,.s 7 (.lens (.t 6)),.b 8 .lss 5 7] (.i 8 .skip (.exit [0] 0))) (.join [0,3] (.block 1 (.join [0,3,4] (.reg [.m 11 0,.m 12 3,.s 13 (.ichr (.t 11) (.t 12)),.s 14 (.bin .geq (.t 13) (.c (.int .u8 97))),.m 15 14,.my 16 0 15,.my 17 3 15,.y 18 (.ichr (.t 16) (.t 17)) 15,.y 19 (.bin .leq (.t 18) (.c (.int .u8 122))) 15,.e 20 15 19,.m 4 20]) (.join [0,3,44] (.reg [.m 21 4,.z 22 21,.m 23 22,.my 24 3 23,.vy 25 .eql 24 0 23,.my 26 25 23,.mx 27 0 26,.mx 28 3 26,.x 29 (.ichr (.t 27) (.t 28)) 26,.x 30 (.bin .neq (.t 29) (.c (.int .u8 95))) 26,.mx 31 30 26,.my 32 0 31,.my 33 3 31,.y 34 (.ichr (.t 32) (.t 33)) 31,.y 35 (.bin .lss (.t 34) (.c (.int .u8 48))) 31,.my 36 35 31,.mx 37 0 36,.mx 38 3 36,.x 39 (.ichr (.t 37) (.t 38)) 36,.x 40 (.bin .gtr (.t 39) (.c (.int .u8 57))) 36,.y 41 (.pick (.t 36) (.c (.bool true)) (.t 40)) 31,.x 42 (.pick (.t 31) (.t 41) (.c (.bool false))) 26,.y 43 (.pick (.t 26) (.c (.bool true)) (.t 42)) 23,.e 44 23 43]) (.i 44 (.g [.k 2 false] (.ret [2])) .skip)))) (.reg [.m 9 3,.v 10 .add 9 1,.m 3 10])))
theorem F202:compF Tryz.prog 202=some ⟨53,[.tmp 2],(.g [.k 2 false] (.join [0] (.g [.c 3 0] (.block 0 (.loop [0,3] [] B202_0))) (.join [2] (.reg [.m 45 0,.s 46 (.lens (.t 45)),.v 47 .geq 46 1,.m 48 47,.my 49 0 48,.y 50 (.lens (.t 49)) 48,.vy 51 .leq 50 24 48,.e 52 48 51,.m 2 52]) (.ret [2]))))⟩:=by kernel_rfl
def B293_0:Cd:=(.g [.b 10 .lss 9 8] (.join [0,7,8,9] (.i 10 .skip (.exit [0] 0)) (.join [0,7,8,9] (.block 1 (.g [.m 11 9,.r 12 1 7 9,.l 13 12,.m 3 11,.m 4 13] (.join [0,3,4,5,7,8,9] (.reg [.m 14 4,.s 15 (.bin .geq (.t 14) (.c (.int .u8 97))),.m 16 15,.my 17 4 16,.y 18 (.bin .leq (.t 17) (.c (.int .u8 122))) 16,.e 19 16 18,.m 5 19]) (.join [0,7,8,9,37] (.reg [.m 20 5,.z 21 20,.m 22 21,.my 23 3 22,.vy 24 .eql 23 0 22,.my 25 24 22,.mx 26 4 25,.x 27 (.bin .neq (.t 26) (.c (.int .u8 95))) 25,.mx 28 27 25,.my 29 4 28,.y 30 (.bin .lss (.t 29) (.c (.int .u8 48))) 28,.my 31 30 28,.mx 32 4 31,.x 33 (.bin .gtr (.t 32) (.c (.int .u8 57))) 31,.y 34 (.pick (.t 31) (.c (.bool true)) (.t 33)) 28,.x 35 (.pick (.t 28) (.t 34) (.c (.bool false))) 25,.y 36 (.pick (.t 25) (.c (.bool true)) (.t 35)) 22,.e 37 22 36]) (.i 37 (.g [.k 2 false] (.ret [2])) .skip))))) (.reg [.v 38 .add 9 1,.m 9 38]))))
theorem F293:compF Tryz.prog 293=some ⟨46,[.tmp 2],(.g [.k 2 false] (.join [0] (.g [.m 6 0,.s 7 (.cvsb 5 (.t 6)),.u 8 7,.c 9 0] (.block 0 (.loop [0,7,8,9] [] B293_0))) (.join [2] (.reg [.m 39 0,.s 40 (.bin .neq (.t 39) (.w [])),.m 41 40,.my 42 0 41,.y 43 (.lens (.t 42)) 41,.vy 44 .leq 43 24 41,.e 45 41 44,.m 2 45]) (.ret [2]))))⟩:=by kernel_rfl
def B125_0:Cd:=(.join [1,2,6] (.g [.m 39 6,.a 40 3 2,.l 41 40,.u 42 41,.b 43 .lss 39 42] (.i 43 .skip (.exit [] 0))) (.join [1,2,6] (.block 1 (.g [.d 46 4 2,.m 47 6,.m 48 1,.u 49 48,.s 50 (.f 203 [.t 46,.t 47,.t 49]),.m 7 50] (.g [.m 51 7,.v 52 .neq 51 0] (.i 52 (.g [.m 53 7,.m 4 53] (.ret [4])) .skip)))) (.reg [.m 44 6,.v 45 .add 44 1,.m 6 45])))
theorem F125:compF Tryz.prog 125=some ⟨54,[.tmp 4],(.g [.q 2 94 0,.c 4 0] (.z [2] (.join [1,2] (.g [.m 8 1,.f 9 70 8,.m 5 9] (.g [.m 10 5,.v 11 .neq 10 0] (.i 11 (.g [.m 12 5,.m 4 12] (.ret [4])) .skip))) (.join [1,2] (.g [.a 13 0 2,.l 14 13,.f 15 202 14,.z 16 15] (.i 16 (.g [.c 4 8] (.ret [4])) .skip)) (.join [1,2] (.join [1,2,34] (.reg [.a 17 1 2,.l 18 17,.v 19 .lss 18 1,.m 20 19,.ax 21 1 2 20,.lx 22 21 20,.vx 23 .gtr 22 512 20,.o 24 20 23,.m 25 24,.ax 26 2 2 25,.lx 27 26 25,.vx 28 .lss 27 0 25,.o 29 25 28,.m 30 29,.ax 31 2 2 30,.lx 32 31 30,.vx 33 .gtr 32 1048576 30,.o 34 30 33]) (.i 34 (.g [.c 4 2] (.ret [4])) .skip)) (.join [1,2] (.g [.a 35 3 2,.l 36 35,.u 37 36,.v 38 .gtr 37 16] (.i 38 (.g [.c 4 5] (.ret [4])) .skip)) (.join [] (.g [.c 6 0] (.block 0 (.loop [1,2,6] [] B125_0))) (.g [.c 4 0] (.ret [4])))))))))⟩:=by kernel_rfl
theorem F203:compF Tryz.prog 203=some ⟨99,[.tmp 6],(.g [.q 3 94 0,.c 6 0] (.z [3] (.join [2,3,7,8] (.greg [] [] [[],[],[],[],[],[],[],[],[],[true,true,true,true,true,true,true,true,true],[false,true,true,true,true,false,false,false,false,false],[]] [.a 9 3 3,.l 10 9,.m 11 1,.r 12 10 10 11,.d 13 10 12,.a 14 3 3,.l 15 14,.m 16 1,.s 17 (.slice 10 (.t 15) none (some (.t 16)) none),.s 7 (.alloc 132 [.i 0,.i 0,.i 0,.i 0,.i 0,.i 0,.i 0,.i 0,(.bool false),.nils]),.w 10 7 13,.m 8 17]) (.z [7] (.join [2,3,7,8] (.join [2,3,7,8,25] (.reg [.a 18 0 7,.l 19 18,.v 20 .lss 19 0,.m 21 20,.ax 22 0 7 21,.lx 23 22 21,.vx 24 .geq 23 15 21,.o 25 21 24]) (.i 25 (.g [.c 6 1] (.ret [6])) .skip)) (.join [2,3,7,8] (.g [.m 26 8,.a 27 0 7,.l 28 27,.g' 29 275 26 28,.v 30 .geq 29 0] (.i 30 (.g [.c 6 7] (.ret [6])) .skip)) (.join [2,3,7,8] (.join [2,3,7,8,38] (.reg [.a 31 1 7,.l 32 31,.v 33 .neq 32 8,.m 34 33,.ay 35 1 7 34,.ly 36 35 34,.vy 37 .neq 36 16 34,.e 38 34 37]) (.i 38 (.g [.c 6 1] (.ret [6])) .skip)) (.join [2,7,8] (.join [2,7,8,65] (.reg [.a 39 2 7,.l 40 39,.v 41 .lss 40 0,.m 42 41,.ax 43 2 7 42,.lx 44 43 42,.ax 45 1 3 42,.lx 46 45 42,.bx 47 .geq 44 46 42,.o 48 42 47,.m 49 48,.ax 50 1 7 49,.lx 51 50 49,.vx 52 .eql 51 16 49,.mx 53 52 49,.ay 54 3 7 53,.ly 55 54 53,.vy 56 .lss 55 0 53,.my 57 56 53,.ax 58 3 7 57,.lx 59 58 57,.ax 60 1 3 57,.lx 61 60 57,.bx 62 .geq 59 61 57,.y 63 (.pick (.t 57) (.c (.bool true)) (.t 62)) 53,.x 64 (.pick (.t 53) (.t 63) (.c (.bool false))) 49,.o 65 49 64]) (.i 65 (.g [.c 6 2] (.ret [6])) .skip)) (.join [2,7,8] (.join [2,7,8,73] (.reg [.a 66 1 7,.l 67 66,.v 68 .eql 67 8,.m 69 68,.ay 70 3 7 69,.ly 71 70 69,.vy 72 .neq 71 0 69,.e 73 69 72]) (.i 73 (.g [.c 6 3] (.ret [6])) .skip)) (.join [2,7] (.join [2,7,95] (.reg [.m 74 8,.a 75 2 7,.l 76 75,.g' 77 276 74 76,.m 78 77,.ax 79 1 7 78,.lx 80 79 78,.vx 81 .eql 80 16 78,.mx 82 81 78,.my 83 8 82,.ay 84 3 7 82,.ly 85 84 82,.y 86 (.f 276 [.t 83,.t 85]) 82,.my 87 86 82,.ax 88 3 7 87,.lx 89 88 87,.ax 90 2 7 87,.lx 91 90 87,.bx 92 .eql 89 91 87,.y 93 (.pick (.t 87) (.c (.bool true)) (.t 92)) 82,.x 94 (.pick (.t 82) (.t 93) (.c (.bool false))) 78,.o 95 78 94]) (.i 95 (.g [.c 6 11] (.ret [6])) .skip)) (.g [.d 96 10 7,.m 97 2,.g' 98 277 96 97,.m 6 98] (.ret [6]))))))))))))⟩:=by kernel_rfl
def B275_0:Cd:=(.join [0,1,5] (.g [.m 6 5,.m 7 0,.u 8 7,.b 9 .lss 6 8] (.i 9 .skip (.exit [] 0))) (.join [0,1,5] (.block 1 (.g [.m 12 0,.m 13 5,.r 14 10 12 13,.a 15 0 14,.l 16 15,.m 17 1,.b 18 .eql 16 17] (.i 18 (.g [.m 19 5,.m 4 19] (.ret [4])) .skip))) (.reg [.m 10 5,.v 11 .add 10 1,.m 5 11])))
theorem F275:compF Tryz.prog 275=some ⟨20,[.tmp 4],(.g [.c 4 0] (.join [] (.g [.c 5 0] (.block 0 (.loop [0,1,5] [] B275_0))) (.g [.c 4 (-1)] (.ret [4]))))⟩:=by kernel_rfl
def B276_0:Cd:=(.join [0,1,5] (.g [.m 6 5,.m 7 0,.u 8 7,.b 9 .lss 6 8] (.i 9 .skip (.exit [] 0))) (.join [0,1,5] (.block 1 (.join [0,1,5,35] (.reg [.m 12 0,.m 13 5,.r 14 10 12 13,.a 15 2 14,.l 16 15,.m 17 1,.b 18 .eql 16 17,.m 19 18,.mx 20 0 19,.mx 21 5 19,.x 22 (.iadr 10 (.t 20) (.t 21)) 19,.ax 23 1 22 19,.lx 24 23 19,.vx 25 .eql 24 16 19,.mx 26 25 19,.my 27 0 26,.my 28 5 26,.ry 29 10 27 28 26,.ay 30 3 29 26,.ly 31 30 26,.my 32 1 26,.by' 33 .eql 31 32 26,.x 34 (.pick (.t 26) (.t 33) (.c (.bool false))) 19,.o 35 19 34]) (.i 35 (.g [.k 4 true] (.ret [4])) .skip))) (.reg [.m 10 5,.v 11 .add 10 1,.m 5 11])))
theorem F276:compF Tryz.prog 276=some ⟨36,[.tmp 4],(.g [.k 4 false] (.join [] (.g [.c 5 0] (.block 0 (.loop [0,1,5] [] B276_0))) (.g [.k 4 false] (.ret [4]))))⟩:=by kernel_rfl
theorem F277:compF Tryz.prog 277=some ⟨16,[.tmp 4],(.g [.q 2 132 0,.c 4 0] (.z [2] (.join [2] (.join [2,13] (.reg [.a 5 4 2,.l 6 5,.v 7 .lss 6 0,.m 8 7,.ax 9 4 2 8,.lx 10 9 8,.mx 11 1 8,.bx 12 .gtr 10 11 8,.o 13 8 12]) (.i 13 (.g [.c 4 6] (.ret [4])) .skip)) (.g [.d 14 10 2,.f 15 315 14,.m 4 15] (.ret [4])))))⟩:=by kernel_rfl
theorem F315:compF Tryz.prog 315=some ⟨30,[.tmp 2],(.g [.q 1 132 0,.c 2 0] (.z [1] (.join [1] (.join [1,26] (.dreg 24 [.a 3 5 1,.l 4 3,.f 5 201 4,.z 6 5,.m 7 6,.ax 8 6 1 7,.lx 9 8 7,.vx 10 .lss 9 0 7,.o 11 7 10,.m 12 11,.ax 13 6 1 12,.lx 14 13 12,.ax 15 7 1 12,.lx 16 15 12,.bx 17 .gtr 14 16 12,.o 18 12 17,.m 19 18,.ax 20 7 1 19,.lx 21 20 19,.ax 22 1 1 19,.lx 23 22 19,.x 24 (.f 349 [.t 23]) 19,.bx 25 .gtr 21 24 19,.o 26 19 25]) (.i 26 (.g [.c 2 2] (.ret [2])) .skip)) (.g [.a 27 9 1,.l 28 27,.f 29 350 28,.m 2 29] (.ret [2])))))⟩:=by kernel_rfl
theorem F349:compF Tryz.prog 349=some ⟨5,[.tmp 2],(.g [.c 2 0] (.join [] (.g [.m 3 0,.v 4 .eql 3 8] (.i 4 (.g [.c 2 255] (.ret [2])) .skip)) (.g [.c 2 65535] (.ret [2]))))⟩:=by kernel_rfl
def B350_0:Cd:=(.join [0,3,4] (.g [.m 21 4,.m 22 3,.b 23 .lss 21 22] (.i 23 .skip (.exit [0,3] 2))) (.join [0,3,4] (.block 3 (.q (.dreg 11 [.m 26 0,.m 27 4,.r 28 3 26 27,.a 29 0 28,.l 30 29,.m 31 0,.m 32 3,.r 33 3 31 32,.a 34 0 33,.l 35 34,.b 36 .eql 30 35]) (.i 36 (.g [.c 2 7] (.ret [2])) .skip))) (.reg [.m 24 4,.v 25 .add 24 1,.m 4 25])))
def B350_1:Cd:=(.join [0,3] (.g [.m 8 3,.m 9 0,.u 10 9,.b 11 .lss 8 10] (.i 11 .skip (.exit [] 0))) (.join [0,3] (.block 1 (.join [0,3] (.g [.m 14 0,.m 15 3,.r 16 3 14 15,.a 17 0 16,.l 18 17,.f 19 202 18,.z 20 19] (.i 20 (.g [.c 2 8] (.ret [2])) .skip)) (.join [0,3] (.g [.c 4 0] (.block 2 (.loop [0,3,4] [] B350_0))) (.join [0,3] (.join [0,3,65] (.dreg 29 [.m 37 0,.m 38 3,.r 39 3 37 38,.a 40 1 39,.l 41 40,.f 42 201 41,.z 43 42,.m 44 43,.mx 45 0 44,.mx 46 3 44,.x 47 (.iadr 3 (.t 45) (.t 46)) 44,.ax 48 2 47 44,.lx 49 48 44,.x 50 (.f 201 [.t 49]) 44,.x 51 (.un .not (.t 50)) 44,.o 52 44 51,.m 53 52,.mx 54 0 53,.mx 55 3 53,.x 56 (.iadr 3 (.t 54) (.t 55)) 53,.ax 57 1 56 53,.lx 58 57 53,.mx 59 0 53,.mx 60 3 53,.x 61 (.iadr 3 (.t 59) (.t 60)) 53,.ax 62 2 61 53,.lx 63 62 53,.bx 64 .gtr 58 63 53,.o 65 53 64]) (.i 65 (.g [.c 2 2] (.ret [2])) .skip)) (.join [0,3,81] (.dreg 16 [.m 66 3,.v 67 .gtr 66 0,.m 68 67,.my 69 0 68,.my 70 3 68,.ry 71 3 69 70 68,.ay 72 1 71 68,.ly 73 72 68,.my 74 0 68,.my 75 3 68,.vy 76 .sub 75 1 68,.ry 77 3 74 76 68,.ay 78 2 77 68,.ly 79 78 68,.by' 80 .leq 73 79 68,.e 81 68 80]) (.i 81 (.g [.c 2 9] (.ret [2])) .skip)))))) (.reg [.m 12 3,.v 13 .add 12 1,.m 3 13])))
theorem F350:compF Tryz.prog 350=some ⟨82,[.tmp 2],(.g [.c 2 0] (.join [0] (.g [.m 5 0,.u 6 5,.v 7 .gtr 6 16] (.i 7 (.g [.c 2 5] (.ret [2])) .skip)) (.join [] (.g [.c 3 0] (.block 0 (.loop [0,3] [] B350_1))) (.g [.c 2 0] (.ret [2])))))⟩:=by kernel_rfl
def B71_0:Cd:=(.join [0,1,5,7] (.g [.m 26 7,.m 27 5,.b 28 .lss 26 27] (.i 28 .skip (.exit [0,1,5] 2))) (.join [0,1,5,7] (.block 3 (.q (.dreg 11 [.m 31 0,.m 32 7,.r 33 4 31 32,.a 34 0 33,.l 35 34,.m 36 0,.m 37 5,.r 38 4 36 37,.a 39 0 38,.l 40 39,.b 41 .eql 35 40]) (.i 41 (.g [.c 4 7] (.ret [4])) .skip))) (.reg [.m 29 7,.v 30 .add 29 1,.m 7 30])))
def B71_1:Cd:=(.join [0,1,5] (.g [.m 11 5,.m 12 0,.u 13 12,.b 14 .lss 11 13] (.i 14 .skip (.exit [] 0))) (.join [0,1,5] (.block 1 (.join [0,1,5] (.g [.m 17 0,.m 18 5,.r 19 4 17 18,.d 20 4 19,.m 21 1,.g' 22 125 20 21,.m 6 22] (.g [.m 23 6,.v 24 .neq 23 0] (.i 24 (.g [.m 25 6,.m 4 25] (.ret [4])) .skip))) (.g [.c 7 0] (.block 2 (.loop [0,1,5,7] [] B71_0))))) (.reg [.m 15 5,.v 16 .add 15 1,.m 5 16])))
theorem F71:compF Tryz.prog 71=some ⟨42,[.tmp 4],(.g [.c 4 0] (.join [0,1] (.g [.m 8 0,.u 9 8,.v 10 .gtr 9 32] (.i 10 (.g [.c 4 5] (.ret [4])) .skip)) (.join [] (.g [.c 5 0] (.block 0 (.loop [0,1,5] [] B71_1))) (.g [.c 4 0] (.ret [4])))))⟩:=by kernel_rfl
end Go.Proofs.YtmjkgajnpmiomaaGreatDoor

namespace Go.Proofs.YtmjkgajnpmiomaaGreatDoor
open Go.Sha
set_option maxRecDepth 100000
variable {g:List (Nat×Obj)}{n:Nat}
def isL (b:UInt8):Bool:=decide (97≤(b.toNat:Int))&&decide ((b.toNat:Int)≤122)
def nmC (b:UInt8):Bool:=isL b||decide ((b.toNat:Int)=95)||(decide (48≤(b.toNat:Int))&&decide ((b.toNat:Int)≤57))
def nameS (s:List UInt8):Bool:=decide (¬s=[])&&decide ((s.length:Int)≤24)&&isL (s.getD 0 0)&&s.all nmC
theorem nmW_c (b:UInt8):nmW.contains b=nmC b:=by
 have h:∀k,k<256→nmW.contains (UInt8.ofNat k)=nmC (UInt8.ofNat k):=by decide
 have:=h b.toNat b.toNat_lt
 rwa [UInt8.ofNat_toNat]at this
theorem dropW_nil {p:UInt8→Bool}:∀{s:List UInt8},(s.dropWhile p=[])=(s.all p=true)
 |[]=>by simp
 |b::r=>by by_cases h:p b=true<;>simp[List.dropWhile_cons,h,dropW_nil (s:=r)]
theorem trim_nm {s:List UInt8}:(trimB nmW s=[])=(s.all nmC=true):=by
 have e:nmW.contains=nmC:=funext nmW_c
 unfold trimB
 rw[e,List.reverse_eq_nil_iff,dropW_nil,List.all_reverse]
 have:∀{s:List UInt8},(s.dropWhile nmC).all nmC=s.all nmC:=fun {s}=>by
  induction s with
  |nil=>rfl
  |cons b r ih=>by_cases h:nmC b=true<;>simp[List.dropWhile_cons,h,ih]
 rw[this]
theorem h214 {s:List UInt8}(h:s.length≤24){st:St}:run Tryz.prog HH 278 [.str s,.str nmW] st=some (.ret (.str (trimB nmW s)),st):=run_H (by
 show(hTrim [.str s,.str nmW]).map _=_
 rw[hTrim,if_pos ⟨rfl,h⟩];rfl)
theorem nameS_head {s:List UInt8}(h:¬s=[])(h2:24<(s.length:Int)∨((s.getD 0 0).toNat:Int)<97∨122<((s.getD 0 0).toNat:Int)):nameS s=false:=by
 simp only[nameS,isL,Bool.and_eq_false_iff,decide_eq_false_iff_not]
 omega
theorem f212 {s:List UInt8}{st:St}:run Tryz.prog HH 212 [.str s] st=some (.ret (.bool (nameS s)),st):=by
 rw[run_shut F212 rfl rfl (by simp)]
 by_cases hl:24<s.length
 ·have h1:(24:Int)<s.length:=by omega
  have h2:¬s=[]:=fun e=>by rw[e]at hl;simp at hl
  have h3:nameS s=false:=nameS_head h2 (.inl h1)
  push_cast[h1,h2,h3]
 have h214:=fun(st:St)=>h214 (s:=s) (st:=st) (by omega)
 push_cast[h214]
 refine dn_eq (fun h _=>?_) ?_
 ·have:0<s.length:=List.length_pos_iff.2 h
  omega
 ·congr 4
  by_cases h:s=[]
  ·simp[h,nameS]
  ·by_cases h2:24<(s.length:Int)∨((s.getD 0 0).toNat:Int)<97∨122<((s.getD 0 0).toNat:Int)
   ·rw[nameS_head h h2];simp only[h2,or_true,decide_true,Bool.not_true,Bool.false_and]
   ·have h3:(s.length:Int)≤24∧97≤((s.getD 0 0).toNat:Int)∧((s.getD 0 0).toNat:Int)≤122:=by omega
    rw[Bool.eq_iff_iff]
    simp[nameS,isL,h,h2,h3,trim_nm]
def nmL:List UInt8→Nat→Bool
 |[],_=>true
 |q::r,j=>if isL q=true∨¬j=0∧nmC q=true then nmL r (j+1) else false
theorem nmL_eq:∀{s:List UInt8}{j:Nat},0<j→nmL s j=s.all nmC
 |[],_,_=>rfl
 |q::r,j,h=>by
  have:isL q=true→nmC q=true:=fun h=>by simp[nmC,h]
  by_cases h2:nmC q=true
  ·simp[nmL,h2,show ¬j=0 by omega,nmL_eq (s:=r) (j:=j+1) (by omega)]
  ·have h3:¬isL q=true:=fun e=>h2 (this e)
   simp[nmL,h2,h3]
theorem nmL_name {s:List UInt8}:(nmL s 0&&decide (1≤(s.length:Int))&&decide ((s.length:Int)≤24))=nameS s:=by
 cases s with
 |nil=>simp[nameS]
 |cons q r =>
  have:isL q=true→nmC q=true:=fun h=>by simp[nmC,h]
  by_cases h:isL q=true
  ·simp[nmL,nameS,h,this h,nmL_eq (s:=r) (j:=1) (by omega),Bool.and_comm,show(1:Int)≤r.length+1 by omega]
  ·simp[nmL,nameS,h]
theorem nmC_i {q:UInt8}{j:Nat}:((decide (97≤(q.toNat:Int))&&decide ((q.toNat:Int)≤122))=false∧((j:Int)=0∨¬(q.toNat:Int)=95∧((q.toNat:Int)<48∨57<(q.toNat:Int))))=¬(isL q=true∨¬j=0∧nmC q=true):=by
 simp only[isL,nmC,Bool.and_eq_true,Bool.and_eq_false_iff,Bool.or_eq_true,decide_eq_true_eq,decide_eq_false_iff_not,eq_iff_iff]
 omega
theorem L202 {s:List UInt8}(hl:s.length<140737488355328):∀r j,s.drop j=r→runL Tryz.prog HH [0,3] n B202_0 [(0,.str s),(3,.int .i64 j)] (stN g n)=if nmL r j=true then some (.exit 0,[(0,.str s)],stN g n) else some (.ret,[(2,.bool false)],stN g n):=by
 refine drop_ind (fun j h=>?_) (fun q r j h hx hd ih=>?_)
 all_goals rw[runL_of B202_0.eq_1]
 ·have h1:¬(j:Int)<s.length:=by omega
  push_cast[h1,nmL]
 ·have h1:(j:Int)<s.length:=by omega
  have hw:=iw1 (j:=j) (by omega)
  push_cast[h1,hw,hx,nmL]at ih ⊢
  simp only[nmC_i,ih]
  by_cases h3:isL q=true∨¬j=0∧nmC q=true<;>simp[h3]
theorem f202 {s:List UInt8}(hl:s.length<140737488355328){st:St}:run Tryz.prog HH 202 [.str s] st=some (.ret (.bool (nameS s)),st):=by
 rw[run_shut F202 rfl rfl (by simp)]
 have hL0:=fun n=>L202 (g:=st.x.gl) (n:=n) hl _ 0 rfl
 push_cast at hL0
 push_cast[hL0]
 rw[←nmL_name]
 by_cases h:nmL s 0=true<;>simp[h]
theorem L293 {s:List UInt8}(hl:s.length<140737488355328):∀r j,s.drop j=r→runL Tryz.prog HH [0,7,8,9] 1 B293_0 [(0,.str s),(7,.osl 0 s.length),(8,.int .i64 s.length),(9,.int .i64 j)] (stO g 5 1 (s.map bV))=if nmL r j=true then some (.exit 0,[(0,.str s)],stO g 5 1 (s.map bV)) else some (.ret,[(2,.bool false)],stO g 5 1 (s.map bV)):=by
 refine drop_ind (fun j h=>?_) (fun q r j h hx hd ih=>?_)
 all_goals rw[runL_of B293_0.eq_1]
 ·have h1:¬(j:Int)<s.length:=by omega
  push_cast[h1,nmL]
 ·have h1:(j:Int)<s.length:=by omega
  have hw:=iw1 (j:=j) (by omega)
  have hk:∀d,(s.map bV).getD j d=bV q:=getD_drop hd
  push_cast[h1,hw,hx,nmL,bV,hk]at ih ⊢
  refine dn_eq (by omega) ?_
  simp only[nmC_i,ih]
  by_cases h3:isL q=true∨¬j=0∧nmC q=true<;>simp[h3]
theorem f293 {s:List UInt8}(hl:s.length<140737488355328){st:St}:run Tryz.prog HH 293 [.str s] st=some (.ret (.bool (nameS s)),st):=by
 rw[run_shut F293 rfl rfl (by simp)]
 have hL0:=L293 (g:=st.x.gl) hl _ 0 rfl
 push_cast at hL0
 push_cast[hL0]
 refine dn_eq (by simp[maxLen];omega) ?_
 rw[←nmL_name]
 by_cases h:nmL s 0=true<;>cases s<;>simp[h]<;>omega
theorem f356 {v:Int}{st:St}:run Tryz.prog HH 356 [.int .i64 v] st=some (.ret (.bool (decide (lvl v))),st):=by
 rw[run_shut F356 rfl rfl (by simp)]
 push_cast
 all_goals ((repeat' split)<;>simp_all)
theorem f370 {q:Slt}{st:St}:run Tryz.prog HH 370 [.ep q.v 0] st=some (.ret (.bool (!nameS q.name)),st):=by
 rw[run_shut F370 rfl rfl (by simp)]
 push_cast[Slt.v,f212]
theorem f373 {p q:Slt}{st:St}:run Tryz.prog HH 373 [p.v,.ep q.v 0] st=some (.ret (.bool (p.name == q.name)),st):=by
 rw[run_shut F373 rfl rfl (by simp)]
 push_cast[Slt.v]
theorem f380 {q:Slt}{l:List Slt}(hl:l.length<140737488355328){st:St}:run Tryz.prog HH 380 [.sl (l.map Slt.v),.fn (.func 373) [] [.ep q.v 0]] st=some (.ret (.int .i64 (ix (fun p=>p.name == q.name) l 0)),st) :=
 IxF (f:=Slt.v) (n:=some 3) (fun _=>rfl) (fun _=>rfl) F380 rfl (by simp) hl (fun q _ _=>f373) (fun _ _=>rfl) (fun _=>rfl)
theorem f371 {q:Slt}{l:List Slt}{j:Nat}(hl:l.length<140737488355328)(hj:j<l.length){st:St}:run Tryz.prog HH 371 [.ep (.agg [.sl (l.map Slt.v)]) 0,.ep (.agg [.int .i64 j]) 0,.ep q.v 0] st=some (.ret (.bool ((l.take j).any (fun p=>p.name == q.name))),st):=by
 have h304:=fun(st:St)=>f380 (q:=q) (l:=l.take j) (st:=st) (by simp;omega)
 push_cast[Slt.v]at h304
 rw[run_shut F371 rfl rfl (by simp)]
 push_cast[Slt.v,h304,ix_ge,(fun(a0 a1:V) (st:St) (h:V.bdL 0 [a0,a1]=true)=>run_shut (P:=Tryz.prog) (H:=HH) (args:=[a0,a1]) (st:=st) F372 rfl rfl h)]
 all_goals exact dn_eq (by omega) (by with_reducible rfl)
theorem f374 {q:Slt}{st:St}:run Tryz.prog HH 374 [.ep q.v 0] st=some (.ret (.bool (decide (¬lvl q.fr∨¬lvl q.to_∨q.to_<q.fr))),st):=by
 rw[run_shut F374 rfl rfl (by simp)]
 push_cast[Slt.v,f356]
 all_goals ((repeat' split)<;>simp_all)
theorem f375 {q:Slt}{l:List Slt}{j:Nat}(hl:l.length<140737488355328)(hj:j<l.length){st:St}:run Tryz.prog HH 375 [.ep (.agg [.int .i64 j]) 0,.ep q.v 0,.ep (.agg [.sl (l.map Slt.v)]) 0] st=some (.ret (.bool (decide (0<(j:Int)∧q.fr≤(l.getD (j-1) default).to_))),st):=by
 rw[run_shut F375 rfl rfl (by simp)]
 push_cast[Slt.v,iwrap_pred (j:=j) (by omega)]
 all_goals ((repeat' split)<;>(try simp_all)<;>(try (with_reducible refine dn_eq ?_ ?_<;>first|trivial|omega|rfl))<;>(try omega))
def whL (l:List Slt):List Slt→Nat→Int
 |[],_=>0
 |q::r,j=>if nameS q.name=false then 8 else if(l.take j).any (fun p=>p.name == q.name)=true then 7 else if ¬lvl q.fr∨¬lvl q.to_∨q.to_<q.fr then 2 else if 0<j∧q.fr≤(l.getD (j-1) default).to_ then 9 else whL l r (j+1)
theorem L358 {l:List Slt}(hl:l.length<140737488355328):∀r j,l.drop j=r→runL Tryz.prog HH [1,9,10,11] n B358_0 [(1,.ep (.agg [.sl (l.map Slt.v)]) 0),(9,.sl (l.map Slt.v)),(10,.int .i64 l.length),(11,.int .i64 j)] (stN g n)=lpE (stN g n) [] 2 (whL l r j):=by
 refine drop_ind (fun j h=>?_) (fun q r j h hx hd ih=>?_)
 all_goals rw[runL_of B358_0.eq_1]
 ·have h1:¬(j:Int)<l.length:=by omega
  push_cast[h1,whL,Slt.v]
 ·have h1:(j:Int)<l.length:=by omega
  have hw:=iw1 (j:=j) (by omega)
  push_cast[h1,hw,hx,Slt.v,f370,f371 hl h,f374,f375 hl h,(fun(a0:V) (st:St) (h:V.bdL 0 [a0]=true)=>run_shut (P:=Tryz.prog) (H:=HH) (args:=[a0]) (st:=st) F210 rfl rfl h),runL_of B210_0.eq_1]at ih ⊢
  simp only[ih,whL,lps,Int.reduceEq,not_false_eq_true]
  all_goals ((repeat' split)<;>(try simp_all)<;>(try omega))
def whC (l:List Slt):Int:=if 16<(l.length:Int) then 5 else whL l l 0
theorem f358 {l:List Slt}(hl:l.length<140737488355328){st:St}:run Tryz.prog HH 358 [.sl (l.map Slt.v)] st=some (.ret (.int .i64 (whC l)),st):=by
 rw[run_shut F358 rfl rfl (by simp)]
 have hL0:=fun n=>L358 (g:=st.x.gl) (n:=n) hl _ 0 rfl
 push_cast[whC]at hL0
 push_cast[whC,hL0,lpE,lpX,lpI,lpB]
def offs (q:Ftr):List Int:=if q.bits=16 then[q.coarse,q.fine] else[q.coarse]
theorem f279 {q:Ftr}{st:St}:run Tryz.prog HH 279 [.ep q.v 0] st=some (.ret (.bool (decide (q.attr<0∨15≤q.attr))),st):=by
 rw[run_shut F279 rfl rfl (by simp)]
 push_cast[Ftr.v]
 all_goals ((repeat' split)<;>simp_all)
theorem f282 {q:Ftr}{st:St}:run Tryz.prog HH 282 [q.v] st=some (.ret (.int .i64 (if ¬q.bits=8∧¬q.bits=16 then 1 else 0)),st):=by
 rw[run_shut F282 rfl rfl (by simp)]
 push_cast[Ftr.v]
theorem f281 {q:Ftr}{st:St}:run Tryz.prog HH 281 [.ep q.v 0] st=some (.ret (.bool (decide (¬q.bits=8∧¬q.bits=16))),st):=by
 have h:=fun(st:St)=>f282 (q:=q) (st:=st)
 push_cast[Ftr.v]at h
 rw[run_shut F281 rfl rfl (by simp)]
 push_cast[Ftr.v,h]
 all_goals ((repeat' split)<;>simp_all)
theorem f285 {q:Ftr}{st:St}:run Tryz.prog HH 285 [q.v] st=some (.ret (.sl ((offs q).map (.int .i64))),st):=by
 rw[run_shut F285 rfl rfl (by simp)]
 push_cast[Ftr.v,offs]
 by_cases h:q.bits=16<;>simp[h]
theorem f286 {v:Int}{p:Prof}{st:St}:run Tryz.prog HH 286 [.int .i64 v,.ep p.v 0] st=some (.ret (.bool (decide (v<0∨p.foot≤v))),st):=by
 rw[run_shut F286 rfl rfl (by simp)]
 push_cast[Prof.v]
 all_goals ((repeat' split)<;>simp_all)
theorem f323 {h:FuncId}{caps:List V}{p:Int→Bool}{l:List Int}{st:St}(hl:l.length<140737488355328)(hb:V.bdL 0 caps=true)(hp:∀x,∀st,run Tryz.prog HH h (.int .i64 x::caps) st=some (.ret (.bool (p x)),st))(hc:∀st,caps.map (fun v=>(snapA st v).getD v)=caps)(hk0:(decide (103=h)||(decide (113=h)||(decide (173=h)||(decide (179=h)||(decide (183=h)||(decide (265=h)||decide (270=h)))))))=false:=by rfl) :
  run Tryz.prog HH 323 [.sl (l.map (.int .i64)),.fn (.func h) [] caps] st=some (.ret (.int .i64 (ix p l 0)),st) :=
 IxF (f:=V.int .i64) (n:=none) (fun _=>rfl) (fun _=>rfl) F323 rfl (by simp[V.bdL,V.bd,bdL_map',hb]) hl (fun x _=>hp x) (fun _ _=>rfl) hc hk0
theorem offs_len {q:Ftr}:(offs q).length<140737488355328:=by unfold offs;split<;>simp
theorem f283 {q:Ftr}{p:Prof}{st:St}:run Tryz.prog HH 283 [.ep q.v 0,.ep p.v 0] st=some (.ret (.bool ((offs q).any fun v=>decide (v<0∨p.foot≤v))),st):=by
 have h1:=fun(st:St)=>f285 (q:=q) (st:=st)
 have h2:=fun(st:St)=>f323 (h:=286) (caps:=[.ep p.v 0]) (p:=fun v=>decide (v<0∨p.foot≤v)) (l:=offs q) (st:=st) offs_len (by simp) (fun x st=>f286) (fun _=>rfl)
 push_cast[Ftr.v,Prof.v]at h1 h2
 rw[run_shut F283 rfl rfl (by simp)]
 push_cast[Ftr.v,Prof.v,h1,h2,ix_ge,(fun(a0 a1:V) (st:St) (h:V.bdL 0 [a0,a1]=true)=>run_shut (P:=Tryz.prog) (H:=HH) (args:=[a0,a1]) (st:=st) F284 rfl rfl h)]
theorem f287 {q:Ftr}{st:St}:run Tryz.prog HH 287 [.ep q.v 0] st=some (.ret (.bool (decide (q.bits=8)&&q.fine != 0)),st):=by
 rw[run_shut F287 rfl rfl (by simp)]
 push_cast[Ftr.v]
theorem f290 {q:Ftr}{st:St}:run Tryz.prog HH 290 [.ep q.v 0] st=some (.ret (.bool (decide (q.bits=16)&&q.fine == q.coarse)),st):=by
 rw[run_shut F290 rfl rfl (by simp)]
 push_cast[Ftr.v]
theorem f355 {q:Ftr}{st:St}:run Tryz.prog HH 355 [.ep q.v 0] st=some (.ret (.bool (!decide (0≤q.home)||!decide (q.home≤65535))),st):=by
 rw[run_shut F355 rfl rfl (by simp)]
 push_cast[Ftr.v,f356]
 all_goals ((repeat' split)<;>simp_all)
def topV (b:Int):Int:=IntKind.i64.wrap (IntKind.i64.wrap (1*2 ^ (min b.toNat IntKind.i64.bits))-1)
abbrev bitD (q:Ftr):Prop:=¬q.low<0→¬q.high<q.low→¬q.bits<0
theorem dn_cg {β:Type}{c c':Prop}{r r':Option β}(h:c↔c')(e:r=r'):dn c r=dn c' r':=by rw[e,propext h]
theorem f357 {q:Ftr}{st:St}:run Tryz.prog HH 357 [.ep q.v 0] st=dn (bitD q) (some (.ret (.bool (decide (q.low<0)||(decide (q.high<q.low)||decide (topV q.bits<q.high)))),st)):=by
 rw[run_shut F357 rfl rfl (by simp)]
 push_cast[Ftr.v,topV]
 rfl
def insC (q:Ftr):Int:=if ¬lvl q.home then 2 else if q.low<0∨q.high<q.low∨topV q.bits<q.high then 2 else whC q.wheel
theorem lvl_n {v:Int}:(¬0≤v∨65535<v)=¬lvl v:=propext (by unfold lvl;omega)
theorem f324 {q:Ftr}(hl:q.wheel.length<140737488355328){st:St}:run Tryz.prog HH 324 [q.v] st=dn (lvl q.home→bitD q) (some (.ret (.int .i64 (insC q)),st)):=by
 rw[run_shut F324 rfl rfl (by simp)]
 push_cast[Ftr.v,f355,f357,f358 hl,(fun(a0:V) (st:St) (h:V.bdL 0 [a0]=true)=>run_shut (P:=Tryz.prog) (H:=HH) (args:=[a0]) (st:=st) F210 rfl rfl h),runL_of B210_0.eq_1,insC,lvl_n]
 refine dn_cg (by simp) ?_
 by_cases h:lvl q.home<;>by_cases h2:q.low<0∨q.high<q.low∨topV q.bits<q.high<;>simp[h,h2]
def innC (n:Int)(q:Ftr):Int:=if q.curve<0∨n<q.curve then 6 else insC q
theorem f291 {q:Ftr}{n:Int}(hl:q.wheel.length<140737488355328){st:St}:run Tryz.prog HH 291 [q.v,.int .i64 n] st=dn (¬(q.curve<0∨n<q.curve)→lvl q.home→bitD q) (some (.ret (.int .i64 (innC n q)),st)):=by
 have h:=fun(st:St)=>f324 (st:=st) hl
 push_cast[Ftr.v]at h
 rw[run_shut F291 rfl rfl (by simp)]
 push_cast[Ftr.v,h,innC]
def setE (l:List Int):List (V×V):=l.map fun x=>(.int .i64 x,.bool true)
def insI (l:List Int)(a:Int):List Int:=if l.contains a=true then l else l++[a]
theorem find_setE {a:Int}:∀{l:List Int}{i:Nat},findV (.int .i64 a) (setE l) i=some (if l.contains a=true then some (i+l.idxOf a,.bool true) else none)
 |[],i=>rfl
 |x::r,i=>by
  simp only[setE,List.map_cons,findV,sameV,if_true]
  by_cases h:a=x
  ·subst h;simp
  ·have h':¬x=a:=fun e=>h e.symm
   have ih:=find_setE (a:=a) (l:=r) (i:=i+1)
   simp only[setE]at ih
   rw[show(a == x)=false by simp[h]]
   simp only[ih,List.contains_cons,show(a == x)=false by simp[h],Bool.false_or,List.idxOf_cons,show(x == a)=false by simp[h'],cond_false]
   simp[Nat.add_assoc,Nat.add_comm 1]
@[push_cast]theorem look_setE {st:St}{a:Int}{l:List Int}:lookB st (.bool false) false (findV (.int .i64 a) (setE l) 0)=some (.bool (l.contains a),st):=by
 rw[find_setE];cases h:l.contains a<;>simp[lookB]
theorem set_same {α:Type}[BEq α][LawfulBEq α]{f:α→V×V}{a:α}:∀{l:List α},l.contains a=true→(l.map f).set (l.idxOf a) (f a)=l.map f
 |[],h=>by simp at h
 |x::r,h=>by
  by_cases e:x=a
  ·subst e;simp
  ·have e':(x == a)=false:=by simp[e]
   have h2:r.contains a=true:=by
    simp only[List.contains_cons,Bool.or_eq_true,beq_iff_eq]at h
    exact h.resolve_left fun x=>e x.symm
   simp[List.idxOf_cons,e',set_same (f:=f) h2]
@[push_cast]theorem mset_setE {st:St}{i:Nat}{a:Int}{l:List Int}:msetB st i (setE l) (.int .i64 a) (.bool true) (findV (.int .i64 a) (setE l) 0)=some (.und,⟨st.nx,st.mem,st.arr,⟨updO st.x.obj i (.map (setE (insI l a))),st.x.gl,st.x.ty⟩⟩):=by
 rw[find_setE]
 simp only[msetB,Nat.zero_add]
 congr 6
 unfold insI
 by_cases h:l.contains a=true
 ·rw[if_pos h,if_pos h]
  simp only[putM,setE]
  rw[set_same (f:=fun x:Int=>(V.int .i64 x,V.bool true)) h]
 ·rw[if_neg h,if_neg h]
  simp[putM,setE]
@[push_cast]theorem setE_all {l:List Int}{p:V×V→Bool}:(setE l).all p=l.all fun x=>p (.int .i64 x,.bool true):=by simp[setE];rfl
abbrev stM (g:List (Nat×Obj))(n:Nat)(m:List (Nat×List V))(a:List (Nat×Arr))(ts us:List Int):St:=⟨n,m,a,⟨[(2,.map (setE ts)),(1,.map (setE us))],g,[]⟩⟩
@[push_cast]theorem stM_eq {n:Nat}{m:List (Nat×List V)}{a:List (Nat×Arr)}{ts us:List Int}:stM g n m a ts us=⟨n,m,a,⟨[(2,.map (setE ts)),(1,.map (setE us))],g,[]⟩⟩:=idq rfl
theorem f280 {q:Ftr}{n:Nat}{m:List (Nat×List V)}{a:List (Nat×Arr)}{ts us:List Int}:run Tryz.prog HH 280 [.ep (.agg [.mp 2]) 0,.ep q.v 0] (stM g n m a ts us)=some (.ret (.bool (ts.contains q.attr)),stM g n m a ts us):=by
 rw[run_open F280 rfl rfl rfl]
 push_cast[Ftr.v]
theorem f289 {v:Int}{n:Nat}{m:List (Nat×List V)}{a:List (Nat×Arr)}{ts us:List Int}:run Tryz.prog HH 289 [.int .i64 v,.ep (.agg [.mp 1]) 0] (stM g n m a ts us)=some (.ret (.bool (us.contains v)),stM g n m a ts us):=by
 rw[run_open F289 rfl rfl rfl]
 push_cast
theorem f288 {q:Ftr}{n:Nat}{m:List (Nat×List V)}{a:List (Nat×Arr)}{ts us:List Int}:run Tryz.prog HH 288 [.ep q.v 0,.ep (.agg [.mp 1]) 0] (stM g n m a ts us)=some (.ret (.bool ((offs q).any us.contains)),stM g n m a ts us):=by
 have h1:=fun(st:St)=>f285 (q:=q) (st:=st)
 have h2:=IxO (f:=V.int .i64) (n:=none) (h:=289) (k:=323) (caps:=[.ep (.agg [.mp 1]) 0]) (p:=us.contains) (l:=offs q) (st:=stM g n m a ts us) (fun _=>rfl) (fun _=>rfl) F323 rfl (by simp) offs_len (fun x _=>f289) (fun _=>rfl) rfl
 push_cast[Ftr.v]at h1 h2
 rw[run_open F288 rfl rfl (by simp)]
 push_cast[Ftr.v,h1,h2,ix_ge,(fun(a0 a1:V) (st:St) (h:V.bdL 0 [a0,a1]=false)=>run_open (P:=Tryz.prog) (H:=HH) (args:=[a0,a1]) (st:=st) F284 rfl rfl h)]
theorem L216_0 {os:List Int}{e1 e2 e6 e16 e17 e18:V}{k:Nat}{m:List (Nat×List V)}{a:List (Nat×Arr)}{ts:List Int}(hl:os.length<140737488355328):∀r j,os.drop j=r→∀us,
  runL Tryz.prog HH [1,2,5,6,16,17,18,51,52,53] k B216_0 [(1,e1),(2,e2),(5,.ep (.agg [.mp 1]) 0),(6,e6),(16,e16),(17,e17),(18,e18),(51,.sl (os.map (.int .i64))),(52,.int .i64 os.length),(53,.int .i64 j)] (stM g k m a ts us)
   = some (.exit 2,[(1,e1),(2,e2),(5,.ep (.agg [.mp 1]) 0),(6,e6),(16,e16),(17,e17),(18,e18)],stM g k m a ts (r.foldl insI us)):=by
 refine drop_ind (fun j h u=>?_) (fun q r j h hx hd ih u=>?_)
 all_goals rw[runL_of B216_0.eq_1]
 ·have h1:¬(j:Int)<os.length:=by omega
  push_cast[h1,List.foldl_nil,List.foldl_cons]
 ·have h1:(j:Int)<os.length:=by omega
  have hw:=iw1 (j:=j) (by omega)
  push_cast[h1,hw,hx]at ih ⊢
  simp only[ih,List.foldl_nil,List.foldl_cons,lps,Int.reduceEq,not_false_eq_true]
def featF (foot:Int)(q:Ftr)(ts us:List Int):Int:=if q.attr<0∨15≤q.attr then 1 else if ts.contains q.attr=true then 7 else if ¬q.bits=8∧¬q.bits=16 then 1 else if((offs q).any fun v=>decide (v<0∨foot≤v))=true then 2
 else if q.bits=8∧¬q.fine=0 then 3 else if(offs q).any us.contains=true then 11 else if q.bits=16∧q.fine=q.coarse then 11 else 0
theorem featF_bits {foot:Int}{q:Ftr}{ts us:List Int}(h:featF foot q ts us=0):q.bits=8∨q.bits=16:=by
 unfold featF at h
 split at h
 ·omega
 ·split at h
  ·omega
  ·split at h
   ·omega
   ·omega
def featsP (foot n:Int):List Ftr→List Int→List Int→Int×List Int×List Int
 |[],ts,us=>(0,ts,us)
 |q::r,ts,us=>if ¬featF foot q ts us=0 then(featF foot q ts us,ts,us) else if ¬innC n q=0 then(innC n q,ts,us) else featsP foot n r (insI ts q.attr) ((offs q).foldl insI us)
theorem L216_1 {p:Prof}{c:Int}(hl:p.feats.length<140737488355328)(hb:∀q∈p.feats,q.wheel.length<140737488355328):∀r j,p.feats.drop j=r→∀ts us,
  runL Tryz.prog HH [1,2,5,6,16,17,18] 5 B216_1 [(1,.int .i64 c),(2,.ep p.v 0),(5,.ep (.agg [.mp 1]) 0),(6,.ep (.agg [.mp 2]) 0),(16,.sl (p.feats.map Ftr.v)),(17,.int .i64 p.feats.length),(18,.int .i64 j)] (stM g 5 [] [] ts us)
   = lpE (stM g 5 [] [] (featsP p.foot c r ts us).2.1 (featsP p.foot c r ts us).2.2) [] 4 (featsP p.foot c r ts us).1:=by
 refine drop_ind (fun j h ts us=>?_) (fun q r j h hx hd ih ts us=>?_)
 all_goals rw[runL_of B216_1.eq_1]
 ·have h1:¬(j:Int)<p.feats.length:=by omega
  push_cast[h1,featsP,Ftr.v,Prof.v]
 ·have h1:(j:Int)<p.feats.length:=by omega
  have hw:=iw1 (j:=j) (by omega)
  have hq:q.wheel.length<140737488355328:=hb q (List.mem_of_mem_drop (hd▸List.mem_cons_self ..))
  have h221:=fun(st:St)=>f285 (q:=q) (st:=st)
  have h227:=fun(st:St)=>f291 (q:=q) (n:=c) (st:=st) hq
  push_cast[Ftr.v]at h221 h227
  have h0:=fun k m a e18 ts us=>L216_0 (g:=g) (os:=offs q) (k:=k) (m:=m) (a:=a) (ts:=ts) (e1:=.int .i64 c) (e2:=.ep p.v 0) (e6:=.ep (.agg [.mp 2]) 0) (e16:=.sl (p.feats.map Ftr.v)) (e17:=.int .i64 p.feats.length) (e18:=e18) offs_len _ 0 rfl us
  push_cast[Ftr.v,Prof.v]at h0
  push_cast[h1,hw,hx,Ftr.v,Prof.v,f279,f280,f281,f283,f287,f288,f290,h227,h221,h0,(fun(a0:V) (st:St) (h:V.bdL 0 [a0]=false)=>run_open (P:=Tryz.prog) (H:=HH) (args:=[a0]) (st:=st) F210 rfl rfl h),runL_of B210_0.eq_1]at ih ⊢
  simp only[←featF.eq_1,ih,featsP]
  refine dn_eq (fun h=>?_) ?_
  ·have:=featF_bits (Classical.not_not.1 h)
   intro _ _ _ _ _;omega
  ·by_cases h2:featF p.foot q ts us=0
   ·by_cases h3:innC c q=0<;>simp[h2,h3]
   ·simp[h2]
theorem f216 {p:Prof}{c:Int}(hl:p.feats.length<140737488355328)(hb:∀q∈p.feats,q.wheel.length<140737488355328){st:St}:run Tryz.prog HH 216 [p.v,.int .i64 c] st=some (.ret (.int .i64 (featsP p.foot c p.feats [] []).1),st):=by
 have h0:=L216_1 (g:=st.x.gl) (c:=c) hl hb _ 0 rfl [] []
 push_cast[Prof.v,setE]at h0
 rw[run_shut F216 rfl rfl (by simp)]
 push_cast[Prof.v,h0,lpE]
theorem f211 {p:Prof}{st:St}:run Tryz.prog HH 211 [.ep p.v 0] st=some (.ret (.bool (!nameS p.name)),st):=by
 rw[run_shut F211 rfl rfl (by simp)]
 push_cast[Prof.v,f212]
theorem f213 {p:Prof}{st:St}:run Tryz.prog HH 213 [.ep p.v 0] st=some (.ret (.bool (decide (p.foot<1∨512<p.foot))),st):=by
 rw[run_shut F213 rfl rfl (by simp)]
 push_cast[Prof.v]
 all_goals ((repeat' split)<;>simp_all)
theorem f214 {p:Prof}{st:St}:run Tryz.prog HH 214 [.ep p.v 0] st=some (.ret (.bool (decide (p.watts<0∨1048576<p.watts))),st):=by
 rw[run_shut F214 rfl rfl (by simp)]
 push_cast[Prof.v]
 all_goals ((repeat' split)<;>simp_all)
theorem f215 {p:Prof}{st:St}:run Tryz.prog HH 215 [.ep p.v 0] st=some (.ret (.bool (decide (16<(p.feats.length:Int)))),st):=by
 rw[run_shut F215 rfl rfl (by simp)]
 push_cast[Prof.v]
structure Prof.ok (p:Prof):Prop where
 a:p.feats.length<140737488355328
 b:∀q∈p.feats,q.wheel.length<140737488355328
 c:p.name.length<140737488355328
def Cok (l:List (List Pt)):Prop:=l.length<140737488355328∧∀q∈l,q.length<140737488355328
def profF (p:Prof):Int:=if nameS p.name=false then 8 else if p.foot<1∨512<p.foot then 2 else if p.watts<0∨1048576<p.watts then 2 else if 16<(p.feats.length:Int) then 5 else 0
def profP (p:Prof)(l:List (List Pt)):Int:=if ¬cursC l=0 then cursC l else if ¬profF p=0 then profF p else(featsP p.foot l.length p.feats [] []).1
theorem f134 {p:Prof}{l:List (List Pt)}(hp:p.ok)(hl:Cok l){st:St}:run Tryz.prog HH 134 [p.v,.sl (l.map Pt.vs)] st=some (.ret (.int .i64 (profP p l)),st):=by
 have h:=fun(st:St)=>f216 (c:=l.length) (st:=st) hp.a hp.b
 push_cast[Prof.v]at h
 rw[run_shut F134 rfl rfl (by simp)]
 push_cast[Prof.v,f209 hl.1 hl.2,f211,f213,f214,f215,h,profP,profF,(fun(a0:V) (st:St) (h:V.bdL 0 [a0]=true)=>run_shut (P:=Tryz.prog) (H:=HH) (args:=[a0]) (st:=st) F210 rfl rfl h),runL_of B210_0.eq_1]
 all_goals ((repeat' split)<;>simp_all)
theorem getD_take {α:Type}{l:List α}{i j:Nat}(h:j<i)(d:α):(l.take i).getD j d=l.getD j d:=by
 simp[List.getD_eq_getElem?_getD,List.getElem?_take,h]
theorem len_take {α:Type}{l:List α}{i:Nat}(h:i≤l.length):(l.take i).length=i:=by simp;omega
theorem L275 {l:List Ftr}{v:Int}(hl:l.length<140737488355328):∀r j,l.drop j=r→runL Tryz.prog HH [0,1,5] n B275_0 [(0,.sl (l.map Ftr.v)),(1,.int .i64 v),(5,.int .i64 j)] (stN g n)=lpI (stN g n) [] 4 (ix (fun q=>q.attr == v) r j):=by
 refine drop_ind (fun j h=>?_) (fun q r j h hx hd ih=>?_)
 all_goals rw[runL_of B275_0.eq_1]
 ·have h1:¬(j:Int)<l.length:=by omega
  push_cast[h1,ix,Ftr.v]
 ·have h1:(j:Int)<l.length:=by omega
  have hw:=iw1 (j:=j) (by omega)
  push_cast[h1,hw,hx,Ftr.v]at ih ⊢
  simp only[ih,ix,lps,Int.reduceEq,not_false_eq_true]
  all_goals ((repeat' split)<;>simp_all)
theorem f275 {l:List Ftr}{v:Int}(hl:l.length<140737488355328){st:St}:run Tryz.prog HH 275 [.sl (l.map Ftr.v),.int .i64 v] st=some (.ret (.int .i64 (ix (fun q=>q.attr == v) l 0)),st):=by
 rw[run_shut F275 rfl rfl (by simp)]
 have hL0:=fun n=>L275 (g:=st.x.gl) (n:=n) (v:=v) hl l 0 rfl
 push_cast at hL0
 push_cast[hL0,lpE,lpX,lpI,lpB]
def useQ (v:Int)(q:Ftr):Bool:=decide (q.coarse=v∨q.bits=16∧q.fine=v)
theorem L276 {l:List Ftr}{v:Int}(hl:l.length<140737488355328):∀r j,l.drop j=r→runL Tryz.prog HH [0,1,5] n B276_0 [(0,.sl (l.map Ftr.v)),(1,.int .i64 v),(5,.int .i64 j)] (stN g n)=lpB (stN g n) [] 4 (r.any (useQ v)) true:=by
 refine drop_ind (fun j h=>?_) (fun q r j h hx hd ih=>?_)
 all_goals rw[runL_of B276_0.eq_1]
 ·have h1:¬(j:Int)<l.length:=by omega
  push_cast[h1,anyC,List.any_nil,useQ,decide_eq_true_eq,Ftr.v]
 ·have h1:(j:Int)<l.length:=by omega
  have hw:=iw1 (j:=j) (by omega)
  push_cast[h1,hw,hx,Ftr.v]at ih ⊢
  simp only[ih,anyC,List.any_nil,useQ,decide_eq_true_eq,lps,Int.reduceEq,not_false_eq_true]
theorem f276 {l:List Ftr}{v:Int}(hl:l.length<140737488355328){st:St}:run Tryz.prog HH 276 [.sl (l.map Ftr.v),.int .i64 v] st=some (.ret (.bool (l.any (useQ v))),st):=by
 rw[run_shut F276 rfl rfl (by simp)]
 have hL0:=fun n=>L276 (g:=st.x.gl) (n:=n) (v:=v) hl l 0 rfl
 push_cast at hL0
 push_cast[hL0,lpE,lpX,lpI,lpB]
theorem f349 {v:Int}{st:St}:run Tryz.prog HH 349 [.int .i64 v] st=some (.ret (.int .i64 (if v=8 then 255 else 65535)),st):=by
 rw[run_shut F349 rfl rfl (by simp)]
 push_cast
def twL {α:Type}(p:α→Bool)(e:Int):List α→Int
 |[]=>0
 |x::r=>if p x=true then e else twL p e r
theorem twL_eq {α:Type}{p:α→Bool}{e:Int}:∀{l:List α},twL p e l=if l.any p=true then e else 0
 |[]=>rfl
 |x::r=>by by_cases h:p x=true<;>simp[twL,h,twL_eq (l:=r)]
theorem L350_0 {l:List Slt}{i:Nat}{z:Slt}(hl:l.length<140737488355328)(hi:i<l.length)(hz:∀d,l.getD i d=z):∀r j,(l.take i).drop j=r→runL Tryz.prog HH [0,3,4] n B350_0 [(0,.sl (l.map Slt.v)),(3,.int .i64 i),(4,.int .i64 j)] (stN g n)=lpX 2 (stN g n) [(0,.sl (l.map Slt.v)),(3,.int .i64 i)] 2 (twL (fun p=>p.name == z.name) 7 r):=by
 refine drop_ind (fun j h=>?_) (fun q r j h hx hd ih=>?_)
 all_goals rw[len_take (Nat.le_of_lt hi)]at h
 all_goals rw[runL_of B350_0.eq_1]
 ·have h1:¬(j:Int)<i:=by omega
  push_cast[h1,twL,Slt.v]
 ·have h1:(j:Int)<i:=by omega
  have h2:(j:Int)<l.length:=by omega
  have h3:(i:Int)<l.length:=by omega
  have hw:=iw1 (j:=j) (by omega)
  simp only[getD_take h]at hx
  push_cast[h1,h2,h3,hw,hx,Slt.v,hz]at ih ⊢
  simp only[ih,twL,lps,Int.reduceEq,not_false_eq_true]
  all_goals ((repeat' split)<;>simp_all)
end Go.Proofs.YtmjkgajnpmiomaaGreatDoor

namespace Go.Proofs.YtmjkgajnpmiomaaGreatDoor
open Go.Sha
set_option maxRecDepth 100000
variable {g:List (Nat×Obj)}{n:Nat}
theorem mem_at {α:Type}{l r:List α}{q:α}{j:Nat}(hd:l.drop j=q::r):q∈l:=List.mem_of_mem_drop (hd▸List.mem_cons_self ..)
theorem L350_1 {l:List Slt}(hl:l.length<140737488355328)(hb:∀q∈l,q.name.length<140737488355328):∀r j,l.drop j=r→runL Tryz.prog HH [0,3] n B350_1 [(0,.sl (l.map Slt.v)),(3,.int .i64 j)] (stN g n)=lpE (stN g n) [] 2 (whL l r j):=by
 refine drop_ind (fun j h=>?_) (fun q r j h hx hd ih=>?_)
 all_goals rw[runL_of B350_1.eq_1]
 ·have h1:¬(j:Int)<l.length:=by omega
  push_cast[h1,whL,Slt.v]
 ·have h1:(j:Int)<l.length:=by omega
  have hw:=iw1 (j:=j) (by omega)
  have h0:=fun n=>L350_0 (g:=g) (n:=n) hl h hx _ 0 rfl
  push_cast[Slt.v]at h0
  push_cast[h1,hw,hx,Slt.v,f202 (hb q (mem_at hd)),f201,h0,twL_eq,lpX,iwrap_pred (j:=j) (by omega)]at ih ⊢
  simp only[ih,whL]
  all_goals ((repeat' split)<;>(try simp_all)<;>(try (with_reducible refine dn_eq ?_ ?_<;>first|trivial|omega|rfl))<;>(try omega))
theorem f350 {l:List Slt}(hl:l.length<140737488355328)(hb:∀q∈l,q.name.length<140737488355328){st:St}:run Tryz.prog HH 350 [.sl (l.map Slt.v)] st=some (.ret (.int .i64 (whC l)),st):=by
 rw[run_shut F350 rfl rfl (by simp)]
 have hL0:=fun n=>L350_1 (g:=st.x.gl) (n:=n) hl hb _ 0 rfl
 push_cast[whC]at hL0
 push_cast[whC,hL0,lpE,lpX,lpI,lpB]
def insR (q:Ftr):Int:=if ¬lvl q.home∨q.low<0∨q.high<q.low∨(if q.bits=8 then 255 else 65535)<q.high then 2 else whC q.wheel
structure Ftr.ok (q:Ftr):Prop where
 a:q.wheel.length<140737488355328
 b:∀z∈q.wheel,z.name.length<140737488355328
theorem f315 {q:Ftr}(h:q.ok){st:St}:run Tryz.prog HH 315 [q.v] st=some (.ret (.int .i64 (insR q)),st):=by
 rw[run_shut F315 rfl rfl (by simp)]
 push_cast[Ftr.v,f201,f349,f350 h.a h.b,insR]
def innR (c:Int)(q:Ftr):Int:=if q.curve<0∨c<q.curve then 6 else insR q
theorem f277 {q:Ftr}{c:Int}(h:q.ok){st:St}:run Tryz.prog HH 277 [q.v,.int .i64 c] st=some (.ret (.int .i64 (innR c q)),st):=by
 have h1:=fun(st:St)=>f315 (st:=st) h
 push_cast[Ftr.v]at h1
 rw[run_shut F277 rfl rfl (by simp)]
 push_cast[Ftr.v,h1,innR]
def featR (foot c:Int)(q:Ftr)(b:List Ftr):Int:=if q.attr<0∨15≤q.attr then 1 else if b.any (fun z=>z.attr == q.attr)=true then 7 else if ¬q.bits=8∧¬q.bits=16 then 1 else if q.coarse<0∨foot≤q.coarse∨q.bits=16∧(q.fine<0∨foot≤q.fine) then 2
 else if q.bits=8∧¬q.fine=0 then 3 else if b.any (useQ q.coarse)=true∨q.bits=16∧(b.any (useQ q.fine)=true∨q.fine=q.coarse) then 11 else innR c q
theorem f203 {p:Prof}{q:Ftr}{i:Nat}{c:Int}(hl:p.feats.length<140737488355328)(hi:i<p.feats.length)(hz:∀d,p.feats.getD i d=q)(h:q.ok){st:St}:run Tryz.prog HH 203 [p.v,.int .i64 i,.int .i64 c] st=some (.ret (.int .i64 (featR p.foot c q (p.feats.take i))),st):=by
 have h1:=fun(st:St)=>f277 (c:=c) (st:=st) h
 have h2:=fun(st:St) (v:Int)=>f275 (l:=p.feats.take i) (v:=v) (st:=st) (by simp;omega)
 have h3:=fun(st:St) (v:Int)=>f276 (l:=p.feats.take i) (v:=v) (st:=st) (by simp;omega)
 push_cast[Ftr.v,Prof.v]at h1 h2 h3
 rw[run_shut F203 rfl rfl (by simp)]
 push_cast[Prof.v,Ftr.v,h1,h2,h3,hz,ix_ge,featR]
 exact dn_eq (by omega) rfl
def featsR (foot c:Int)(l:List Ftr):List Ftr→Nat→Int
 |[],_=>0
 |q::r,j=>if featR foot c q (l.take j)=0 then featsR foot c l r (j+1) else featR foot c q (l.take j)
structure Prof.okR (p:Prof):Prop where
 a:p.feats.length<140737488355328
 b:∀q∈p.feats,q.ok
 c:p.name.length<140737488355328
theorem L125 {p:Prof}{m:List (List Pt)}(hp:p.okR):∀r j,p.feats.drop j=r→runL Tryz.prog HH [1,2,6] n B125_0 [(1,.sl (m.map Pt.vs)),(2,.ep p.v 0),(6,.int .i64 j)] (stN g n)=lpE (stN g n) [] 4 (featsR p.foot m.length p.feats r j):=by
 have hl:=hp.a
 refine drop_ind (fun j h=>?_) (fun q r j h hx hd ih=>?_)
 all_goals rw[runL_of B125_0.eq_1]
 ·have h1:¬(j:Int)<p.feats.length:=by omega
  push_cast[h1,featsR,Prof.v]
 ·have h1:(j:Int)<p.feats.length:=by omega
  have hw:=iw1 (j:=j) (by omega)
  have h9:=fun(st:St)=>f203 (c:=m.length) (st:=st) hl h hx (hp.b q (mem_at hd))
  push_cast[h1,hw,hx,Prof.v,h9]at ih ⊢
  simp only[ih,featsR,lps,Int.reduceEq,not_false_eq_true]
  all_goals ((repeat' split)<;>simp_all)
def profR (p:Prof)(l:List (List Pt)):Int:=if ¬cursC l=0 then cursC l else if nameS p.name=false then 8 else if p.foot<1∨512<p.foot∨p.watts<0∨1048576<p.watts then 2 else if 16<(p.feats.length:Int) then 5 else featsR p.foot l.length p.feats p.feats 0
theorem f125 {p:Prof}{l:List (List Pt)}(hp:p.okR)(hl:Cok l){st:St}:run Tryz.prog HH 125 [p.v,.sl (l.map Pt.vs)] st=some (.ret (.int .i64 (profR p l)),st):=by
 rw[run_shut F125 rfl rfl (by simp)]
 have hL0:=fun n=>L125 (g:=st.x.gl) (n:=n) (m:=l) hp _ 0 rfl
 push_cast[Prof.v,f70 hl.1 hl.2,f202 hp.c,profR]at hL0
 push_cast[Prof.v,f70 hl.1 hl.2,f202 hp.c,profR,hL0,lpE,lpX,lpI,lpB]
theorem L71_0 {l:List Prof}{i:Nat}{z:Prof}{v:V}(hl:l.length<140737488355328)(hi:i<l.length)(hz:∀d,l.getD i d=z):∀r j,(l.take i).drop j=r→runL Tryz.prog HH [0,1,5,7] n B71_0 [(0,.sl (l.map Prof.v)),(1,v),(5,.int .i64 i),(7,.int .i64 j)] (stN g n)=lpX 2 (stN g n) [(0,.sl (l.map Prof.v)),(1,v),(5,.int .i64 i)] 4 (twL (fun p=>p.name == z.name) 7 r):=by
 refine drop_ind (fun j h=>?_) (fun q r j h hx hd ih=>?_)
 all_goals rw[len_take (Nat.le_of_lt hi)]at h
 all_goals rw[runL_of B71_0.eq_1]
 ·have h1:¬(j:Int)<i:=by omega
  push_cast[h1,twL,Prof.v]
 ·have h1:(j:Int)<i:=by omega
  have h2:(j:Int)<l.length:=by omega
  have h3:(i:Int)<l.length:=by omega
  have hw:=iw1 (j:=j) (by omega)
  simp only[getD_take h]at hx
  push_cast[h1,h2,h3,hw,hx,Prof.v,hz]at ih ⊢
  simp only[ih,twL,lps,Int.reduceEq,not_false_eq_true]
  all_goals ((repeat' split)<;>simp_all)
def profsR (l:List Prof)(m:List (List Pt)):List Prof→Nat→Int
 |[],_=>0
 |q::r,j=>if ¬profR q m=0 then profR q m else if(l.take j).any (fun p=>p.name == q.name)=true then 7 else profsR l m r (j+1)
theorem L71_1 {l:List Prof}{m:List (List Pt)}(hl:l.length<140737488355328)(hb:∀q∈l,q.okR)(hm:Cok m):∀r j,l.drop j=r→runL Tryz.prog HH [0,1,5] n B71_1 [(0,.sl (l.map Prof.v)),(1,.sl (m.map Pt.vs)),(5,.int .i64 j)] (stN g n)=lpE (stN g n) [] 4 (profsR l m r j):=by
 refine drop_ind (fun j h=>?_) (fun q r j h hx hd ih=>?_)
 all_goals rw[runL_of B71_1.eq_1]
 ·have h1:¬(j:Int)<l.length:=by omega
  push_cast[h1,profsR,Prof.v]
 ·have h1:(j:Int)<l.length:=by omega
  have hw:=iw1 (j:=j) (by omega)
  have h0:=fun n=>L71_0 (g:=g) (n:=n) (v:=.sl (m.map Pt.vs)) hl h hx _ 0 rfl
  have h155:=fun(st:St)=>f125 (st:=st) (hb q (mem_at hd)) hm
  push_cast[Prof.v]at h0 h155
  push_cast[h1,hw,hx,Prof.v,h155,h0,twL_eq,lpX]at ih ⊢
  simp only[ih,profsR]
  all_goals ((repeat' split)<;>simp_all)
def profsCR (l:List Prof)(m:List (List Pt)):Int:=if 32<(l.length:Int) then 5 else profsR l m l 0
theorem f71 {l:List Prof}{m:List (List Pt)}(hl:l.length<140737488355328)(hb:∀q∈l,q.okR)(hm:Cok m){st:St}:run Tryz.prog HH 71 [.sl (l.map Prof.v),.sl (m.map Pt.vs)] st=some (.ret (.int .i64 (profsCR l m)),st):=by
 rw[run_shut F71 rfl rfl (by simp)]
 have hL0:=fun n=>L71_1 (g:=st.x.gl) (n:=n) hl hb hm _ 0 rfl
 push_cast[profsCR]at hL0
 push_cast[profsCR,hL0,lpE,lpX,lpI,lpB]
end Go.Proofs.YtmjkgajnpmiomaaGreatDoor

namespace Go.Proofs.YtmjkgajnpmiomaaGreatDoor
open Go.Sha
set_option maxRecDepth 10000
def B79_0:Cd:=(.g [.b 18 .lss 17 16] (.join [1,15,16,17] (.i 18 .skip (.exit [1] 0)) (.join [1,15,16,17] (.block 1 (.g [.r 19 1 15 17,.l 20 19,.m 4 20] (.g [.m 21 4,.f 22 133 21,.m 5 22] (.g [.m 23 5,.v 24 .neq 23 0] (.i 24 (.g [.m 25 5,.m 2 25] (.ret [2])) .skip))))) (.reg [.v 26 .add 17 1,.m 17 26]))))
def B79_1:Cd:=(.g [.b 36 .lss 35 34] (.join [1,6,33,34,35] (.i 36 .skip (.exit [1] 2)) (.join [1,6,33,34,35] (.block 3 (.g [.r 37 4 33 35,.d 38 4 37,.s 8 (.alloc 94 [(.str []),.i 0,.i 0,.nils]),.w 4 8 38] (.z [8] (.join [1,6,8,33,34,35] (.g [.d 39 4 8,.a 40 0 1,.l 41 40,.g' 42 134 39 41,.m 9 42] (.g [.m 43 9,.v 44 .neq 43 0] (.i 44 (.g [.m 45 9,.m 2 45] (.ret [2])) .skip))) (.join [1,6,8,33,34,35] (.g [.m 46 6,.a 47 0 8,.l 48 47,.s 49 (.act (.look .s (.bool false) false) [.t 46,.t 48])] (.i 49 (.g [.c 2 7] (.ret [2])) .skip)) (.reg [.m 50 6,.a 51 0 8,.l 52 51,.n (.act (.mset .s) [.t 50,.t 52,(.c (.bool true))])])))))) (.reg [.v 53 .add 35 1,.m 35 53]))))
theorem F79:compF Tryz.prog 79=some ⟨59,[.tmp 2],(.g [.q 1 144 0,.c 2 0] (.z [1] (.join [1] (.g [.a 10 0 1,.l 11 10,.u 12 11,.v 13 .gtr 12 16] (.i 13 (.g [.c 2 5] (.ret [2])) .skip)) (.join [1] (.g [.a 14 0 1,.l 15 14,.u 16 15,.c 17 0] (.block 0 (.loop [1,15,16,17] [] B79_0))) (.join [1] (.g [.a 27 1 1,.l 28 27,.u 29 28,.v 30 .gtr 29 32] (.i 30 (.g [.c 2 5] (.ret [2])) .skip)) (.g [.s 31 (.act .mkmap []),.m 6 31] (.join [1] (.g [.a 32 1 1,.l 33 32,.u 34 33,.c 35 0] (.block 2 (.loop [1,6,33,34,35] [] B79_1))) (.g [.a 54 2 1,.l 55 54,.a 56 1 1,.l 57 56,.g' 58 135 55 57,.m 2 58] (.ret [2])))))))))⟩:=by kernel_rfl
theorem F80:compF Tryz.prog 80=some ⟨10,[.cell 2 (some 3)],(.g [.q 1 31 0,.s 2 (.alloc 144 [.nils,.nils,.nils])] (.z [1] (.g [.a 3 1 1,.l 4 3,.a 5 2 1,.l 6 5,.a 7 3 1,.l 8 7,.s 9 (.build [.nils,.nils,.nils] [(0,1,(.t 4)),(1,1,(.t 6)),(2,1,(.t 8))]),.w 3 2 9] (.ret [2]))))⟩:=by kernel_rfl
def B217_0:Cd:=(.g [.b 16 .lss 15 14] (.join [4,5,13,14,15] (.i 16 .skip (.exit [4,5] 0)) (.join [4,5,13,14,15] (.block 1 (.g [.r 17 4 13 15,.d 18 4 17,.s 7 (.alloc 94 [(.str []),.i 0,.i 0,.nils]),.w 4 7 18] (.z [7] (.g [.a 20 1 5,.l 21 20,.a 22 0 7,.l 23 22,.s 24 (.act (.look .s (.agg [(.str []),.i 0,.i 0,.nils]) true) [.t 21,.t 23]),.m 19 24,.j 25 0 19,.j 26 1 19,.s 8 (.alloc 94 [(.str []),.i 0,.i 0,.nils]),.w 4 8 25,.m 9 26] (.z [8] (.g [.m 27 9,.z 28 27] (.i 28 (.reg [.a 29 1 5,.l 30 29,.a 31 0 7,.l 32 31,.d 33 4 7,.n (.act (.mset .s) [.t 30,.t 32,.t 33])]) .skip))))))) (.reg [.v 34 .add 15 1,.m 15 34]))))
theorem F217:compF Tryz.prog 217=some ⟨36,[.cell 4 (some 2)],(.g [.s 4 (.alloc 257 [.nils,.nilm])] (.g [.m 10 0,.s 11 (.act .mkmap []),.s 12 (.build [.nils,.nilm] [(0,1,(.t 10)),(1,1,(.t 11))]),.s 5 (.alloc 257 [.nils,.nilm]),.w 2 5 12] (.z [5] (.join [4,5] (.g [.m 13 1,.u 14 13,.c 15 0] (.block 0 (.loop [4,5,13,14,15] [] B217_0))) (.g [.d 35 2 5,.w 2 4 35] (.ret [4]))))))⟩:=by kernel_rfl
theorem F218:compF Tryz.prog 218=some ⟨76,[.tmp 4],(.g [.q 2 257 0,.c 4 0] (.z [2] (.g [.a 10 0 2,.l 11 10,.m 12 1,.r 13 7 11 12,.d 14 7 13,.s 5 (.alloc 55 [.i 0,.i 0,(.str []),.i 0,.i 0,.i 0,(.str [])]),.w 7 5 14] (.z [5] (.join [1,2,5] (.g [.d 15 7 5,.f 16 292 15,.z 17 16] (.i 17 (.g [.c 4 2] (.ret [4])) .skip)) (.join [1,2,5] (.join [1,2,5,26] (.reg [.a 18 6 5,.l 19 18,.s 20 (.bin .neq (.t 19) (.w [])),.m 21 20,.ay 22 6 5 21,.ly 23 22 21,.y 24 (.f 293 [.t 23]) 21,.y 25 (.un .not (.t 24)) 21,.e 26 21 25]) (.i 26 (.g [.c 4 8] (.ret [4])) .skip)) (.g [.a 28 1 2,.l 29 28,.a 30 2 5,.l 31 30,.s 32 (.act (.look .s (.agg [(.str []),.i 0,.i 0,.nils]) true) [.t 29,.t 31]),.m 27 32,.j 33 0 27,.j 34 1 27,.s 6 (.alloc 94 [(.str []),.i 0,.i 0,.nils]),.w 4 6 33,.m 7 34] (.z [6] (.join [1,2,5,6] (.g [.m 35 7,.z 36 35] (.i 36 (.g [.c 4 6] (.ret [4])) .skip)) (.join [1,2,5,6] (.join [1,2,5,6,48] (.reg [.a 37 1 6,.l 38 37,.v 39 .lss 38 1,.m 40 39,.ax 41 1 6 40,.lx 42 41 40,.ax 43 4 5 40,.lx 44 43 40,.x 45 (.bin .sub (.i 512) (.t 44)) 40,.vx 46 .add 45 1 40,.bx 47 .gtr 42 46 40,.o 48 40 47]) (.i 48 (.g [.c 4 2] (.ret [4])) .skip)) (.join [5,6,8] (.greg [] [] [[],[],[],[],[],[],[],[true,true,true,true,true,true,true],[false,false,false,false,false,false,false,false]] [.a 49 0 2,.l 50 49,.m 51 1,.s 52 (.slice 7 (.t 50) none (some (.t 51)) none),.a 53 1 2,.l 54 53,.s 55 (.build [.nils,.nilm] [(0,1,(.t 52)),(1,1,(.t 54))]),.s 8 (.alloc 257 [.nils,.nilm]),.w 2 8 55]) (.z [8] (.join [5,6,8] (.g [.d 56 2 8,.a 57 0 5,.l 58 57,.a 59 1 5,.l 60 59,.s 61 (.f 190 [.t 56,.t 58,.t 60]),.v 62 .geq 61 0] (.i 62 (.g [.c 4 7] (.ret [4])) .skip)) (.g [.d 63 2 8,.a 64 3 5,.l 65 64,.g' 66 294 63 65,.s 9 (.alloc 331 (List.replicate 513 (.i 0))),.w 513 9 66] (.z [9] (.join [] (.g [.a 67 4 5,.l 68 67,.a 69 4 5,.l 70 69,.a 71 1 6,.l 72 71,.b 73 .add 70 72,.s 74 (.act (.sla 513) [.t 9,.t 68,.t 73]),.s 75 (.f 284 [.t 74,(.c (.fn (.func 295) [] []))])] (.i 75 (.g [.c 4 10] (.ret [4])) .skip)) (.g [.c 4 0] (.ret [4]))))))))))))))))))⟩:=by kernel_rfl
def B292_0:Cd:=(.g [.b 23 .lss 22 21] (.join [20,21,22] (.i 23 .skip (.exit [] 0)) (.join [20,21,22] (.block 1 (.g [.r 24 2 20 22,.d 25 2 24,.s 4 (.alloc 354 [.i 0,.i 0]),.w 2 4 25] (.z [4] (.join [20,21,22,35] (.reg [.s 26 (.iadra 2 1 (.t 4) (.i 0)),.l 27 26,.v 28 .lss 27 1,.m 29 28,.x 30 (.iadra 2 1 (.t 4) (.i 0)) 29,.lx 31 30 29,.x 32 (.iadra 2 1 (.t 4) (.i 1)) 29,.lx 33 32 29,.bx 34 .gtr 31 33 29,.o 35 29 34]) (.i 35 (.g [.k 2 false] (.ret [2])) .skip))))) (.reg [.v 36 .add 22 1,.m 22 36]))))
theorem F292:compF Tryz.prog 292=some ⟨37,[.tmp 2],(.g [.q 1 55 0,.k 2 false] (.z [1] (.join [] (.g [.a 5 0 1,.l 6 5,.s 7 (.build [.i 0,.i 0] [(0,1,(.t 6)),(1,1,(.i 999))]),.a 8 1 1,.l 9 8,.s 10 (.build [.i 0,.i 0] [(0,1,(.t 9)),(1,1,(.i 64))]),.a 11 3 1,.l 12 11,.s 13 (.build [.i 0,.i 0] [(0,1,(.t 12)),(1,1,(.i 8))]),.a 14 4 1,.l 15 14,.s 16 (.build [.i 0,.i 0] [(0,1,(.t 15)),(1,1,(.i 512))]),.a 17 5 1,.l 18 17,.s 19 (.build [.i 0,.i 0] [(0,1,(.t 18)),(1,1,(.i 3))]),.s 20 (.bslice 354 2 [.t 7,.t 10,.t 13,.t 16,.t 19]),.u 21 20,.c 22 0] (.block 0 (.loop [20,21,22] [] B292_0))) (.g [.k 2 true] (.ret [2])))))⟩:=by kernel_rfl
theorem F190:compF Tryz.prog 190=some ⟨11,[.tmp 6],(.g [.q 3 257 0,.q 4 3 1,.q 5 3 2,.c 6 0] (.z [3,4,5] (.g [.a 7 0 3,.l 8 7,.s 9 (.mkfn (.func 269) [] [.t 4,.t 5]),.g' 10 268 8 9,.m 6 10] (.ret [6]))))⟩:=by kernel_rfl
def B294_0:Cd:=(.g [.b 25 .lss 24 23] (.join [1,2,4,5,6,7,10,11,12,23,24] (.i 25 .skip (.exit [1,2,4,5,10,11,12] 2)) (.join [1,2,4,5,6,7,10,11,12,23,24] (.block 3 (.g [.m 26 24,.m 8 26] (.reg [.a 27 4 7,.l 28 27,.m 29 8,.b 30 .add 28 29,.m 31 6,.v 32 .add 31 1,.s 33 (.iadra 513 1 (.t 5) (.t 30)),.w 1 33 32]))) (.reg [.v 34 .add 24 1,.m 24 34]))))
def B294_1:Cd:=(.g [.b 13 .lss 12 11] (.join [1,2,4,5,10,11,12] (.i 13 .skip (.exit [4,5] 0)) (.join [1,2,4,5,10,11,12] (.block 1 (.g [.m 14 12,.r 15 7 10 12,.d 16 7 15,.s 7 (.alloc 55 [.i 0,.i 0,(.str []),.i 0,.i 0,.i 0,(.str [])]),.m 6 14,.w 7 7 16] (.z [7] (.join [1,2,4,5,6,7,10,11,12] (.g [.a 17 3 7,.l 18 17,.m 19 1,.b 20 .neq 18 19] (.i 20 (.exit [1,2,4,5,10,11,12] 1) .skip)) (.g [.d 21 2 2,.d 22 7 7,.g' 23 325 21 22,.c 24 0] (.block 2 (.loop [1,2,4,5,6,7,10,11,12,23,24] [] B294_0))))))) (.reg [.v 35 .add 12 1,.m 12 35]))))
theorem F294:compF Tryz.prog 294=some ⟨37,[.cell 4 (some 513)],(.g [.q 2 257 0,.s 4 (.alloc 331 (List.replicate 513 (.i 0)))] (.z [2] (.g [.s 5 (.alloc 331 (List.replicate 513 (.i 0)))] (.join [4,5] (.g [.a 9 0 2,.l 10 9,.u 11 10,.c 12 0] (.block 0 (.loop [1,2,4,5,10,11,12] [] B294_1))) (.g [.d 36 513 5,.w 513 4 36] (.ret [4]))))))⟩:=by kernel_rfl
theorem F295:compF Tryz.prog 295=some ⟨5,[.tmp 2],(.g [.k 2 false] (.g [.m 3 0,.v 4 .gtr 3 0,.m 2 4] (.ret [2])))⟩:=by kernel_rfl
def B268_0:Cd:=(.g [.b 9 .lss 8 7] (.join [0,1,7,8] (.i 9 .skip (.exit [] 0)) (.join [0,1,7,8] (.block 1 (.g [.m 10 8,.m 5 10] (.g [.m 11 1,.m 12 0,.m 13 5,.r 14 7 12 13,.d 15 7 14,.s 16 (.call (.t 11) [.t 15])] (.i 16 (.g [.m 17 5,.m 4 17] (.ret [4])) .skip)))) (.reg [.v 18 .add 8 1,.m 8 18]))))
theorem F268:compF Tryz.prog 268=some ⟨19,[.tmp 4],(.g [.c 4 0] (.join [] (.g [.m 6 0,.u 7 6,.c 8 0] (.block 0 (.loop [0,1,7,8] [] B268_0))) (.g [.c 4 (-1)] (.ret [4]))))⟩:=by kernel_rfl
theorem F269:compF Tryz.prog 269=some ⟨15,[.tmp 4],(.g [.q 3 55 0,.k 4 false] (.z [3] (.join [4] (.reg [.a 5 0 3,.l 6 5,.l 7 1,.b 8 .eql 6 7,.m 9 8,.ay 10 1 3 9,.ly 11 10 9,.ly 12 2 9,.by' 13 .eql 11 12 9,.e 14 9 13,.m 4 14]) (.ret [4]))))⟩:=by kernel_rfl
theorem F325:compF Tryz.prog 325=some ⟨11,[.tmp 4],(.g [.q 2 257 0,.q 3 55 1,.c 4 0] (.z [2,3] (.g [.a 5 1 2,.l 6 5,.a 7 2 3,.l 8 7,.s 9 (.act (.look .s (.agg [(.str []),.i 0,.i 0,.nils]) false) [.t 6,.t 8]),.s 10 (.fld none 1 (.t 9)),.m 4 10] (.ret [4]))))⟩:=by kernel_rfl
def B72_0:Cd:=(.join [0,1,5,7] (.g [.m 32 7,.m 33 5,.b 34 .lss 32 33] (.i 34 .skip (.exit [0,1,5] 2))) (.join [0,1,5,7] (.block 3 (.join [0,1,5,7,60] (.dreg 24 [.m 37 0,.m 38 7,.r 39 7 37 38,.a 40 0 39,.l 41 40,.m 42 0,.m 43 5,.r 44 7 42 43,.a 45 0 44,.l 46 45,.b 47 .eql 41 46,.m 48 47,.my 49 0 48,.my 50 7 48,.ry 51 7 49 50 48,.ay 52 1 51 48,.ly 53 52 48,.my 54 0 48,.my 55 5 48,.ry 56 7 54 55 48,.ay 57 1 56 48,.ly 58 57 48,.by' 59 .eql 53 58 48,.e 60 48 59]) (.i 60 (.g [.c 4 7] (.ret [4])) .skip))) (.reg [.m 35 7,.v 36 .add 35 1,.m 7 36])))
def B72_1:Cd:=(.join [0,1,5,8] (.g [.m 61 8,.m 62 5,.b 63 .lss 61 62] (.i 63 .skip (.exit [0,1,5] 4))) (.join [0,1,5,8] (.block 5 (.q (.dreg 10 [.m 66 1,.m 67 0,.m 68 8,.r 69 7 67 68,.d 70 7 69,.m 71 0,.m 72 5,.r 73 7 71 72,.d 74 7 73,.s 75 (.f 127 [.t 66,.t 70,.t 74])]) (.i 75 (.g [.c 4 10] (.ret [4])) .skip))) (.reg [.m 64 8,.v 65 .add 64 1,.m 8 65])))
def B72_2:Cd:=(.join [0,1,5] (.g [.m 17 5,.m 18 0,.u 19 18,.b 20 .lss 17 19] (.i 20 .skip (.exit [] 0))) (.join [0,1,5] (.block 1 (.join [0,1,5] (.g [.m 23 1,.m 24 0,.m 25 5,.r 26 7 24 25,.d 27 7 26,.g' 28 126 23 27,.m 6 28] (.g [.m 29 6,.v 30 .neq 29 0] (.i 30 (.g [.m 31 6,.m 4 31] (.ret [4])) .skip))) (.join [0,1,5] (.g [.c 7 0] (.block 2 (.loop [0,1,5,7] [] B72_0))) (.g [.c 8 0] (.block 4 (.loop [0,1,5,8] [] B72_1)))))) (.reg [.m 21 5,.v 22 .add 21 1,.m 5 22])))
theorem F72:compF Tryz.prog 72=some ⟨76,[.tmp 4],(.g [.c 4 0] (.join [0,1] (.join [0,1,16] (.reg [.m 9 1,.u 10 9,.v 11 .gtr 10 32,.m 12 11,.mx 13 0 12,.x 14 (.len (.t 13)) 12,.vx 15 .gtr 14 64 12,.o 16 12 15]) (.i 16 (.g [.c 4 5] (.ret [4])) .skip)) (.join [] (.g [.c 5 0] (.block 0 (.loop [0,1,5] [] B72_2))) (.g [.c 4 0] (.ret [4])))))⟩:=by kernel_rfl
def B205_0:Cd:=(.join [0,1,5] (.g [.m 6 5,.m 7 0,.u 8 7,.b 9 .lss 6 8] (.i 9 .skip (.exit [] 0))) (.join [0,1,5] (.block 1 (.g [.m 12 0,.m 13 5,.r 14 4 12 13,.a 15 0 14,.l 16 15,.m 17 1,.b 18 .eql 16 17] (.i 18 (.g [.m 19 5,.m 4 19] (.ret [4])) .skip))) (.reg [.m 10 5,.v 11 .add 10 1,.m 5 11])))
theorem F205:compF Tryz.prog 205=some ⟨20,[.tmp 4],(.g [.c 4 0] (.join [] (.g [.c 5 0] (.block 0 (.loop [0,1,5] [] B205_0))) (.g [.c 4 (-1)] (.ret [4]))))⟩:=by kernel_rfl
theorem F126:compF Tryz.prog 126=some ⟨43,[.tmp 4],(.g [.q 3 55 1,.c 4 0] (.z [3] (.join [0,3] (.g [.d 8 7 3,.f 9 204 8,.m 5 9] (.g [.m 10 5,.v 11 .neq 10 0] (.i 11 (.g [.m 12 5,.m 4 12] (.ret [4])) .skip))) (.join [0,3] (.join [0,3,21] (.reg [.a 13 6 3,.l 14 13,.s 15 (.bin .neq (.t 14) (.w [])),.m 16 15,.ay 17 6 3 16,.ly 18 17 16,.y 19 (.f 202 [.t 18]) 16,.y 20 (.un .not (.t 19)) 16,.e 21 16 20]) (.i 21 (.g [.c 4 8] (.ret [4])) .skip)) (.g [.m 22 0,.a 23 2 3,.l 24 23,.g' 25 205 22 24,.m 6 25] (.join [0,3,6] (.g [.m 26 6,.v 27 .lss 26 0] (.i 27 (.g [.c 4 6] (.ret [4])) .skip)) (.join [] (.g [.m 28 0,.m 29 6,.r 30 4 28 29,.a 31 1 30,.l 32 31,.m 7 32] (.join [42] (.reg [.m 33 7,.v 34 .lss 33 1,.m 35 34,.mx 36 7 35,.ax 37 4 3 35,.lx 38 37 35,.x 39 (.bin .sub (.i 512) (.t 38)) 35,.vx 40 .add 39 1 35,.bx 41 .gtr 36 40 35,.o 42 35 41]) (.i 42 (.g [.c 4 2] (.ret [4])) .skip))) (.g [.c 4 0] (.ret [4])))))))))⟩:=by kernel_rfl
theorem F127:compF Tryz.prog 127=some ⟨34,[.tmp 6],(.g [.q 4 55 1,.q 5 55 2,.k 6 false] (.z [4,5] (.join [6] (.dreg 28 [.a 7 3 4,.l 8 7,.a 9 3 5,.l 10 9,.b 11 .eql 8 10,.m 12 11,.ay 13 4 4 12,.ly 14 13 12,.ay 15 4 5 12,.ly 16 15 12,.my 17 0 12,.y 18 (.load (some 7) (.t 5)) 12,.y 19 (.f 206 [.t 17,.t 18]) 12,.by' 20 .add 16 19 12,.by' 21 .lss 14 20 12,.e 22 12 21,.m 23 22,.ay 24 4 5 23,.ly 25 24 23,.ay 26 4 4 23,.ly 27 26 23,.my 28 0 23,.y 29 (.load (some 7) (.t 4)) 23,.y 30 (.f 206 [.t 28,.t 29]) 23,.by' 31 .add 27 30 23,.by' 32 .lss 25 31 23,.e 33 23 32,.m 6 33]) (.ret [6]))))⟩:=by kernel_rfl
theorem F204:compF Tryz.prog 204=some ⟨49,[.tmp 2],(.g [.q 1 55 0,.c 2 0] (.z [1] (.join [1] (.join [1,20] (.reg [.a 3 0 1,.l 4 3,.v 5 .lss 4 1,.m 6 5,.ax 7 0 1 6,.lx 8 7 6,.vx 9 .gtr 8 999 6,.o 10 6 9,.m 11 10,.ax 12 1 1 11,.lx 13 12 11,.vx 14 .lss 13 1 11,.o 15 11 14,.m 16 15,.ax 17 1 1 16,.lx 18 17 16,.vx 19 .gtr 18 64 16,.o 20 16 19]) (.i 20 (.g [.c 2 2] (.ret [2])) .skip)) (.join [] (.join [48] (.reg [.a 21 3 1,.l 22 21,.v 23 .lss 22 1,.m 24 23,.ax 25 3 1 24,.lx 26 25 24,.vx 27 .gtr 26 8 24,.o 28 24 27,.m 29 28,.ax 30 4 1 29,.lx 31 30 29,.vx 32 .lss 31 1 29,.o 33 29 32,.m 34 33,.ax 35 4 1 34,.lx 36 35 34,.vx 37 .gtr 36 512 34,.o 38 34 37,.m 39 38,.ax 40 5 1 39,.lx 41 40 39,.vx 42 .lss 41 1 39,.o 43 39 42,.m 44 43,.ax 45 5 1 44,.lx 46 45 44,.vx 47 .gtr 46 3 44,.o 48 44 47]) (.i 48 (.g [.c 2 2] (.ret [2])) .skip)) (.g [.c 2 0] (.ret [2]))))))⟩:=by kernel_rfl
theorem F206:compF Tryz.prog 206=some ⟨13,[.tmp 4],(.g [.q 3 55 1,.c 4 0] (.z [3] (.g [.m 5 0,.m 6 0,.a 7 2 3,.l 8 7,.g' 9 205 6 8,.r 10 4 5 9,.a 11 1 10,.l 12 11,.m 4 12] (.ret [4]))))⟩:=by kernel_rfl
end Go.Proofs.YtmjkgajnpmiomaaGreatDoor

namespace Go.Proofs.YtmjkgajnpmiomaaGreatDoor
open Go.Sha
set_option maxRecDepth 100000
variable {g:List (Nat×Obj)}{n:Nat}
def pfx (ps:List Prof)(s:List UInt8):Option Prof:=ps.find? fun p=>p.name == s
theorem ix_find {α:Type}{p:α→Bool}:∀{l:List α}{j:Nat},(l.find? p=none→ix p l j=-1)∧∀x,l.find? p=some x→∃k:Nat,ix p l j=((j+k:Nat):Int)∧k<l.length∧∀d,l.getD k d=x
 |[],j=>⟨fun _=>rfl,fun x h=>by simp at h⟩
 |y::r,j=>by
  by_cases h:p y=true
  ·refine⟨fun e=>by simp[h]at e,fun x e=>?_⟩
   simp[h]at e;subst e
   exact⟨0,by simp[ix,h],by simp,fun _=>rfl⟩
  ·obtain⟨i1,i2⟩:=ix_find (p:=p) (l:=r) (j:=j+1)
   refine⟨fun e=>?_,fun x e=>?_⟩
   ·simp[h]at e;simp[ix,h];exact i1 (List.find?_eq_none.2 (by simpa using e))
   ·simp[h]at e
    obtain⟨k,k1,k2,k3⟩:=i2 x e
    exact⟨k+1,by simp[ix,h,k1];omega,by simp;omega,fun d=>by simpa using k3 d⟩
theorem L205 {l:List Prof}{s:List UInt8}(hl:l.length<140737488355328):∀r j,l.drop j=r→runL Tryz.prog HH [0,1,5] n B205_0 [(0,.sl (l.map Prof.v)),(1,.str s),(5,.int .i64 j)] (stN g n)=lpI (stN g n) [] 4 (ix (fun p=>p.name == s) r j):=by
 refine drop_ind (fun j h=>?_) (fun q r j h hx hd ih=>?_)
 all_goals rw[runL_of B205_0.eq_1]
 ·have h1:¬(j:Int)<l.length:=by omega
  push_cast[h1,ix,Prof.v]
 ·have h1:(j:Int)<l.length:=by omega
  have hw:=iw1 (j:=j) (by omega)
  push_cast[h1,hw,hx,Prof.v]at ih ⊢
  simp only[ih,ix,lps,Int.reduceEq,not_false_eq_true]
  all_goals ((repeat' split)<;>simp_all)
theorem f205 {l:List Prof}{s:List UInt8}(hl:l.length<140737488355328){st:St}:run Tryz.prog HH 205 [.sl (l.map Prof.v),.str s] st=some (.ret (.int .i64 (ix (fun p=>p.name == s) l 0)),st):=by
 rw[run_shut F205 rfl rfl (by simp)]
 have hL0:=fun n=>L205 (g:=st.x.gl) (n:=n) (s:=s) hl l 0 rfl
 push_cast at hL0
 push_cast[hL0,lpE,lpX,lpI,lpB]
def rngC (x:Fixt):Int:=if x.chan<1∨999<x.chan∨x.part<1∨64<x.part then 2 else if x.univ<1∨8<x.univ∨x.addr<1∨512<x.addr∨x.phase<1∨3<x.phase then 2 else 0
theorem f204 {x:Fixt}{st:St}:run Tryz.prog HH 204 [x.v] st=some (.ret (.int .i64 (rngC x)),st):=by
 rw[run_shut F204 rfl rfl (by simp)]
 push_cast[Fixt.v,rngC]
theorem f206 {l:List Prof}{x:Fixt}{p:Prof}(hl:l.length<140737488355328)(hp:pfx l x.prof=some p){st:St}:run Tryz.prog HH 206 [.sl (l.map Prof.v),x.v] st=some (.ret (.int .i64 p.foot),st):=by
 obtain⟨k,k1,k2,k3⟩:=(ix_find (j:=0)).2 p hp
 rw[Nat.zero_add]at k1
 have k4:(k:Int)<l.length:=by omega
 rw[run_shut F206 rfl rfl (by simp)]
 push_cast[Fixt.v,f205 hl,k1,k3,k4,Prof.v]
def wr1 (x:Fixt):Int:=IntKind.i64.wrap (IntKind.i64.wrap (512-x.addr)+1)
def aloC (l:List Prof)(x:Fixt):Int:=if ¬rngC x=0 then rngC x else if ¬x.cable=[]∧nameS x.cable=false then 8 else match pfx l x.prof with
 |none=>6
 |some p=>if p.foot<1∨wr1 x<p.foot then 2 else 0
theorem f126 {l:List Prof}{x:Fixt}(hl:l.length<140737488355328)(hc:x.cable.length<140737488355328){st:St}:run Tryz.prog HH 126 [.sl (l.map Prof.v),x.v] st=some (.ret (.int .i64 (aloC l x)),st):=by
 have h203:=fun(st:St)=>f204 (x:=x) (st:=st)
 push_cast[Fixt.v]at h203
 cases hp:pfx l x.prof with
 |none =>
  have k1:=(ix_find (j:=0)).1 hp
  rw[run_shut F126 rfl rfl (by simp)]
  push_cast[Fixt.v,h203,f202 hc,f205 hl,k1,aloC,hp]
 |some p =>
  obtain⟨k,k1,k2,k3⟩:=(ix_find (j:=0)).2 p hp
  rw[Nat.zero_add]at k1
  have k4:(k:Int)<l.length:=by omega
  have k5:¬(k:Int)<0:=by omega
  rw[run_shut F126 rfl rfl (by simp)]
  push_cast[Fixt.v,h203,f202 hc,f205 hl,k1,k3,k4,k5,Prof.v,aloC,hp,wr1]
  all_goals ((repeat' split)<;>(try simp_all)<;>(try omega))
def footS (l:List Prof)(x:Fixt):Int:=((pfx l x.prof).map Prof.foot).getD 0
def ovl (l:List Prof)(x y:Fixt):Bool:=decide (x.univ=y.univ∧x.addr<IntKind.i64.wrap (y.addr+footS l y)∧y.addr<IntKind.i64.wrap (x.addr+footS l x))
theorem f206' {l:List Prof}{x:Fixt}(hl:l.length<140737488355328)(hp:(pfx l x.prof).isSome=true){st:St}:run Tryz.prog HH 206 [.sl (l.map Prof.v),x.v] st=some (.ret (.int .i64 (footS l x)),st):=by
 obtain⟨p,hp⟩:=Option.isSome_iff_exists.1 hp
 rw[f206 hl hp,footS,hp];rfl
theorem f127 {l:List Prof}{x y:Fixt}(hl:l.length<140737488355328)(hp:(pfx l x.prof).isSome=true)(hq:(pfx l y.prof).isSome=true){st:St}:run Tryz.prog HH 127 [.sl (l.map Prof.v),x.v,y.v] st=some (.ret (.bool (ovl l x y)),st):=by
 have h1:=fun(st:St)=>f206' (st:=st) hl hp
 have h2:=fun(st:St)=>f206' (st:=st) hl hq
 push_cast[Fixt.v]at h1 h2
 rw[run_shut F127 rfl rfl (by simp)]
 push_cast[Fixt.v,h1,h2,ovl]
 congr 4
 simp only[Bool.decide_and,Bool.and_assoc]
theorem L72_0 {l:List Fixt}{i:Nat}{z:Fixt}{v:V}(hl:l.length<140737488355328)(hi:i<l.length)(hz:∀d,l.getD i d=z):∀r j,(l.take i).drop j=r→runL Tryz.prog HH [0,1,5,7] n B72_0 [(0,.sl (l.map Fixt.v)),(1,v),(5,.int .i64 i),(7,.int .i64 j)] (stN g n)=lpX 2 (stN g n) [(0,.sl (l.map Fixt.v)),(1,v),(5,.int .i64 i)] 4 (twL (fun p=>decide (p.chan=z.chan∧p.part=z.part)) 7 r):=by
 refine drop_ind (fun j h=>?_) (fun q r j h hx hd ih=>?_)
 all_goals rw[len_take (Nat.le_of_lt hi)]at h
 all_goals rw[runL_of B72_0.eq_1]
 ·have h1:¬(j:Int)<i:=by omega
  push_cast[h1,twL,decide_eq_true_eq,Fixt.v]
 ·have h1:(j:Int)<i:=by omega
  have h2:(j:Int)<l.length:=by omega
  have h3:(i:Int)<l.length:=by omega
  have hw:=iw1 (j:=j) (by omega)
  simp only[getD_take h]at hx
  push_cast[h1,h2,h3,hw,hx,Fixt.v,hz]at ih ⊢
  simp only[ih,twL,decide_eq_true_eq,lps,Int.reduceEq,not_false_eq_true]
theorem L72_1 {l:List Fixt}{ps:List Prof}{i:Nat}{z:Fixt}(hl:l.length<140737488355328)(hp:ps.length<140737488355328)(hi:i<l.length)(hz:∀d,l.getD i d=z)(h7:(pfx ps z.prof).isSome=true)(h8:∀x∈l.take i,(pfx ps x.prof).isSome=true):∀r j,(l.take i).drop j=r→runL Tryz.prog HH [0,1,5,8] n B72_1 [(0,.sl (l.map Fixt.v)),(1,.sl (ps.map Prof.v)),(5,.int .i64 i),(8,.int .i64 j)] (stN g n)=lpX 4 (stN g n) [(0,.sl (l.map Fixt.v)),(1,.sl (ps.map Prof.v)),(5,.int .i64 i)] 4 (twL (fun p=>ovl ps p z) 10 r):=by
 refine drop_ind (fun j h=>?_) (fun q r j h hx hd ih=>?_)
 all_goals rw[len_take (Nat.le_of_lt hi)]at h
 all_goals rw[runL_of B72_1.eq_1]
 ·have h1:¬(j:Int)<i:=by omega
  push_cast[h1,twL,Fixt.v]
 ·have h1:(j:Int)<i:=by omega
  have h2:(j:Int)<l.length:=by omega
  have h3:(i:Int)<l.length:=by omega
  have hw:=iw1 (j:=j) (by omega)
  simp only[getD_take h]at hx
  have h9:=fun(st:St)=>f127 (st:=st) hp (h8 q (mem_at hd)) h7
  push_cast[h1,h2,h3,hw,hx,Fixt.v,hz,h9]at ih ⊢
  simp only[ih,twL,lps,Int.reduceEq,not_false_eq_true]
def fixR (ps:List Prof)(l:List Fixt):List Fixt→Nat→Int
 |[],_=>0
 |q::r,j=>if ¬aloC ps q=0 then aloC ps q else if(l.take j).any (fun p=>decide (p.chan=q.chan∧p.part=q.part))=true then 7 else if(l.take j).any (fun p=>ovl ps p q)=true then 10 else fixR ps l r (j+1)
theorem aloC_some {ps:List Prof}{x:Fixt}(h:aloC ps x=0):(pfx ps x.prof).isSome=true:=by
 unfold aloC at h
 split at h
 ·rename_i h1;exact absurd h h1
 ·split at h
  ·cases h
  ·split at h
   ·cases h
   ·rename_i h1;rw[h1];rfl
theorem take_snoc {α:Type}{l r:List α}{q:α}{j:Nat}(hd:l.drop j=q::r):l.take (j+1)=l.take j++[q]:=by
 have h:=congrArg (·[0]?) hd
 simp at h
 rw[List.take_add_one,h];rfl
theorem L72_2 {l:List Fixt}{ps:List Prof}(hl:l.length<140737488355328)(hb:∀x∈l,x.cable.length<140737488355328)(hp:ps.length<140737488355328):∀r j,l.drop j=r→(∀x∈l.take j,(pfx ps x.prof).isSome=true)→runL Tryz.prog HH [0,1,5] n B72_2 [(0,.sl (l.map Fixt.v)),(1,.sl (ps.map Prof.v)),(5,.int .i64 j)] (stN g n)=lpE (stN g n) [] 4 (fixR ps l r j):=by
 refine drop_ind (fun j h h8=>?_) (fun q r j h hx hd ih h8=>?_)
 all_goals rw[runL_of B72_2.eq_1]
 ·have h1:¬(j:Int)<l.length:=by omega
  push_cast[h1,fixR,Fixt.v]
 ·have h1:(j:Int)<l.length:=by omega
  have hw:=iw1 (j:=j) (by omega)
  have h0:=fun n=>L72_0 (g:=g) (n:=n) (v:=.sl (ps.map Prof.v)) hl h hx _ 0 rfl
  have h156:=fun(st:St)=>f126 (st:=st) (x:=q) hp (hb q (mem_at hd))
  push_cast[Fixt.v]at h0 h156
  by_cases h2:aloC ps q=0
  ·have h7:=aloC_some h2
   have ih:=ih (by rw[take_snoc hd];intro x hx;rcases List.mem_append.1 hx with hx|hx;exact h8 x hx;rw[List.mem_singleton.1 hx];exact h7)
   have h4:=fun n=>L72_1 (g:=g) (n:=n) hl hp h hx h7 h8 _ 0 rfl
   push_cast[Fixt.v]at h4
   push_cast[h1,hw,hx,Fixt.v,h156,h0,h4,h2,twL_eq,lpX]at ih ⊢
   simp only[ih,fixR,h2]
   all_goals ((repeat' split)<;>simp_all)
  ·clear ih
   push_cast[h1,hw,hx,Fixt.v,h156,h2]
   simp[fixR,h2]
def fixCR (l:List Fixt)(ps:List Prof):Int:=if 32<(ps.length:Int)∨64<(l.length:Int) then 5 else fixR ps l l 0
theorem f72 {l:List Fixt}{ps:List Prof}(hl:l.length<140737488355328)(hb:∀x∈l,x.cable.length<140737488355328)(hp:ps.length<140737488355328){st:St}:run Tryz.prog HH 72 [.sl (l.map Fixt.v),.sl (ps.map Prof.v)] st=some (.ret (.int .i64 (fixCR l ps)),st):=by
 rw[run_shut F72 rfl rfl (by simp)]
 have hL0:=fun n=>L72_2 (g:=st.x.gl) (n:=n) hl hb hp _ 0 rfl (by simp)
 push_cast[fixCR]at hL0
 push_cast[fixCR,hL0,lpE,lpX,lpI,lpB]
end Go.Proofs.YtmjkgajnpmiomaaGreatDoor

namespace Go.Proofs.YtmjkgajnpmiomaaGreatDoor
open Go.Sha
set_option maxRecDepth 100000
variable {g:List (Nat×Obj)}{n:Nat}
def prE (l:List Prof):List (V×V):=l.map fun p=>(.str p.name,p.v)
theorem find_prE {s:List UInt8}:∀{l:List Prof}{i:Nat},(pfx l s=none→findV (.str s) (prE l) i=some none)∧∀p,pfx l s=some p→∃j,findV (.str s) (prE l) i=some (some (j,p.v))
 |[],i=>⟨fun _=>rfl,fun p h=>by simp[pfx]at h⟩
 |q::r,i=>by
  obtain⟨i1,i2⟩:=find_prE (s:=s) (l:=r) (i:=i+1)
  simp only[prE,List.map_cons,findV,sameV,pfx]at i1 i2 ⊢
  by_cases h:s=q.name
  ·refine⟨fun e=>by simp[h]at e,fun p e=>?_⟩
   simp[h]at e;subst e
   exact⟨i,by simp[h]⟩
  ·have h':¬q.name=s:=fun e=>h e.symm
   rw[show(s == q.name)=false by simp[h]]
   simp only[List.find?_cons,show(q.name == s)=false by simp[h']]
   exact⟨i1,i2⟩
theorem look_prN {st:St}{z:V}{s:List UInt8}{l:List Prof}{b:Bool}(h:pfx l s=none):lookB st z b (findV (.str s) (prE l) 0)=some (if b=true then .tup [z,.bool false] else z,st):=by
 rw[find_prE.1 h];rfl
theorem look_prS {st:St}{z:V}{s:List UInt8}{l:List Prof}{b:Bool}{p:Prof}(h:pfx l s=some p):lookB st z b (findV (.str s) (prE l) 0)=some (if b=true then .tup [p.v,.bool true] else p.v,st):=by
 obtain⟨j,hj⟩:=(find_prE (i:=0)).2 p h
 rw[hj];rfl
theorem mset_prN {st:St}{i:Nat}{s:List UInt8}{l:List Prof}{p:Prof}(h:pfx l s=none)(hs:p.name=s):msetB st i (prE l) (.str s) p.v (findV (.str s) (prE l) 0)=some (.und,⟨st.nx,st.mem,st.arr,⟨updO st.x.obj i (.map (prE (l++[p]))),st.x.gl,st.x.ty⟩⟩):=by
 rw[find_prE.1 h];subst hs;simp[msetB,putM,prE]
@[push_cast]theorem prE_all {l:List Prof}:((prE l).all fun p=>p.1.bd n&&p.2.bd n)=true:=by simp[prE,V.bd,V.bdL,bdL_map']
@[push_cast]theorem prE_k {l:List Prof}:((prE l).all fun x=>V.bd n x.1)=true:=by simp[prE,V.bd]
@[push_cast]theorem prE_v {l:List Prof}:((prE l).all fun x=>V.bd n x.2)=true:=by simp[prE,V.bd,V.bdL,bdL_map']
def insP (l:List Prof)(p:Prof):List Prof:=if(pfx l p.name).isSome=true then l else l++[p]
theorem pfx_insP {l:List Prof}{p:Prof}{s:List UInt8}:pfx (insP l p) s=(pfx l s).or (if p.name=s then some p else none):=by
 unfold insP
 split
 ·rename_i h
  obtain⟨q,hq⟩:=Option.isSome_iff_exists.1 h
  by_cases e:p.name=s
  ·subst e;rw[hq];rfl
  ·rw[if_neg e,Option.or_none]
 ·unfold pfx
  rw[List.find?_append]
  congr 1
  by_cases e:p.name=s<;>simp[e]
theorem pfx_fold {s:List UInt8}:∀{ps l:List Prof},pfx (ps.foldl insP l) s=(pfx l s).or (pfx ps s)
 |[],l=>by simp[pfx]
 |p::r,l=>by
  rw[List.foldl_cons,pfx_fold,pfx_insP,Option.or_assoc]
  congr 1
  by_cases e:p.name=s<;>simp[pfx,e]
def dedP (ps:List Prof):List Prof:=ps.foldl insP []
theorem pfx_ded {ps:List Prof}{s:List UInt8}:pfx (dedP ps) s=pfx ps s:=by rw[dedP,pfx_fold];rfl
def stR (g:List (Nat×Obj))(a:List Prof):St:=⟨3,[(0,[.nils,.nilm])],[],⟨[(1,.map (prE a))],g,[]⟩⟩
@[push_cast]theorem stR_eq {a:List Prof}:stR g a=⟨3,[(0,[.nils,.nilm])],[],⟨[(1,.map (prE a))],g,[]⟩⟩:=idq rfl
theorem L217_0 {l:List Fixt}{ps:List Prof}(hl:ps.length<140737488355328):∀r j,ps.drop j=r→∀a,runL Tryz.prog HH [4,5,13,14,15] 3 B217_0 [(4,.ptr 0 0),(5,.ep (.agg [.sl (l.map Fixt.v),.mp 1]) 0),(13,.sl (ps.map Prof.v)),(14,.int .i64 ps.length),(15,.int .i64 j)] (stR g a)
  = some (.exit 0,[(4,.ptr 0 0),(5,.ep (.agg [.sl (l.map Fixt.v),.mp 1]) 0)],stR g (r.foldl insP a)):=by
 refine drop_ind (fun j h a=>?_) (fun q r j h hx hd ih a=>?_)
 all_goals rw[runL_of B217_0.eq_1]
 ·have h1:¬(j:Int)<ps.length:=by omega
  push_cast[h1,List.foldl_nil,Prof.v]
 ·have h1:(j:Int)<ps.length:=by omega
  have hw:=iw1 (j:=j) (by omega)
  rw[List.foldl_cons]
  cases hp:pfx a q.name with
  |none =>
   have h2:=fun(st:St) (z:V) (b:Bool)=>look_prN (st:=st) (z:=z) (b:=b) hp
   have h3:=fun(st:St) (i:Nat)=>mset_prN (st:=st) (i:=i) hp rfl
   push_cast[Prof.v]at h2 h3
   push_cast[h1,hw,hx,Prof.v,h2,h3]at ih ⊢
   simp[ih,insP,hp]
  |some p =>
   have h2:=fun(st:St) (z:V) (b:Bool)=>look_prS (st:=st) (z:=z) (b:=b) hp
   push_cast[Prof.v]at h2
   push_cast[h1,hw,hx,Prof.v,h2]at ih ⊢
   simp[ih,insP,hp]
def rigV (l:List Fixt)(ps:List Prof):V:=.agg [.sl (l.map Fixt.v),.mpc ((prE ps).map (·.1)) ((prE ps).map (·.2))]
theorem f217 {l:List Fixt}{ps:List Prof}(hl:ps.length<140737488355328){st:St}:run Tryz.prog HH 217 [.sl (l.map Fixt.v),.sl (ps.map Prof.v)] st=some (.ret (rigV l (dedP ps)),st):=by
 have h0:=L217_0 (g:=st.x.gl) (l:=l) hl _ 0 rfl []
 push_cast[show prE []=[] from rfl]at h0
 rw[run_shut F217 rfl rfl (by simp)]
 push_cast[h0,rigV,dedP]
theorem rigV_bd {l:List Fixt}{ps:List Prof}:V.bd 0 (rigV l ps)=true:=by
 simp only[rigV,V.bd,V.bdL,bdL_map',prE_k,prE_v];simp
theorem mapOf_rig {st:St}{ps:List Prof}:mapOf st (.mpc ((prE ps).map (·.1)) ((prE ps).map (·.2)))=some (prE ps):=mapOf_mpc
theorem f292 {x:Fixt}{st:St}:run Tryz.prog HH 292 [x.v] st=some (.ret (.bool (decide (rngC x=0))),st):=by
 rw[run_shut F292 rfl rfl (by simp)]
 push_cast[Fixt.v,runL_of B292_0.eq_1,rngC]
 congr 4
 rw[Bool.eq_iff_iff]
 by_cases h1:x.chan<1∨999<x.chan∨x.part<1∨64<x.part<;>by_cases h2:x.univ<1∨8<x.univ∨x.addr<1∨512<x.addr∨x.phase<1∨3<x.phase<;>simp[h1,h2]<;>omega
theorem f269 {x:Fixt}{c d:Int}{st:St}:run Tryz.prog HH 269 [x.v,.ep (.agg [.int .i64 c]) 0,.ep (.agg [.int .i64 d]) 0] st=some (.ret (.bool (decide (x.chan=c)&&x.part == d)),st):=by
 rw[run_shut F269 rfl rfl (by simp)]
 push_cast[Fixt.v]
theorem f268 {l:List Fixt}{c d:Int}(hl:l.length<140737488355328){st:St}:run Tryz.prog HH 268 [.sl (l.map Fixt.v),.fn (.func 269) [] [.ep (.agg [.int .i64 c]) 0,.ep (.agg [.int .i64 d]) 0]] st=some (.ret (.int .i64 (ix (fun x=>decide (x.chan=c)&&x.part == d) l 0)),st) :=
 IxF (f:=Fixt.v) (n:=some 7) (fun _=>rfl) (fun _=>rfl) F268 rfl (by simp) hl (fun q _ _=>f269) (fun _ _=>rfl) (fun _=>rfl)
theorem f190 {l:List Fixt}{ps:List Prof}{c d:Int}(hl:l.length<140737488355328){st:St}:run Tryz.prog HH 190 [rigV l ps,.int .i64 c,.int .i64 d] st=some (.ret (.int .i64 (ix (fun x=>decide (x.chan=c)&&x.part == d) l 0)),st):=by
 rw[run_shut F190 rfl rfl (by simp[V.bdL,rigV_bd,V.bd])]
 push_cast[rigV,f268 hl]
theorem f325 {l:List Fixt}{ps:List Prof}{x:Fixt}{st:St}:run Tryz.prog HH 325 [rigV l ps,x.v] st=some (.ret (.int .i64 (footS ps x)),st):=by
 rw[run_shut F325 rfl rfl (by simp[V.bdL,rigV_bd,V.bd])]
 cases hp:pfx ps x.prof with
 |none =>
  have h2:=fun(st:St) (z:V) (b:Bool)=>look_prN (st:=st) (z:=z) (b:=b) hp
  push_cast[rigV,Fixt.v,mapOf_rig,h2,footS,hp]
 |some p =>
  have h2:=fun(st:St) (z:V) (b:Bool)=>look_prS (st:=st) (z:=z) (b:=b) hp
  push_cast[rigV,Fixt.v,Prof.v,mapOf_rig,h2,footS,hp]
def setL (a:List Int)(o:Nat)(v:Int):List Int:=a.take o++v::a.drop (o+1)
theorem map_setL {a:List Int}{o:Nat}{v:Int}:(a.take o).map (V.int .i64)++V.int .i64 v::(a.drop (o+1)).map (V.int .i64)=(setL a o v).map (V.int .i64):=by simp[setL]
def fillA (a:List Int)(o:Nat)(v:Int):Nat→List Int
 |0=>a
 |m+1=>fillA (setL a o v) (o+1) v m
theorem setL_len {a:List Int}{o:Nat}{v:Int}(h:o<a.length):(setL a o v).length=a.length:=by simp[setL];omega
theorem fillA_len {v:Int}:∀{m:Nat}{a:List Int}{o:Nat},o+m≤a.length→(fillA a o v m).length=a.length
 |0,_,_,_=>rfl
 |m+1,a,o,h=>by
  have:=setL_len (a:=a) (o:=o) (v:=v) (by omega)
  rw[fillA,fillA_len (by omega),this]
def zI:List Int:=List.replicate 513 0
@[push_cast]theorem zI_eq:List.replicate 513 (V.int .i64 0)=zI.map (V.int .i64):=by rw[zI,List.map_replicate]
@[push_cast]theorem zI_len:zI.length=513:=by rw[zI,List.length_replicate]
def stU (g:List (Nat×Obj))(k:Nat)(a:List Int):St:=⟨k,[(2,a.map (.int .i64)),(1,zI.map (.int .i64))],[],⟨[],g,[]⟩⟩
@[push_cast]theorem stU_eq {k:Nat}{a:List Int}:stU g k a=⟨k,[(2,a.map (.int .i64)),(1,zI.map (.int .i64))],[],⟨[],g,[]⟩⟩:=idq rfl
theorem L294_0 {x:Fixt}{a0 N i:Nat}{e1 e2 e10 e11 e12:V}(ha:x.addr=a0)(hN:a0+N≤513)(hi:i<140737488355328):∀m k,k+m=N→∀a,a.length=513 →
  runL Tryz.prog HH [1,2,4,5,6,7,10,11,12,23,24] 4 B294_0 [(1,e1),(2,e2),(4,.ptr 1 0),(5,.ptr 2 0),(6,.int .i64 i),(7,.ep x.v 0),(10,e10),(11,e11),(12,e12),(23,.int .i64 N),(24,.int .i64 k)] (stU g 4 a)
   = some (.exit 2,[(1,e1),(2,e2),(4,.ptr 1 0),(5,.ptr 2 0),(10,e10),(11,e11),(12,e12)],stU g 4 (fillA a (a0+k) (i+1) m)):=by
 intro m
 induction m with
 |zero =>
  intro k hk a hl
  rw[runL_of B294_0.eq_1]
  have h1:¬(k:Int)<N:=by omega
  push_cast[h1,fillA]
 |succ m ih =>
  intro k hk a hl
  rw[runL_of B294_0.eq_1]
  have h1:(k:Int)<N:=by omega
  have hw:IntKind.i64.wrap ((k:Int)+1)=((k+1:Nat):Int):=iwrap (by omega) (by omega)
  have hw2:IntKind.i64.wrap ((i:Int)+1)=((i+1:Nat):Int):=iwrap (by omega) (by omega)
  have hw3:IntKind.i64.wrap ((a0:Int)+k)=((a0+k:Nat):Int):=by rw[←Int.natCast_add];exact iwrap (by omega) (by omega)
  have ih:=ih (k+1) (by omega) (setL a (a0+k) (i+1)) (by rw[setL_len (by omega)];exact hl)
  push_cast[h1,hw,hw2,hw3,Fixt.v,ha,hl,Nat.mul_one,map_setL,fillA]at ih ⊢
  exact dn_eq (by omega) ih
def useU (ps:List Prof)(u:Int):List Fixt→Nat→List Int→List Int
 |[],_,a=>a
 |x::r,j,a=>useU ps u r (j+1) (if x.univ=u then fillA a x.addr.toNat (j+1) (footS ps x).toNat else a)
def inU (ps:List Prof)(x:Fixt):Prop:=0≤x.addr∧0≤footS ps x∧x.addr+footS ps x≤513
theorem L294_1 {l:List Fixt}{ps:List Prof}{u:Int}(hl:l.length<140737488355328)(hb:∀x∈l,inU ps x):∀r j,l.drop j=r→∀a,a.length=513 →
  runL Tryz.prog HH [1,2,4,5,10,11,12] 3 B294_1 [(1,.int .i64 u),(2,.ep (rigV l ps) 0),(4,.ptr 1 0),(5,.ptr 2 0),(10,.sl (l.map Fixt.v)),(11,.int .i64 l.length),(12,.int .i64 j)] (stU g 3 a)
   = some (.exit 0,[(4,.ptr 1 0),(5,.ptr 2 0)],stU g 3 (useU ps u r j a)):=by
 refine drop_ind (fun j h a ha=>?_) (fun q r j h hx hd ih a ha=>?_)
 all_goals rw[runL_of B294_1.eq_1]
 ·have h1:¬(j:Int)<l.length:=by omega
  push_cast[h1,useU,Fixt.v]
 ·have h1:(j:Int)<l.length:=by omega
  have hw:=iw1 (j:=j) (by omega)
  obtain⟨b1,b2,b3⟩:=hb q (mem_at hd)
  have e1:q.addr=(q.addr.toNat:Int):=by omega
  have e2:footS ps q=((footS ps q).toNat:Int):=by omega
  have h0:=fun e1' e2' e10 e11 e12 a=>L294_0 (g:=g) (e1:=e1') (e2:=e2') (e10:=e10) (e11:=e11) (e12:=e12) (x:=q) (a0:=q.addr.toNat) (N:=(footS ps q).toNat) (i:=j) e1 (by omega) (by omega) _ 0 (Nat.zero_add _) a
  have h258:=fun(st:St)=>f325 (l:=l) (ps:=ps) (x:=q) (st:=st)
  rw[←e2]at h0
  by_cases hu:q.univ=u
  ·subst hu
   have ih:=ih (fillA a q.addr.toNat (j+1) (footS ps q).toNat) (by rw[fillA_len (by omega)];exact ha)
   have h0:=fun e1' e2' e10 e11 e12=>h0 e1' e2' e10 e11 e12 a ha
   push_cast[Fixt.v,rigV]at h0 h258
   push_cast[h1,hw,hx,Fixt.v,rigV,h258,h0]at ih ⊢
   simp only[ih,useU,Nat.add_zero,if_true]
  ·have ih:=ih a ha
   push_cast[h1,hw,hx,Fixt.v,rigV,hu]at ih ⊢
   simp only[ih,useU,hu,if_false]
theorem useU_len {ps:List Prof}{u:Int}:∀{l:List Fixt}{j:Nat}{a:List Int},(∀x∈l,inU ps x)→a.length=513→(useU ps u l j a).length=513
 |[],_,_,_,h=>h
 |x::r,j,a,hb,h=>by
  obtain⟨b1,b2,b3⟩:=hb x (List.mem_cons_self ..)
  rw[useU]
  refine useU_len (fun y hy=>hb y (List.mem_cons_of_mem _ hy)) ?_
  split
  ·rw[fillA_len (by omega)];exact h
  ·exact h
theorem f294 {l:List Fixt}{ps:List Prof}{u:Int}(hl:l.length<140737488355328)(hb:∀x∈l,inU ps x){st:St}:run Tryz.prog HH 294 [rigV l ps,.int .i64 u] st=some (.ret (.agg ((useU ps u l 0 zI).map (.int .i64))),st):=by
 have h0:=L294_1 (g:=st.x.gl) (ps:=ps) (u:=u) hl hb _ 0 rfl zI zI_len
 have h1:=useU_len (j:=0) (u:=u) hb zI_len
 rw[run_shut F294 rfl rfl (by simp[V.bdL,rigV_bd,V.bd])]
 push_cast[rigV,Fixt.v]at h0
 have h2:(useU ps u l 0 zI).take 513=useU ps u l 0 zI:=List.take_of_length_le (by omega)
 have h3:zI.drop 513=[]:=List.drop_eq_nil_of_le (by rw[zI_len];exact Nat.le_refl _)
 have h4:((useU ps u l 0 zI).map (V.int .i64)).take 513=(useU ps u l 0 zI).map (V.int .i64):=List.take_of_length_le (by rw[List.length_map];omega)
 have h5:∀s (a:List Int),(a.map (V.int .i64)).map (shut1 s)=a.map (V.int .i64):=fun s a=>by rw[List.map_map];rfl
 push_cast[rigV,h0,h1,h2,h3,h4,h5,Nat.le_refl]
theorem f295 {v:Int}{st:St}:run Tryz.prog HH 295 [.int .i64 v] st=some (.ret (.bool (decide (0<v))),st):=by
 rw[run_shut F295 rfl rfl (by simp)]
 push_cast
def fixF (ps:List Prof)(b:List Fixt)(x:Fixt):Int:=if ¬rngC x=0 then 2 else if ¬x.cable=[]∧nameS x.cable=false then 8 else match pfx ps x.prof with
 |none=>6
 |some p=>if p.foot<1∨wr1 x<p.foot then 2 else if b.any (fun y=>decide (y.chan=x.chan)&&y.part == x.part)=true then 7
  else if(((useU ps x.univ b 0 zI).take (x.addr+p.foot).toNat).drop x.addr.toNat).any (fun v=>decide (0<v))=true then 10 else 0
theorem f284 {l:List Int}(hl:l.length<140737488355328){st:St}:run Tryz.prog HH 284 [.sl (l.map (.int .i64)),.fn (.func 295) [] []] st=some (.ret (.bool (l.any fun v=>decide (0<v))),st):=by
 have h:=fun(st:St)=>f323 (h:=295) (caps:=[]) (p:=fun v=>decide (0<v)) (l:=l) (st:=st) hl rfl (fun x st=>f295) (fun _=>rfl)
 rw[run_shut F284 rfl rfl (by simp)]
 push_cast[h,ix_ge]
theorem rng_ok {x:Fixt}(h:rngC x=0):1≤x.chan∧x.chan≤999∧1≤x.part∧x.part≤64∧1≤x.univ∧x.univ≤8∧1≤x.addr∧x.addr≤512∧1≤x.phase∧x.phase≤3:=by
 unfold rngC at h
 split at h
 ·omega
 ·split at h<;>omega
theorem wr1_ok {x:Fixt}(h:1≤x.addr∧x.addr≤512):wr1 x=513-x.addr:=by
 have e1:IntKind.i64.wrap (512-x.addr)=512-x.addr:=iwrap (by omega) (by omega)
 have e2:IntKind.i64.wrap (512-x.addr+1)=512-x.addr+1:=iwrap (by omega) (by omega)
 rw[wr1,e1,e2];omega
theorem f218 {l:List Fixt}{ps:List Prof}{i:Nat}{x:Fixt}(hl:l.length<140737488355328)(hi:i<l.length)(hz:∀d,l.getD i d=x)(hb:∀y∈l.take i,inU ps y)(hc:x.cable.length<140737488355328){st:St}:run Tryz.prog HH 218 [rigV l ps,.int .i64 i] st=some (.ret (.int .i64 (fixF ps (l.take i) x)),st):=by
 have hi':(i:Int)<l.length:=by omega
 have h228:=fun(st:St)=>f292 (x:=x) (st:=st)
 have h230:=fun(st:St)=>f190 (l:=l.take i) (ps:=ps) (c:=x.chan) (d:=x.part) (st:=st) (by simp;omega)
 have h231:=fun(st:St)=>f294 (u:=x.univ) (st:=st) (by simp;omega) hb
 rw[run_shut F218 rfl rfl (by simp[V.bdL,rigV_bd,V.bd])]
 cases hp:pfx ps x.prof with
 |none =>
  have h2:=fun(st:St) (z:V) (b:Bool)=>look_prN (st:=st) (z:=z) (b:=b) hp
  push_cast[rigV,Fixt.v]at h228
  push_cast[rigV,hi',hz,Fixt.v,h228,f293 hc,mapOf_rig,h2]
  simp only[fixF,hp]
 |some p =>
  have h2:=fun(st:St) (z:V) (b:Bool)=>look_prS (st:=st) (z:=z) (b:=b) hp
  push_cast[rigV,Fixt.v,Prof.v]at h228 h230 h231 h2
  by_cases hr:rngC x=0
  ·by_cases hf:p.foot<1∨IntKind.i64.wrap (IntKind.i64.wrap (512-x.addr)+1)<p.foot
   ·push_cast[rigV,hi',hz,Fixt.v,Prof.v,h228,f293 hc,mapOf_rig,h2,hr,hf]
    simp[fixF,hp,hr,wr1,hf]
   ·have r1:=rng_ok hr
    have r2:¬(p.foot<1∨wr1 x<p.foot):=hf
    have r3:¬(p.foot<1∨513-x.addr<p.foot):=by rw[wr1_ok (by omega)]at r2;exact r2
    have hw:IntKind.i64.wrap (x.addr+p.foot)=x.addr+p.foot:=iwrap (by omega) (by omega)
    have hu:=useU_len (j:=0) (u:=x.univ) hb zI_len
    have hz3:zI.drop 513=[]:=List.drop_eq_nil_of_le (by rw[zI_len];exact Nat.le_refl _)
    have ha:∀a:List Int,(a.all ((fun c:V=>!c.isAgg)∘V.int .i64))=true:=fun a=>by simp[V.isAgg]
    have h220:=fun(st:St)=>f284 (l:=((useU ps x.univ (l.take i) 0 zI).take (x.addr+p.foot).toNat).drop x.addr.toNat) (st:=st) (by simp;omega)
    push_cast[rigV,hi',hz,Fixt.v,Prof.v,h228,f293 hc,mapOf_rig,h2,h230,h231,ix_ge,hr,hf,hw,hu,hz3,take_map',drop_map',h220]
    refine dn_eq (fun _=>⟨by omega,fun _=>⟨ha _,by omega⟩⟩) ?_
    rw[fixF]
    simp only[hp,hr,not_true_eq_false,if_false,if_neg r2]
  ·push_cast[rigV,hi',hz,Fixt.v,Prof.v,h228,f293 hc,mapOf_rig,h2,hr]
   simp[fixF,hr]
end Go.Proofs.YtmjkgajnpmiomaaGreatDoor

