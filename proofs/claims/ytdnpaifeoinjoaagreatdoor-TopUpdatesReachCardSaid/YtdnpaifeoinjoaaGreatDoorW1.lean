/- The program's data as Lean structures, and what they read as; the contracts that are taken from the library. Searching in slices; groups. Groups. Curves and waves. The compiled code of functions of th .. -/
import Derived.Test.YtdnpaifeoinjoaaGreatDoorWShbYB
import Derived.Test.YtdnpaifeoinjoaaGreatDoorWShbXO
import Derived.Test.YtdnpaifeoinjoaaGreatDoorProg
import Derived.KernelRfl
import Derived.Test.YtdnpaifeoinjoaaGreatDoorWShbXI
import Derived.Lib.ItoaLen
import Derived.RangeFuncNested
import Derived.RangeFuncBound
import Derived.RangeFuncCalls
import Derived.RangeFuncLeaves
import Derived.RangeFuncBox
import Derived.RangeFuncWrites
import Derived.Shelf.Abstract
import Derived.Shelf.RegionOpen
import Derived.WalkKit
import Derived.OwnWalkIn
import Derived.TacticsInMore
import Derived.LoopNIn
import Derived.LoopIn
import Derived.Test.YtdnpaifeoinjoaaGreatDoorWShbT
import Derived.Test.YtdnpaifeoinjoaaGreatDoorWShbAC
import Derived.Test.YtdnpaifeoinjoaaGreatDoorWShbEK
set_option linter.unusedSimpArgs false
set_option linter.unusedVariables false
namespace Go.Proofs.YtdnpaifeoinjoaaGreatDoor
open Go.Sha
structure Pt where
 x:Int
 y:Int
 deriving Inhabited,DecidableEq
@[reducible] def Pt.v (x:Pt):V:=.agg [.int .i64 x.x,.int .i64 x.y]
@[simp] theorem Pt.bd (x:Pt):V.bd 0 x.v=true:=by simp[Pt.v,V.bd,V.bdL,bdL_map']
@[push_cast]theorem Pt.eta (x:Pt):(⟨x.x,x.y⟩:Pt)=x:=idq rfl
@[reducible] def Pt.vs (c:List Pt):V:=.sl (c.map Pt.v)
theorem Pt.he (x:Pt):x.v.cells.length=2:=rfl
structure Slt where
 name:List UInt8
 fr:Int
 to_:Int
 deriving Inhabited,DecidableEq
@[reducible] def Slt.v (x:Slt):V:=.agg [.str x.name,.int .i64 x.fr,.int .i64 x.to_]
@[simp] theorem Slt.bd (x:Slt):V.bd 0 x.v=true:=by simp[Slt.v,V.bd,V.bdL,bdL_map']
@[push_cast]theorem Slt.eta (x:Slt):(⟨x.name,x.fr,x.to_⟩:Slt)=x:=idq rfl
@[reducible] def Slt.vs (c:List Slt):V:=.sl (c.map Slt.v)
theorem Slt.he (x:Slt):x.v.cells.length=3:=rfl
structure Ftr where
 attr:Int
 bits:Int
 coarse:Int
 fine:Int
 curve:Int
 home:Int
 low:Int
 high:Int
 snap:Bool
 wheel:List Slt
 deriving Inhabited,DecidableEq
@[reducible] def Ftr.v (x:Ftr):V:=.agg [.int .i64 x.attr,.int .i64 x.bits,.int .i64 x.coarse,.int .i64 x.fine,.int .i64 x.curve,.int .i64 x.home,.int .i64 x.low,.int .i64 x.high,.bool x.snap,.sl (x.wheel.map Slt.v)]
@[simp] theorem Ftr.bd (x:Ftr):V.bd 0 x.v=true:=by simp[Ftr.v,V.bd,V.bdL,bdL_map']
@[push_cast]theorem Ftr.eta (x:Ftr):(⟨x.attr,x.bits,x.coarse,x.fine,x.curve,x.home,x.low,x.high,x.snap,x.wheel⟩:Ftr)=x:=idq rfl
@[reducible] def Ftr.vs (c:List Ftr):V:=.sl (c.map Ftr.v)
theorem Ftr.he (x:Ftr):x.v.cells.length=10:=rfl
structure Prof where
 name:List UInt8
 foot:Int
 watts:Int
 feats:List Ftr
 deriving Inhabited,DecidableEq
@[reducible] def Prof.v (x:Prof):V:=.agg [.str x.name,.int .i64 x.foot,.int .i64 x.watts,.sl (x.feats.map Ftr.v)]
@[simp] theorem Prof.bd (x:Prof):V.bd 0 x.v=true:=by simp[Prof.v,V.bd,V.bdL,bdL_map']
@[push_cast]theorem Prof.eta (x:Prof):(⟨x.name,x.foot,x.watts,x.feats⟩:Prof)=x:=idq rfl
@[reducible] def Prof.vs (c:List Prof):V:=.sl (c.map Prof.v)
theorem Prof.he (x:Prof):x.v.cells.length=4:=rfl
structure Fixt where
 chan:Int
 part:Int
 prof:List UInt8
 univ:Int
 addr:Int
 phase:Int
 cable:List UInt8
 deriving Inhabited,DecidableEq
@[reducible] def Fixt.v (x:Fixt):V:=.agg [.int .i64 x.chan,.int .i64 x.part,.str x.prof,.int .i64 x.univ,.int .i64 x.addr,.int .i64 x.phase,.str x.cable]
@[simp] theorem Fixt.bd (x:Fixt):V.bd 0 x.v=true:=by simp[Fixt.v,V.bd,V.bdL,bdL_map']
@[push_cast]theorem Fixt.eta (x:Fixt):(⟨x.chan,x.part,x.prof,x.univ,x.addr,x.phase,x.cable⟩:Fixt)=x:=idq rfl
@[reducible] def Fixt.vs (c:List Fixt):V:=.sl (c.map Fixt.v)
theorem Fixt.he (x:Fixt):x.v.cells.length=7:=rfl
structure Prm where
 chan:Int
 attr:Int
 deriving Inhabited,DecidableEq
@[reducible] def Prm.v (x:Prm):V:=.agg [.int .i64 x.chan,.int .i64 x.attr]
@[simp] theorem Prm.bd (x:Prm):V.bd 0 x.v=true:=by simp[Prm.v,V.bd,V.bdL,bdL_map']
@[push_cast]theorem Prm.eta (x:Prm):(⟨x.chan,x.attr⟩:Prm)=x:=idq rfl
@[reducible] def Prm.vs (c:List Prm):V:=.sl (c.map Prm.v)
theorem Prm.he (x:Prm):x.v.cells.length=2:=rfl
structure Val where
 pal:Int
 lev:Int
 deriving Inhabited,DecidableEq
@[reducible] def Val.v (x:Val):V:=.agg [.int .i64 x.pal,.int .i64 x.lev]
@[simp] theorem Val.bd (x:Val):V.bd 0 x.v=true:=by simp[Val.v,V.bd,V.bdL,bdL_map']
@[push_cast]theorem Val.eta (x:Val):(⟨x.pal,x.lev⟩:Val)=x:=idq rfl
@[reducible] def Val.vs (c:List Val):V:=.sl (c.map Val.v)
theorem Val.he (x:Val):x.v.cells.length=2:=rfl
structure Grp where
 num:Int
 chans:List Int
 deriving Inhabited,DecidableEq
@[reducible] def Grp.v (x:Grp):V:=.agg [.int .i64 x.num,.sl (x.chans.map (V.int .i64))]
@[simp] theorem Grp.bd (x:Grp):V.bd 0 x.v=true:=by simp[Grp.v,V.bd,V.bdL,bdL_map']
@[push_cast]theorem Grp.eta (x:Grp):(⟨x.num,x.chans⟩:Grp)=x:=idq rfl
@[reducible] def Grp.vs (c:List Grp):V:=.sl (c.map Grp.v)
theorem Grp.he (x:Grp):x.v.cells.length=2:=rfl
structure Hue where
 chan:Int
 attr:Int
 lev:Int
 deriving Inhabited,DecidableEq
@[reducible] def Hue.v (x:Hue):V:=.agg [.int .i64 x.chan,.int .i64 x.attr,.int .i64 x.lev]
@[simp] theorem Hue.bd (x:Hue):V.bd 0 x.v=true:=by simp[Hue.v,V.bd,V.bdL,bdL_map']
@[push_cast]theorem Hue.eta (x:Hue):(⟨x.chan,x.attr,x.lev⟩:Hue)=x:=idq rfl
@[reducible] def Hue.vs (c:List Hue):V:=.sl (c.map Hue.v)
theorem Hue.he (x:Hue):x.v.cells.length=3:=rfl
structure Pal where
 num:Int
 hues:List Hue
 deriving Inhabited,DecidableEq
@[reducible] def Pal.v (x:Pal):V:=.agg [.int .i64 x.num,.sl (x.hues.map Hue.v)]
@[simp] theorem Pal.bd (x:Pal):V.bd 0 x.v=true:=by simp[Pal.v,V.bd,V.bdL,bdL_map']
@[push_cast]theorem Pal.eta (x:Pal):(⟨x.num,x.hues⟩:Pal)=x:=idq rfl
@[reducible] def Pal.vs (c:List Pal):V:=.sl (c.map Pal.v)
theorem Pal.he (x:Pal):x.v.cells.length=2:=rfl
structure Tim where
 up:Int
 down:Int
 posi:Int
 colour:Int
 beam:Int
 delay:Int
 deriving Inhabited,DecidableEq
@[reducible] def Tim.v (x:Tim):V:=.agg [.int .i64 x.up,.int .i64 x.down,.int .i64 x.posi,.int .i64 x.colour,.int .i64 x.beam,.int .i64 x.delay]
@[simp] theorem Tim.bd (x:Tim):V.bd 0 x.v=true:=by simp[Tim.v,V.bd,V.bdL,bdL_map']
@[push_cast]theorem Tim.eta (x:Tim):(⟨x.up,x.down,x.posi,x.colour,x.beam,x.delay⟩:Tim)=x:=idq rfl
@[reducible] def Tim.vs (c:List Tim):V:=.sl (c.map Tim.v)
theorem Tim.he (x:Tim):x.v.cells.length=6:=rfl
structure Mov where
 prm:Prm
 val:Val
 part:Int
 deriving Inhabited,DecidableEq
@[reducible] def Mov.v (x:Mov):V:=.agg [.int .i64 x.prm.chan,.int .i64 x.prm.attr,.int .i64 x.val.pal,.int .i64 x.val.lev,.int .i64 x.part]
@[simp] theorem Mov.bd (x:Mov):V.bd 0 x.v=true:=by simp[Mov.v,V.bd,V.bdL,bdL_map']
@[push_cast]theorem Mov.eta (x:Mov):(⟨x.prm,x.val,x.part⟩:Mov)=x:=idq rfl
@[reducible] def Mov.vs (c:List Mov):V:=.sl (c.map Mov.v)
theorem Mov.he (x:Mov):x.v.cells.length=5:=rfl
structure Cu where
 num:List UInt8
 label:List UInt8
 moves:List Mov
 parts:List Tim
 block:Bool
 mark:Bool
 follow:Int
 link:List UInt8
 loops:Int
 deriving Inhabited,DecidableEq
@[reducible] def Cu.v (x:Cu):V:=.agg [.str x.num,.str x.label,.sl (x.moves.map Mov.v),.sl (x.parts.map Tim.v),.bool x.block,.bool x.mark,.int .i64 x.follow,.str x.link,.int .i64 x.loops]
@[simp] theorem Cu.bd (x:Cu):V.bd 0 x.v=true:=by simp[Cu.v,V.bd,V.bdL,bdL_map']
@[push_cast]theorem Cu.eta (x:Cu):(⟨x.num,x.label,x.moves,x.parts,x.block,x.mark,x.follow,x.link,x.loops⟩:Cu)=x:=idq rfl
@[reducible] def Cu.vs (c:List Cu):V:=.sl (c.map Cu.v)
theorem Cu.he (x:Cu):x.v.cells.length=9:=rfl
structure Lst where
 num:Int
 prio:Int
 cues:List Cu
 deriving Inhabited,DecidableEq
@[reducible] def Lst.v (x:Lst):V:=.agg [.int .i64 x.num,.int .i64 x.prio,.sl (x.cues.map Cu.v)]
@[simp] theorem Lst.bd (x:Lst):V.bd 0 x.v=true:=by simp[Lst.v,V.bd,V.bdL,bdL_map']
@[push_cast]theorem Lst.eta (x:Lst):(⟨x.num,x.prio,x.cues⟩:Lst)=x:=idq rfl
@[reducible] def Lst.vs (c:List Lst):V:=.sl (c.map Lst.v)
theorem Lst.he (x:Lst):x.v.cells.length=3:=rfl
structure Gan where
 prm:Prm
 lev:Int
 deriving Inhabited,DecidableEq
@[reducible] def Gan.v (x:Gan):V:=.agg [.int .i64 x.prm.chan,.int .i64 x.prm.attr,.int .i64 x.lev]
@[simp] theorem Gan.bd (x:Gan):V.bd 0 x.v=true:=by simp[Gan.v,V.bd,V.bdL,bdL_map']
@[push_cast]theorem Gan.eta (x:Gan):(⟨x.prm,x.lev⟩:Gan)=x:=idq rfl
@[reducible] def Gan.vs (c:List Gan):V:=.sl (c.map Gan.v)
theorem Gan.he (x:Gan):x.v.cells.length=3:=rfl
structure Sb where
 num:Int
 prio:Int
 inh:Bool
 gains:List Gan
 deriving Inhabited,DecidableEq
@[reducible] def Sb.v (x:Sb):V:=.agg [.int .i64 x.num,.int .i64 x.prio,.bool x.inh,.sl (x.gains.map Gan.v)]
@[simp] theorem Sb.bd (x:Sb):V.bd 0 x.v=true:=by simp[Sb.v,V.bd,V.bdL,bdL_map']
@[push_cast]theorem Sb.eta (x:Sb):(⟨x.num,x.prio,x.inh,x.gains⟩:Sb)=x:=idq rfl
@[reducible] def Sb.vs (c:List Sb):V:=.sl (c.map Sb.v)
theorem Sb.he (x:Sb):x.v.cells.length=4:=rfl
structure Eff where
 num:Int
 attr:Int
 wave:List Pt
 period:Int
 spread:Int
 size:Int
 deriving Inhabited,DecidableEq
@[reducible] def Eff.v (x:Eff):V:=.agg [.int .i64 x.num,.int .i64 x.attr,.sl (x.wave.map Pt.v),.int .i64 x.period,.int .i64 x.spread,.int .i64 x.size]
@[simp] theorem Eff.bd (x:Eff):V.bd 0 x.v=true:=by simp[Eff.v,V.bd,V.bdL,bdL_map']
@[push_cast]theorem Eff.eta (x:Eff):(⟨x.num,x.attr,x.wave,x.period,x.spread,x.size⟩:Eff)=x:=idq rfl
@[reducible] def Eff.vs (c:List Eff):V:=.sl (c.map Eff.v)
theorem Eff.he (x:Eff):x.v.cells.length=6:=rfl
structure Sho where
 title:List UInt8
 curves:List (List Pt)
 profs:List Prof
 fixts:List Fixt
 grps:List Grp
 pals:List Pal
 lsts:List Lst
 subs:List Sb
 effs:List Eff
 deriving Inhabited,DecidableEq
@[reducible] def Sho.v (x:Sho):V:=.agg [.str x.title,.sl (x.curves.map Pt.vs),.sl (x.profs.map Prof.v),.sl (x.fixts.map Fixt.v),.sl (x.grps.map Grp.v),.sl (x.pals.map Pal.v),.sl (x.lsts.map Lst.v),.sl (x.subs.map Sb.v),.sl (x.effs.map Eff.v)]
@[simp] theorem Sho.bd (x:Sho):V.bd 0 x.v=true:=by simp[Sho.v,V.bd,V.bdL,bdL_map']
@[push_cast]theorem Sho.eta (x:Sho):(⟨x.title,x.curves,x.profs,x.fixts,x.grps,x.pals,x.lsts,x.subs,x.effs⟩:Sho)=x:=idq rfl
@[reducible] def Sho.vs (c:List Sho):V:=.sl (c.map Sho.v)
theorem Sho.he (x:Sho):x.v.cells.length=9:=rfl
structure Ent where
 prm:Prm
 val:Val
 deriving Inhabited,DecidableEq
@[reducible] def Ent.v (x:Ent):V:=.agg [.int .i64 x.prm.chan,.int .i64 x.prm.attr,.int .i64 x.val.pal,.int .i64 x.val.lev]
@[simp] theorem Ent.bd (x:Ent):V.bd 0 x.v=true:=by simp[Ent.v,V.bd,V.bdL,bdL_map']
@[push_cast]theorem Ent.eta (x:Ent):(⟨x.prm,x.val⟩:Ent)=x:=idq rfl
@[reducible] def Ent.vs (c:List Ent):V:=.sl (c.map Ent.v)
theorem Ent.he (x:Ent):x.v.cells.length=4:=rfl
def isD (b:UInt8):Bool:=decide (48≤b.toNat)&&decide (b.toNat≤57)
def natOf (s:List UInt8):Nat:=s.foldl (fun n b=>10*n+(b.toNat-48)) 0
def hCut:List V→Option VRes
 |[.str s,.str [b]]=>if s.length<140737488355328 then some (.ret (.tup [.str (s.takeWhile (· != b)),.str ((s.dropWhile (· != b)).drop 1),.bool (s.contains b)])) else none
 |_=>none
def hSuf:List V→Option VRes
 |[.str s,.str t]=>if s.length<140737488355328∧t.length≤s.length+1000 then some (.ret (.bool (t.isSuffixOf s))) else none
 |_=>none
def hAny:List V→Option VRes
 |[.str s,.fn (.func 158) [] []]=>some (.ret (.bool (s.any (!isD ·))))
 |_=>none
def hAtoi:List V→Option VRes
 |[.str s]=>if s≠[]∧s.all isD=true∧s.length≤18 then some (.ret (.tup [.int .i64 (natOf s),.nili])) else none
 |_=>none
def okPV:V→Bool
 | .agg [.int .i64 c,.int .i64 a]=>decide (0≤c)&&decide (c≤999)&&decide (0≤a)&&decide (a≤14)
 |_=>false
def leV:V→V→Bool
 | .agg [.int .i64 a,.int .i64 b],.agg [.int .i64 c,.int .i64 d]=>!(decide (c<a)||(decide (c=a)&&decide (d<b)))
 |_,_=>true
def hSortA (st:St)(id n:Nat):Option Arr→Rt
 |some r=>if r.xs.length=n∧n≤100000000∧r.es=2∧r.wr=true∧r.xs.all okPV=true then some (.ret (.tup []),⟨st.nx,st.mem,updA st.arr id { r with xs:=r.xs.mergeSort leV },st.x⟩) else none
 |none=>none
def hSort:List V→St→Rt
 |[.osl id n,.fn (.func 82) [] []],st=>hSortA st id n (Sha.look st.arr id)
 |_,_=>none
def rdL {α:Type}(f:V→Option α):List V→Option (List α)
 |[]=>some []
 |v::r=>match f v,rdL f r with
  |some x,some l=>some (x::l)
  |_,_=>none
def rdMov:V→Option Mov
 | .agg [.int .i64 a,.int .i64 b,.int .i64 c,.int .i64 d,.int .i64 e]=>some ⟨⟨a,b⟩,⟨c,d⟩,e⟩
 |_=>none
def rdTim:V→Option Tim
 | .agg [.int .i64 a,.int .i64 b,.int .i64 c,.int .i64 d,.int .i64 e,.int .i64 f]=>some ⟨a,b,c,d,e,f⟩
 |_=>none
def rdCu:V→Option Cu
 | .agg [.str a,.str b,.sl ms,.sl ps,.bool c,.bool d,.int .i64 e,.str f,.int .i64 g]=>match rdL rdMov ms,rdL rdTim ps with
  |some l,some t=>some ⟨a,b,l,t,c,d,e,f,g⟩
  |_,_=>none
 |_=>none
def okP (x:Prm):Bool:=decide (0≤x.chan)&&decide (x.chan≤1000000)&&decide (0≤x.attr)&&decide (x.attr≤1000000)
def ltP (x y:Prm):Bool:=decide (x.chan<y.chan)||(decide (x.chan=y.chan)&&decide (x.attr<y.attr))
def okMs:List Mov→Bool
 |[]=>true
 |m::r=>okP m.prm&&r.all (fun n=>ltP m.prm n.prm)&&okMs r
def movF (l:List Mov)(q:Prm):Option Val:=(l.find? fun m=>decide (m.prm.chan=q.chan)&&decide (m.prm.attr=q.attr)).map (·.val)
def valF (l:List Cu)(q:Prm):Nat→Val
 |0=>(movF (l.getD 0 default).moves q).getD ⟨-1,0⟩
 |a+1=>match movF (l.getD (a+1) default).moves q with
  |some v=>v
  |none=>if(l.getD (a+1) default).block then⟨-1,0⟩ else valF l q a
def hVal:List V→Option VRes
 |[.agg [.int .i64 _,.int .i64 _,.sl cs],.int .i64 a,.agg [.int .i64 c,.int .i64 d]]=>match rdL rdCu cs with
  |some l=>if decide (0≤a)&&decide (a<l.length)&&decide (l.length≤1000000)&&okP ⟨c,d⟩&&l.all (fun x=>okMs x.moves&&decide (x.moves.length≤1000000)) then some (.ret (valF l ⟨c,d⟩ a.toNat).v) else none
  |none=>none
 |_=>none
def insK (a:List Prm)(p:Prm):List Prm:=if p∈a then a else a++[p]
def keyL (cs:List Cu)(a:List Prm):List Prm:=cs.foldl (fun a c=>(c.moves.map Mov.prm).foldl insK a) a
def insO (p:Prm):List Prm→List Prm
 |[]=>[p]
 |q::r=>if ltP q p=true then q::insO p r else p::q::r
def sortO:List Prm→List Prm
 |[]=>[]
 |p::r=>insO p (sortO r)
def ftpL (x:Lst):List Prm:=sortO (keyL x.cues [])
def ftpOk (l:List Cu):Bool:=decide (l.length≤64)&&l.all fun c=>decide (c.moves.length≤128)&&c.moves.all fun m=>okPV m.prm.v
def hFtp:List V→Option VRes
 |[.agg [.int .i64 n,.int .i64 p,.sl cs]]=>match rdL rdCu cs with
  |some l=>if ftpOk l=true then some (.ret (.sl ((ftpL ⟨n,p,l⟩).map Prm.v))) else none
  |none=>none
 |_=>none
def hSl (f:FuncId)(args:List V)(st:St):Rt:=bif Nat.beq f 45 then hCln 45 5 40 args st else bif Nat.beq f 66 then hIns 45 5 40 args st else bif Nat.beq f 112 then hSort args st else bif Nat.beq f 75 then hCln 42 4 32 args st else bif Nat.beq f 93 then hCln 30 9 120 args st else bif Nat.beq f 143 then hCln 161 6 48 args st else bif Nat.beq f 97 then hGrw 42 4 32 args st else none
def HH:EvF:=⟨[66,97,112],fun f args st=>bif memL f [45,66,75,93,97,112,143] then hSl f args st else(bif Nat.beq f 136 then hCut args else bif Nat.beq f 140 then hSuf args else bif Nat.beq f 157 then hAny args else bif Nat.beq f 178 then hAtoi args else bif Nat.beq f 69 then hVal args else bif Nat.beq f 68 then hFtp args else none).map fun r=>(r,st)⟩
@[push_cast]theorem HH_raw:HH.raw=[66,97,112]:=idq rfl
end Go.Proofs.YtdnpaifeoinjoaaGreatDoor

namespace Go.Proofs.YtdnpaifeoinjoaaGreatDoor
open Go.Sha
def ix {α:Type}(p:α→Bool):List α→Nat→Int
 |[],_=>-1
 |x::r,j=>if p x=true then j else ix p r (j+1)
theorem ix_ge {α:Type}{p:α→Bool}:∀{l:List α}{j:Nat},(0≤ix p l j)=(l.any p=true)
 |[],j=>by simp[ix]
 |x::r,j=>by
  unfold ix
  by_cases h:p x=true
  ·simp[h]
  ·simp[h,ix_ge (l:=r)]
variable {g:List (Nat×Obj)}
def IxB (es : Nat)(n : Option Nat) : Cd := (.g [.s 9 (.bin .lss (.t 8) (.t 7))]
 (.join [0, 1, 7, 8] (.i 9 .skip (.exit [] 0))
 (.join [0, 1, 7, 8] (.block 1 (.g [.s 10 (.m 8), .s 5 (.m 10)]
 (.g [.s 11 (.m 1), .s 12 (.m 0), .s 13 (.m 5), .s 14 (.iadr es (.t 12) (.t 13)), .s 15 (.load n (.t 14)), .s 16 (.call (.t 11) [(.t 15)])]
 (.i 16 (.g [.s 17 (.m 5), .s 4 (.m 17)] (.ret [4])) .skip))))
 (.reg [.s 18 (.bin .add (.t 8) (.i 1)), .s 8 (.m 18)]))))
def IxC (es : Nat)(n : Option Nat) : Cd := (.g [.s 4 (.mv (.i 0))]
 (.join [] (.g [.s 6 (.m 0), .s 7 (.len (.t 6)), .s 8 (.mv (.i 0))]
 (.block 0 (.loop [0, 1, 7, 8] [] (IxB es n))))
 (.g [.s 4 (.mv (.i (-1)))] (.ret [4]))))
theorem IxL {α:Type}[Inhabited α]{f:α→V}{es:Nat}{n:Option Nat}{h:FuncId}{caps:List V}{p:α→Bool}{l:List α}{st:St}(he:∀x,(f x).cells.length=es)(hr:∀x,rd n (f x).cells 0=some (f x))
  (hl:l.length<140737488355328) (hp:∀x∈l,run Tryz.prog HH h (f x::caps) st=some (.ret (.bool (p x)),st)) (hs:∀x,(snapA st (f x)).getD (f x)=f x) (hc:caps.map (fun v=>(snapA st v).getD v)=caps) (hk0:(decide (66=h)||(decide (97=h)||decide (112=h)))=false) :
  ∀r j,l.drop j=r→runL Tryz.prog HH [0,1,7,8] st.nx (IxB es n) [(0,.sl (l.map f)),(1,.fn (.func h) [] caps),(7,.int .i64 l.length),(8,.int .i64 j)] st=lpI st [] 4 (ix p r j):=by
 refine drop_ind (fun j h=>?_) (fun x r j h hx hd ih=>?_)
 all_goals rw[runL_of (IxB.eq_1 _ _)]
 ·have h1:¬(j:Int)<l.length:=by omega
  push_cast[h1,ix]
 ·have h1:(j:Int)<l.length:=by omega
  have hw:=iw1 (j:=j) (by omega)
  have hm:=hp x (by rw[←hx default];simp[List.getD_eq_getElem?_getD,List.getElem?_eq_getElem h])
  push_cast[h1,hw,hx,he,hr,loadV,hs,hc,hm,hk0]at ih ⊢
  simp only[ih,ix,lpI_ite,lpI_n]
theorem IxF {α:Type}[Inhabited α]{f:α→V}{es:Nat}{n:Option Nat}{h k:FuncId}{caps:List V}{p:α→Bool}{l:List α}{st:St}(he:∀x,(f x).cells.length=es)(hr:∀x,rd n (f x).cells 0=some (f x))
  (hF:compF Tryz.prog k=some ⟨19,[.tmp 4],IxC es n⟩) (hH:HH k [.sl (l.map f),.fn (.func h) [] caps] st=none) (hb:V.bdL 0 [.sl (l.map f),.fn (.func h) [] caps]=true)
  (hl:l.length<140737488355328) (hp:∀x∈l,∀st,run Tryz.prog HH h (f x::caps) st=some (.ret (.bool (p x)),st)) (hs:∀st x,(snapA st (f x)).getD (f x)=f x) (hc:∀st,caps.map (fun v=>(snapA st v).getD v)=caps) (hk0:(decide (66=h)||(decide (97=h)||decide (112=h)))=false:=by rfl) :
  run Tryz.prog HH k [.sl (l.map f),.fn (.func h) [] caps] st=some (.ret (.int .i64 (ix p l 0)),st):=by
 rw[run_shut hF hH rfl hb]
 unfold IxC
 have hL:=fun g n=>IxL (st:=stN g n) he hr hl (fun x hx=>hp x hx _) (hs _) (hc _) hk0 l 0 rfl
 push_cast at hL
 push_cast[hL,lpI]
end Go.Proofs.YtdnpaifeoinjoaaGreatDoor

namespace Go.Proofs.YtdnpaifeoinjoaaGreatDoor
open Go.Sha
variable {g:List (Nat×Obj)}{n:Nat}
theorem anyC {α:Type}{p:α→Bool}{x:α}{r:List α}:(x::r).any p=if p x=true then true else r.any p:=by rw[List.any_cons];cases p x<;>rfl
end Go.Proofs.YtdnpaifeoinjoaaGreatDoor

namespace Go.Proofs.YtdnpaifeoinjoaaGreatDoor
open Go.Sha
variable {g:List (Nat×Obj)}{n:Nat}
abbrev lvl (v:Int):Prop:=0≤v∧v≤65535
end Go.Proofs.YtdnpaifeoinjoaaGreatDoor

namespace Go.Proofs.YtdnpaifeoinjoaaGreatDoor
open Go.Sha
set_option maxRecDepth 10000
def B118_0:Cd:=(.g [.b 23 .lss 22 21] (.join [0,3,20,21,22] (.i 23 .skip (.exit [0,3] 0)) (.join [0,3,20,21,22] (.block 1 (.g [.r 24 1 20 22,.l 25 24,.m 6 25] (.g [.m 26 6,.s 27 (.call (.t 26) []),.z 28 27] (.i 28 (.g [.c 2 3] (.ret [2])) .skip)))) (.reg [.v 29 .add 22 1,.m 22 29]))))
theorem F118:compF Tryz.prog 118=some ⟨44,[.tmp 2],(.g [.c 2 0] (.g [.s 3 (.alloc 167 [(.str []),(.str []),(.bool false)])] (.g [.m 8 0,.s 9 (.f 136 [.t 8,(.w [46])]),.m 7 9,.j 10 0 7,.j 11 1 7,.j 12 2 7,.a 13 0 3,.w 1 13 10,.a 14 1 3,.w 1 14 11,.a 15 2 3,.w 1 15 12] (.g [.s 16 (.mkfn (.func 137) [] [.t 3]),.s 17 (.mkfn (.func 139) [] [.t 3]),.s 18 (.mkfn (.func 141) [] [.t 3]),.s 19 (.bslice 26 1 [.t 16,.t 17,.t 18]),.m 4 19] (.join [0,3] (.g [.m 20 4,.u 21 20,.c 22 0] (.block 0 (.loop [0,3,20,21,22] [] B118_0))) (.join [] (.join [43] (.reg [.m 30 0,.s 31 (.bin .eql (.t 30) (.w [48])),.m 32 31,.ax 33 0 3 32,.lx 34 33 32,.x 35 (.lens (.t 34)) 32,.vx 36 .gtr 35 4 32,.o 37 32 36,.m 38 37,.ax 39 1 3 38,.lx 40 39 38,.x 41 (.lens (.t 40)) 38,.vx 42 .gtr 41 3 38,.o 43 38 42]) (.i 43 (.g [.c 2 2] (.ret [2])) .skip)) (.g [.c 2 0] (.ret [2]))))))))⟩:=by kernel_rfl
theorem F137:compF Tryz.prog 137=some ⟨5,[.tmp 1],(.g [.k 1 false] (.g [.a 2 0 0,.l 3 2,.f 4 138 3,.m 1 4] (.ret [1])))⟩:=by kernel_rfl
theorem F139:compF Tryz.prog 139=some ⟨16,[.tmp 1],(.g [.k 1 false] (.join [1] (.reg [.a 2 2 0,.l 3 2,.z 4 3,.m 5 4,.ax 6 1 0 5,.lx 7 6 5,.x 8 (.f 138 [.t 7]) 5,.mx 9 8 5,.ay 10 1 0 9,.ly 11 10 9,.y 12 (.f 140 [.t 11,(.w [48])]) 9,.y 13 (.un .not (.t 12)) 9,.x 14 (.pick (.t 9) (.t 13) (.c (.bool false))) 5,.o 15 5 14,.m 1 15]) (.ret [1])))⟩:=by kernel_rfl
theorem F141:compF Tryz.prog 141=some ⟨12,[.tmp 1],(.g [.k 1 false] (.join [1] (.reg [.a 2 0 0,.l 3 2,.s 4 (.lens (.t 3)),.v 5 .eql 4 1,.m 6 5,.ax 7 0 0 6,.lx 8 7 6,.x 9 (.ichr (.t 8) (.i 0)) 6,.x 10 (.bin .neq (.t 9) (.c (.int .u8 48))) 6,.o 11 6 10,.m 1 11]) (.ret [1])))⟩:=by kernel_rfl
theorem F138:compF Tryz.prog 138=some ⟨10,[.tmp 2],(.g [.k 2 false] (.join [2] (.reg [.m 3 0,.s 4 (.bin .neq (.t 3) (.w [])),.m 5 4,.my 6 0 5,.y 7 (.f 157 [.t 6,(.c (.fn (.func 158) [] []))]) 5,.y 8 (.un .not (.t 7)) 5,.e 9 5 8,.m 2 9]) (.ret [2])))⟩:=by kernel_rfl
theorem F155:compF Tryz.prog 155=some ⟨27,[.tmp 4,.tmp 5],(.g [.c 4 0,.c 5 0] (.g [.m 10 0,.m 11 1,.g' 12 165 10 11,.m 9 12,.j 13 0 9,.j 14 1 9,.j 15 2 9,.m 6 13,.m 7 14,.m 8 15] (.join [8] (.block 0 (.g [.m 17 6,.m 18 7,.b 19 .lss 17 18,.m 16 19] (.i 16 (.g [.m 20 8,.c 4 (-1),.m 5 20] (.ret [4,5])) (.g [.m 22 6,.m 23 7,.b 24 .gtr 22 23,.m 21 24] (.i 21 (.g [.m 25 8,.c 4 1,.m 5 25] (.ret [4,5])) .skip))))) (.g [.m 26 8,.c 4 0,.m 5 26] (.ret [4,5])))))⟩:=by kernel_rfl
theorem F165:compF Tryz.prog 165=some ⟨28,[.tmp 4,.tmp 5,.tmp 6],(.g [.c 4 0,.c 5 0,.c 6 0] (.g [.m 11 0,.f 12 169 11,.m 10 12,.j 13 0 10,.j 14 1 10,.m 7 13,.m 8 14] (.join [1,7] (.g [.m 15 8,.v 16 .neq 15 0] (.i 16 (.g [.m 17 8,.c 4 0,.c 5 0,.m 6 17] (.ret [4,5,6])) .skip)) (.g [.m 19 1,.f 20 169 19,.m 18 20,.j 21 0 18,.j 22 1 18,.m 9 21,.m 8 22] (.join [7,9] (.g [.m 23 8,.v 24 .neq 23 0] (.i 24 (.g [.m 25 8,.c 4 0,.c 5 0,.m 6 25] (.ret [4,5,6])) .skip)) (.g [.m 26 7,.m 27 9,.m 4 26,.m 5 27,.c 6 0] (.ret [4,5,6])))))))⟩:=by kernel_rfl
theorem F169:compF Tryz.prog 169=some ⟨12,[.tmp 2,.tmp 3],(.g [.c 2 0,.c 3 0] (.join [0] (.g [.m 5 0,.f 6 118 5,.m 4 6] (.g [.m 7 4,.v 8 .neq 7 0] (.i 8 (.g [.m 9 4,.c 2 0,.m 3 9] (.ret [2,3])) .skip))) (.g [.m 10 0,.f 11 175 10,.m 2 11,.c 3 0] (.ret [2,3]))))⟩:=by kernel_rfl
theorem F175:compF Tryz.prog 175=some ⟨24,[.tmp 2],(.g [.c 2 0] (.g [.m 9 0,.s 10 (.f 136 [.t 9,(.w [46])]),.m 8 10,.j 11 0 8,.j 12 1 8,.j 13 2 8,.m 3 11,.m 4 12,.m 5 13] (.g [.m 15 3,.m 16 4,.s 17 (.bin .add (.t 16) (.w [48,48,48])),.s 18 (.slices (.t 17) none (some (.i 3))),.b 19 .add 15 18,.f 20 178 19,.m 14 20,.j 21 0 14,.j 22 1 14,.m 6 21,.m 7 22] (.g [.m 23 6,.m 2 23] (.ret [2])))))⟩:=by kernel_rfl
theorem F100:compF Tryz.prog 100=some ⟨54,[.tmp 2],(.g [.c 2 0] (.g [.m 7 0,.f 8 126 7,.m 6 8,.j 9 0 6,.j 10 1 6,.j 11 2 6,.m 3 9,.m 4 10,.m 5 11] (.join [0,3,4,5] (.join [0,3,4,5,22] (.reg [.m 12 3,.f 13 127 12,.z 14 13,.m 15 14,.mx 16 5 15,.mx 17 16 15,.my 18 4 17,.y 19 (.f 127 [.t 18]) 17,.y 20 (.un .not (.t 19)) 17,.x 21 (.pick (.t 17) (.t 20) (.c (.bool false))) 15,.o 22 15 21]) (.i 22 (.g [.c 2 3] (.ret [2])) .skip)) (.join [0,3,4] (.join [0,3,4,41] (.reg [.m 23 3,.s 24 (.lens (.t 23)),.v 25 .gtr 24 1,.m 26 25,.my 27 3 26,.y 28 (.ichr (.t 27) (.i 0)) 26,.y 29 (.bin .eql (.t 28) (.c (.int .u8 48))) 26,.e 30 26 29,.m 31 30,.mx 32 5 31,.mx 33 32 31,.my 34 4 33,.my 35 4 33,.y 36 (.lens (.t 35)) 33,.vy 37 .sub 36 1 33,.y 38 (.ichr (.t 34) (.t 37)) 33,.y 39 (.bin .eql (.t 38) (.c (.int .u8 48))) 33,.x 40 (.pick (.t 33) (.t 39) (.c (.bool false))) 31,.o 41 31 40]) (.i 41 (.g [.c 2 3] (.ret [2])) .skip)) (.join [] (.join [53] (.reg [.m 42 0,.s 43 (.bin .eql (.t 42) (.w [48])),.m 44 43,.mx 45 3 44,.x 46 (.lens (.t 45)) 44,.vx 47 .gtr 46 4 44,.o 48 44 47,.m 49 48,.mx 50 4 49,.x 51 (.lens (.t 50)) 49,.vx 52 .gtr 51 3 49,.o 53 49 52]) (.i 53 (.g [.c 2 2] (.ret [2])) .skip)) (.g [.c 2 0] (.ret [2])))))))⟩:=by kernel_rfl
def B126_0:Cd:=(.join [0,5] (.g [.m 6 5,.m 7 0,.s 8 (.lens (.t 7)),.b 9 .lss 6 8] (.i 9 .skip (.exit [0] 0))) (.join [0,5] (.block 1 (.g [.m 12 0,.m 13 5,.s 14 (.ichr (.t 12) (.t 13)),.s 15 (.bin .eql (.t 14) (.c (.int .u8 46)))] (.i 15 (.q (.dreg 10 [.m 16 0,.m 17 5,.s 18 (.slices (.t 16) none (some (.t 17))),.m 19 0,.m 20 5,.v 21 .add 20 1,.s 22 (.slices (.t 19) (some (.t 21)) none),.m 2 18,.m 3 22,.k 4 true]) (.ret [2,3,4])) .skip))) (.reg [.m 10 5,.v 11 .add 10 1,.m 5 11])))
theorem F126:compF Tryz.prog 126=some ⟨24,[.tmp 2,.tmp 3,.tmp 4],(.g [.s 2 (.mv (.w [])),.s 3 (.mv (.w [])),.k 4 false] (.join [0] (.g [.c 5 0] (.block 0 (.loop [0,5] [] B126_0))) (.g [.m 23 0,.m 2 23,.s 3 (.mv (.w [])),.k 4 false] (.ret [2,3,4]))))⟩:=by kernel_rfl
def B127_0:Cd:=(.join [0,3] (.g [.m 4 3,.m 5 0,.s 6 (.lens (.t 5)),.b 7 .lss 4 6] (.i 7 .skip (.exit [0] 0))) (.join [0,3] (.block 1 (.join [0,3,19] (.reg [.m 10 0,.m 11 3,.s 12 (.ichr (.t 10) (.t 11)),.s 13 (.bin .lss (.t 12) (.c (.int .u8 48))),.m 14 13,.mx 15 0 14,.mx 16 3 14,.x 17 (.ichr (.t 15) (.t 16)) 14,.x 18 (.bin .gtr (.t 17) (.c (.int .u8 57))) 14,.o 19 14 18]) (.i 19 (.g [.k 2 false] (.ret [2])) .skip))) (.reg [.m 8 3,.v 9 .add 8 1,.m 3 9])))
theorem F127:compF Tryz.prog 127=some ⟨23,[.tmp 2],(.g [.k 2 false] (.join [0] (.g [.c 3 0] (.block 0 (.loop [0,3] [] B127_0))) (.g [.m 20 0,.s 21 (.lens (.t 20)),.v 22 .gtr 21 0,.m 2 22] (.ret [2]))))⟩:=by kernel_rfl
theorem F61:compF Tryz.prog 61=some ⟨17,[.tmp 4],(.g [.c 4 0] (.g [.m 7 0,.f 8 105 7,.m 9 1,.f 10 105 9,.m 5 8,.m 6 10] (.join [5,6] (.g [.m 11 5,.m 12 6,.b 13 .lss 11 12] (.i 13 (.g [.c 4 (-1)] (.ret [4])) .skip)) (.join [] (.g [.m 14 5,.m 15 6,.b 16 .gtr 14 15] (.i 16 (.g [.c 4 1] (.ret [4])) .skip)) (.g [.c 4 0] (.ret [4]))))))⟩:=by kernel_rfl
def B105_0:Cd:=(.join [3,4,6,7] (.g [.m 15 7,.m 16 3,.s 17 (.lens (.t 16)),.b 18 .lss 15 17] (.i 18 .skip (.exit [4,6] 0))) (.join [3,4,6,7] (.block 1 (.reg [.m 21 6,.s 22 (.bin .mul (.i 10) (.t 21)),.m 23 3,.m 24 7,.s 25 (.ichr (.t 23) (.t 24)),.s 26 (.bin .sub (.t 25) (.c (.int .u8 48))),.s 27 (.cvi .i64 (.t 26)),.b 28 .add 22 27,.m 6 28])) (.reg [.m 19 7,.v 20 .add 19 1,.m 7 20])))
def B105_1:Cd:=(.join [4,6,8] (.g [.m 29 8,.v 30 .lss 29 3] (.i 30 .skip (.exit [6] 2))) (.join [4,6,8] (.block 3 (.g [.m 33 6,.s 34 (.bin .mul (.i 10) (.t 33)),.m 6 34] (.g [.m 35 8,.m 36 4,.s 37 (.lens (.t 36)),.b 38 .lss 35 37] (.i 38 (.reg [.m 39 6,.m 40 4,.m 41 8,.s 42 (.ichr (.t 40) (.t 41)),.s 43 (.bin .sub (.t 42) (.c (.int .u8 48))),.s 44 (.cvi .i64 (.t 43)),.b 45 .add 39 44,.m 6 45]) .skip)))) (.reg [.m 31 8,.v 32 .add 31 1,.m 8 32])))
theorem F105:compF Tryz.prog 105=some ⟨47,[.tmp 2],(.g [.c 2 0] (.g [.m 10 0,.f 11 126 10,.m 9 11,.j 12 0 9,.j 13 1 9,.j 14 2 9,.m 3 12,.m 4 13,.m 5 14] (.g [.c 6 0] (.join [4,6] (.g [.c 7 0] (.block 0 (.loop [3,4,6,7] [] B105_0))) (.join [6] (.g [.c 8 0] (.block 2 (.loop [4,6,8] [] B105_1))) (.g [.m 46 6,.m 2 46] (.ret [2])))))))⟩:=by kernel_rfl
end Go.Proofs.YtdnpaifeoinjoaaGreatDoor

namespace Go.Proofs.YtdnpaifeoinjoaaGreatDoor
open Go.Sha
set_option maxRecDepth 10000
variable {g:List (Nat×Obj)}{n:Nat}
def nW (s:List UInt8):List UInt8:=s.takeWhile (· != 46)
def nR (s:List UInt8):List UInt8:=(s.dropWhile (· != 46)).drop 1
theorem h259 {s:List UInt8}(hl:s.length<140737488355328){st:St}:run Tryz.prog HH 136 [.str s,.str [46]] st=some (.ret (.tup [.str (nW s),.str (nR s),.bool (s.contains 46)]),st):=run_H (by
 show(hCut [.str s,.str [46]]).map _=_
 rw[hCut,if_pos hl];rfl)
theorem h263 {s t:List UInt8}(hl:s.length<140737488355328)(ht:t.length≤1000){st:St}:run Tryz.prog HH 140 [.str s,.str t] st=some (.ret (.bool (t.isSuffixOf s)),st):=run_H (by
 show(hSuf [.str s,.str t]).map _=_
 rw[hSuf,if_pos ⟨hl,by omega⟩];rfl)
theorem h279 {s:List UInt8}{st:St}:run Tryz.prog HH 157 [.str s,.fn (.func 158) [] []] st=some (.ret (.bool (s.any (!isD ·))),st):=run_H rfl
def digB (s:List UInt8):Bool:=decide (¬s=[])&&!(s.any (!isD ·))
theorem f138 {s:List UInt8}{st:St}:run Tryz.prog HH 138 [.str s] st=some (.ret (.bool (digB s)),st):=by
 rw[run_shut F138 rfl rfl (by simp)]
 push_cast[h279,digB]
 all_goals first|with_reducible rfl|exact dn_eq (by omega) (by with_reducible rfl)|((repeat' split)<;>(try simp_all)<;>(try (with_reducible refine dn_eq ?_ ?_<;>first|trivial|omega|rfl))<;>(try omega))
def numC (s:List UInt8):Int:=if digB (nW s)=false then 3 else if(!s.contains 46||digB (nR s)&&![48].isSuffixOf (nR s))=false then 3 else if(decide (((nW s).length:Int)=1)||(((nW s).getD 0 0).toNat:Int) != 48)=false then 3 else if s=[48]∨4<((nW s).length:Int)∨3<((nR s).length:Int) then 2 else 0
theorem digB_len {s:List UInt8}(h:¬digB s=false):0<s.length:=by cases s<;>simp_all [digB]
theorem nR_le {s:List UInt8}:(nR s).length≤s.length:=by
 have:=(List.dropWhile_sublist (p:=(· != 46)) (l:=s)).length_le
 simp only[nR,List.length_drop];omega
theorem f118 {s:List UInt8}(hl:s.length<140737488355328){st:St}:run Tryz.prog HH 118 [.str s] st=some (.ret (.int .i64 (numC s)),st):=by
 have h259:=fun(st:St)=>h259 (st:=st) hl
 have h263:=fun(st:St)=>h263 (s:=nR s) (t:=[48]) (st:=st) (by have:=nR_le (s:=s);omega) (by decide)
 rw[run_shut F118 rfl rfl (by simp)]
 push_cast[h259,h263,f138,(fun(a0:V) (st:St) (h:V.bdL 0 [a0]=false)=>run_open (P:=Tryz.prog) (H:=HH) (args:=[a0]) (st:=st) F137 rfl rfl h),(fun(a0:V) (st:St) (h:V.bdL 0 [a0]=false)=>run_open (P:=Tryz.prog) (H:=HH) (args:=[a0]) (st:=st) F139 rfl rfl h),(fun(a0:V) (st:St) (h:V.bdL 0 [a0]=false)=>run_open (P:=Tryz.prog) (H:=HH) (args:=[a0]) (st:=st) F141 rfl rfl h),runL_of (B118_0.eq_1),numC]
 exact dn_eq (fun h _ _=>by have:=digB_len h;omega) rfl
theorem take_w {p:UInt8→Bool}:∀{s:List UInt8},s.take (s.takeWhile p).length=s.takeWhile p
 |[]=>rfl
 |b::r=>by by_cases h:p b=true<;>simp[List.takeWhile_cons,h,take_w (s:=r)]
theorem drop_w {p:UInt8→Bool}:∀{s:List UInt8},s.drop (s.takeWhile p).length=s.dropWhile p
 |[]=>rfl
 |b::r=>by by_cases h:p b=true<;>simp[List.takeWhile_cons,List.dropWhile_cons,h,drop_w (s:=r)]
theorem L126 {s:List UInt8}(hl:s.length<140737488355328):∀r j,s.drop j=r→runL Tryz.prog HH [0,5] n B126_0 [(0,.str s),(5,.int .i64 j)] (stN g n)=if r.contains 46=true then some (.ret,[(2,.str (s.take (j+(nW r).length))),(3,.str (s.drop (j+(nW r).length+1))),(4,.bool true)],stN g n) else some (.exit 0,[(0,.str s)],stN g n):=by
 refine drop_ind (fun j h=>?_) (fun q r j h hx hd ih=>?_)
 all_goals rw[runL_of B126_0.eq_1]
 ·have h1:¬(j:Int)<s.length:=by omega
  push_cast[h1,List.contains_nil]
 ·have h1:(j:Int)<s.length:=by omega
  have hw:=iw1 (j:=j) (by omega)
  push_cast[h1,hw,hx]at ih ⊢
  refine dn_eq (fun _=>by omega) ?_
  by_cases hq:q=46
  ·subst hq;simp[show((j:Int)+1).toNat=j+1 by omega,nW]
  ·have h2:¬((q.toNat:Int)=46):=fun e=>hq (UInt8.toNat_inj.1 (by simpa using Int.ofNat_inj.1 e))
   have h3:∀n,j+1+n=j+(n+1):=fun n=>by omega
   rw[if_neg h2,ih]
   simp[hq,Ne.symm hq,List.contains_cons,nW,h3,List.takeWhile_cons]
theorem n_none:∀{s:List UInt8},s.contains 46=false→nW s=s∧nR s=[]
 |[],_=>⟨rfl,rfl⟩
 |b::r,h=>by
  have hb:(b != 46)=true:=by simp at h ⊢;exact fun e=>h.1 e.symm
  have hr:r.contains 46=false:=by simp at h ⊢;exact h.2
  have:=n_none hr
  simp only[nW,nR,List.takeWhile_cons,List.dropWhile_cons,hb,if_true]at this ⊢
  exact⟨by rw[this.1],this.2⟩
theorem f126 {s:List UInt8}(hl:s.length<140737488355328){st:St}:run Tryz.prog HH 126 [.str s] st=some (.ret (.tup [.str (nW s),.str (nR s),.bool (s.contains 46)]),st):=by
 rw[run_shut F126 rfl rfl (by simp)]
 have hL0:=fun n=>L126 (g:=st.x.gl) (n:=n) hl _ 0 rfl
 push_cast at hL0
 push_cast[hL0]
 cases h:s.contains 46 with
 |true=>simp[nW,nR,take_w,←List.drop_drop,drop_w]
 |false=>simp[n_none h]
theorem isD_i {q:UInt8}:(isD q=false)=((q.toNat:Int)<48∨57<(q.toNat:Int)):=by simp only[isD,Bool.and_eq_false_iff,decide_eq_false_iff_not,eq_iff_iff];omega
theorem L127 {s:List UInt8}(hl:s.length<140737488355328):∀r j,s.drop j=r→runL Tryz.prog HH [0,3] n B127_0 [(0,.str s),(3,.int .i64 j)] (stN g n)=lpB (stN g n) [(0,.str s)] 2 (r.any (!isD ·)) false:=by
 refine drop_ind (fun j h=>?_) (fun q r j h hx hd ih=>?_)
 all_goals rw[runL_of B127_0.eq_1]
 ·have h1:¬(j:Int)<s.length:=by omega
  push_cast[h1,anyC,List.any_nil,Bool.not_eq_true',isD_i]
 ·have h1:(j:Int)<s.length:=by omega
  have hw:=iw1 (j:=j) (by omega)
  push_cast[h1,hw,hx]at ih ⊢
  simp only[ih,anyC,List.any_nil,Bool.not_eq_true',isD_i,lps,Int.reduceEq,not_false_eq_true]
  all_goals first|with_reducible rfl|exact dn_eq (by omega) (by with_reducible rfl)|((repeat' split)<;>(try simp_all)<;>(try (with_reducible refine dn_eq ?_ ?_<;>first|trivial|omega|rfl))<;>(try omega))
theorem f127 {s:List UInt8}(hl:s.length<140737488355328){st:St}:run Tryz.prog HH 127 [.str s] st=some (.ret (.bool (digB s)),st):=by
 rw[run_shut F127 rfl rfl (by simp)]
 have hL0:=fun n=>L127 (g:=st.x.gl) (n:=n) hl _ 0 rfl
 push_cast at hL0
 push_cast[hL0,lpB]
 cases s<;>simp[digB]
def vwL:List UInt8→Int→Int
 |[],n=>n
 |b::r,n=>vwL r (IntKind.i64.wrap (IntKind.i64.wrap (10*n)+IntKind.i64.wrap (IntKind.u8.wrap ((b.toNat:Int)-48))))
theorem L105 {s:List UInt8}{v:V}(hl:s.length<140737488355328):∀r j,s.drop j=r→∀m,runL Tryz.prog HH [3,4,6,7] n B105_0 [(3,.str s),(4,v),(6,.int .i64 m),(7,.int .i64 j)] (stN g n)=some (.exit 0,[(4,v),(6,.int .i64 (vwL r m))],stN g n):=by
 refine drop_ind (fun j h m=>?_) (fun q r j h hx hd ih m=>?_)
 all_goals rw[runL_of B105_0.eq_1]
 ·have h1:¬(j:Int)<s.length:=by omega
  push_cast[h1,vwL]
 ·have h1:(j:Int)<s.length:=by omega
  have hw:=iw1 (j:=j) (by omega)
  push_cast[h1,hw,hx]at ih ⊢
  simp only[ih,vwL]
theorem nW_len {s:List UInt8}(hl:s.length<140737488355328):(nW s).length<140737488355328:=Nat.lt_of_le_of_lt (List.takeWhile_prefix _).length_le hl
theorem nR_len {s:List UInt8}(hl:s.length<140737488355328):(nR s).length<140737488355328:=by
 have:=(List.dropWhile_suffix (l:=s) (· != (46:UInt8))).length_le
 simp only[nR,List.length_drop];omega
def nxV (r:List UInt8)(k:Nat)(n:Int):Int:=if(k:Int)<(r.length:Int) then IntKind.i64.wrap (IntKind.i64.wrap (10*n)+IntKind.i64.wrap (IntKind.u8.wrap (((r.getD k 0).toNat:Int)-48))) else IntKind.i64.wrap (10*n)
def refV (s:List UInt8):Int:=nxV (nR s) 2 (nxV (nR s) 1 (nxV (nR s) 0 (vwL (nW s) 0)))
theorem f105 {s:List UInt8}(hl:s.length<140737488355328){st:St}:run Tryz.prog HH 105 [.str s] st=some (.ret (.int .i64 (refV s)),st):=by
 rw[run_shut F105 rfl rfl (by simp)]
 have hL0:=fun v m n=>L105 (g:=st.x.gl) (n:=n) (v:=v) (nW_len hl) _ 0 rfl m
 push_cast at hL0
 push_cast[f126 hl,hL0,runL_of B105_1.eq_1]
 exact dn_eq (by omega) rfl
theorem f61 {s t:List UInt8}(hl:s.length<140737488355328)(hk:t.length<140737488355328){st:St}:run Tryz.prog HH 61 [.str s,.str t] st=some (.ret (.int .i64 (if refV s<refV t then -1 else if refV t<refV s then 1 else 0)),st):=by
 rw[run_shut F61 rfl rfl (by simp)]
 push_cast[f105 hl,f105 hk]
 all_goals first|with_reducible rfl|exact dn_eq (by omega) (by with_reducible rfl)|((repeat' split)<;>(try simp_all)<;>(try (with_reducible refine dn_eq ?_ ?_<;>first|trivial|omega|rfl))<;>(try omega))
theorem suf_last {r:List UInt8}(h:¬r=[]):[48].isSuffixOf r=(((r.getD (r.length-1) 0).toNat:Int) == 48):=by
 obtain⟨a,b,rfl⟩:=(List.eq_nil_or_concat r).resolve_left h
 have h48:∀c:UInt8,(((c.toNat:Int)) == 48)=(48 == c):=fun c=>by
  rw[Bool.eq_iff_iff,beq_iff_eq,beq_iff_eq]
  exact⟨fun e=>UInt8.toNat_inj.1 (by simpa using(Int.ofNat_inj.1 e).symm),fun e=>by rw[←e];rfl⟩
 simp[List.isSuffixOf,h48,List.isPrefixOf]
theorem f100 {s:List UInt8}(hl:s.length<140737488355328){st:St}:run Tryz.prog HH 100 [.str s] st=some (.ret (.int .i64 (numC s)),st):=by
 have h3:=nR_len hl
 rw[run_shut F100 rfl rfl (by simp)]
 push_cast[f126 hl,f127 (nW_len hl),f127 (nR_len hl),iwrap_pred (nR_len hl)]
 refine dn_eq (fun h=>?_) ?_
 ·have h4:s.contains 46=true→0<(nR s).length:=fun e=>by
   by_cases hd:digB (nR s)=false
   ·exact absurd (.inr ⟨e,hd⟩) h
   ·exact digB_len hd
  exact⟨fun _ e=>by have:=h4 e;omega,fun h1=>⟨by omega,fun _ e=>by have:=h4 e;omega⟩⟩
 ·congr 4
  unfold numC
  cases h1:digB (nW s) with
  |false=>simp
  |true =>
   have hw:=digB_len (by simp[h1]:¬digB (nW s)=false)
   have e1:((1:Int)<(nW s).length)=¬((nW s).length:Int)=1:=propext (by omega)
   cases h2:s.contains 46 with
   |false =>
    simp[e1]
   |true =>
    cases h5:digB (nR s) with
    |false=>simp
    |true =>
     rw[suf_last (by rintro e;rw[e]at h5;simp[digB]at h5)]
     simp only[e1]
     generalize (((nR s).getD ((nR s).length-1) 0).toNat:Int)=x
     generalize (((nW s).getD 0 0).toNat:Int)=y
     by_cases p1:((nW s).length:Int)=1<;>by_cases p2:x=48<;>by_cases p3:y=48<;>simp[p1,p2,p3]
theorem h308 {s:List UInt8}{st:St}(h:s≠[]∧s.all isD=true∧s.length≤18):run Tryz.prog HH 178 [.str s] st=some (.ret (.tup [.int .i64 (natOf s),.nili]),st):=run_H (congrArg (Option.map fun r=>(r,st)) (show hAtoi [.str s]=some (.ret (.tup [.int .i64 (natOf s),.nili])) from if_pos h))
abbrev numS (s:List UInt8):List UInt8:=nW s++(nR s++[48,48,48]).take 3
theorem digB_all {s:List UInt8}(h:digB s=true):∀b∈s,isD b=true:=by
 simp only[digB,Bool.and_eq_true,Bool.not_eq_true',List.any_eq_false]at h
 intro b hb;have:=h.2 b hb;simpa using this
theorem numS_ok {s:List UInt8}(h:numC s=0):numS s≠[]∧(numS s).all isD=true∧(numS s).length≤18:=by
 unfold numC at h
 split at h
 ·cases h
 ·rename_i h1
  split at h
  ·cases h
  ·rename_i h2
   split at h
   ·cases h
   ·split at h
    ·cases h
    ·rename_i h3 h4
     have h5:digB (nW s)=true:=by simpa using h1
     have h6:∀b∈nR s,isD b=true:=by
      cases hc:s.contains 46 with
      |false=>rw[(n_none hc).2];simp
      |true=>rw[hc]at h2;simp at h2;exact digB_all h2.1
     refine⟨?_,?_,?_⟩
     ·intro e;simp[numS,List.append_eq_nil_iff]at e
     ·simp only[numS,List.all_eq_true,List.mem_append]
      rintro b (hb|hb)
      ·exact digB_all h5 b hb
      ·rcases List.mem_append.1 (List.mem_of_mem_take hb) with hb|hb
       ·exact h6 b hb
       ·simp at hb;subst hb;rfl
     ·simp[numS];omega
theorem f175 {s:List UInt8}(hl:s.length<140737488355328)(h:numC s=0){st:St}:run Tryz.prog HH 175 [.str s] st=some (.ret (.int .i64 (natOf (numS s))),st):=by
 have h1:(3:Int)≤((nR s++[48,48,48]).length:Nat):=by simp;omega
 rw[run_shut F175 rfl rfl (by simp)]
 push_cast[h259 hl,h308 (numS_ok h)]
 have a:=nW_len hl;have b:=nR_len hl
 exact dn_eq (by simp;omega) rfl
def valN (s:List UInt8):Int:=if numC s=0 then natOf (numS s) else 0
theorem f169 {s:List UInt8}(hl:s.length<140737488355328){st:St}:run Tryz.prog HH 169 [.str s] st=some (.ret (.tup [.int .i64 (valN s),.int .i64 (numC s)]),st):=by
 rw[run_shut F169 rfl rfl (by simp)]
 by_cases h:numC s=0
 ·push_cast[f118 hl,f175 hl h,h,valN]
 ·push_cast[f118 hl,h,valN]
theorem f165 {s t:List UInt8}(hl:s.length<140737488355328)(hk:t.length<140737488355328){st:St}:run Tryz.prog HH 165 [.str s,.str t] st=some (.ret (.tup [.int .i64 (if ¬numC s=0 then 0 else if ¬numC t=0 then 0 else valN s),.int .i64 (if ¬numC s=0 then 0 else if ¬numC t=0 then 0 else valN t),.int .i64 (if ¬numC s=0 then numC s else if ¬numC t=0 then numC t else 0)]),st):=by
 rw[run_shut F165 rfl rfl (by simp)]
 push_cast[f169 hl,f169 hk]
 all_goals first|with_reducible rfl|exact dn_eq (by omega) (by with_reducible rfl)|((repeat' split)<;>(try simp_all)<;>(try (with_reducible refine dn_eq ?_ ?_<;>first|trivial|omega|rfl))<;>(try omega))
def cmpN (s t:List UInt8):Int:=if ¬numC s=0∨¬numC t=0 then 0 else if valN s<valN t then -1 else if valN t<valN s then 1 else 0
theorem f155 {s t:List UInt8}(hl:s.length<140737488355328)(hk:t.length<140737488355328){st:St}:run Tryz.prog HH 155 [.str s,.str t] st=some (.ret (.tup [.int .i64 (cmpN s t),.int .i64 (if ¬numC s=0 then numC s else if ¬numC t=0 then numC t else 0)]),st):=by
 rw[run_shut F155 rfl rfl (by simp)]
 push_cast[f165 hl hk,cmpN]
 by_cases h1:numC s=0<;>by_cases h2:numC t=0<;>simp[h1,h2]
end Go.Proofs.YtdnpaifeoinjoaaGreatDoor

namespace Go.Proofs.YtdnpaifeoinjoaaGreatDoor
open Go.Sha
set_option maxRecDepth 10000
theorem F85:compF Tryz.prog 85=some ⟨24,[.tmp 4],(.g [.q 2 38 0,.c 4 0] (.z [2] (.join [] (.join [23] (.reg [.a 5 0 2,.l 6 5,.m 7 1,.b 8 .lss 6 7,.m 9 8,.ax 10 0 2 9,.lx 11 10 9,.vx 12 .gtr 11 999 9,.o 13 9 12,.m 14 13,.ax 15 1 2 14,.lx 16 15 14,.vx 17 .lss 16 0 14,.o 18 14 17,.m 19 18,.ax 20 1 2 19,.lx 21 20 19,.vx 22 .geq 21 15 19,.o 23 19 22]) (.i 23 (.g [.c 4 2] (.ret [4])) .skip)) (.g [.c 4 0] (.ret [4])))))⟩:=by kernel_rfl
theorem F92:compF Tryz.prog 92=some ⟨21,[.tmp 2],(.g [.q 1 38 0,.c 2 0] (.z [1] (.join [] (.join [20] (.reg [.a 3 0 1,.l 4 3,.v 5 .lss 4 1,.m 6 5,.ax 7 0 1 6,.lx 8 7 6,.vx 9 .gtr 8 999 6,.o 10 6 9,.m 11 10,.ax 12 1 1 11,.lx 13 12 11,.vx 14 .lss 13 0 11,.o 15 11 14,.m 16 15,.ax 17 1 1 16,.lx 18 17 16,.vx 19 .geq 18 15 16,.o 20 16 19]) (.i 20 (.g [.c 2 2] (.ret [2])) .skip)) (.g [.c 2 0] (.ret [2])))))⟩:=by kernel_rfl
theorem F37:compF Tryz.prog 37=some ⟨21,[.tmp 2],(.g [.q 1 38 0,.c 2 0] (.z [1] (.join [] (.join [20] (.reg [.a 3 0 1,.l 4 3,.v 5 .lss 4 1,.m 6 5,.ax 7 0 1 6,.lx 8 7 6,.vx 9 .gtr 8 999 6,.o 10 6 9,.m 11 10,.ax 12 1 1 11,.lx 13 12 11,.vx 14 .lss 13 0 11,.o 15 11 14,.m 16 15,.ax 17 1 1 16,.lx 18 17 16,.vx 19 .geq 18 15 16,.o 20 16 19]) (.i 20 (.g [.c 2 2] (.ret [2])) .skip)) (.g [.c 2 0] (.ret [2])))))⟩:=by kernel_rfl
theorem F89:compF Tryz.prog 89=some ⟨20,[.tmp 4],(.g [.q 2 38 0,.q 3 38 1,.c 4 0] (.z [2,3] (.join [2,3] (.g [.a 5 0 2,.l 6 5,.a 7 0 3,.l 8 7,.b 9 .neq 6 8] (.i 9 (.g [.a 10 0 2,.l 11 10,.a 12 0 3,.l 13 12,.b 14 .sub 11 13,.m 4 14] (.ret [4])) .skip)) (.g [.a 15 1 2,.l 16 15,.a 17 1 3,.l 18 17,.b 19 .sub 16 18,.m 4 19] (.ret [4])))))⟩:=by kernel_rfl
theorem F106:compF Tryz.prog 106=some ⟨20,[.tmp 4],(.g [.q 2 38 0,.q 3 38 1,.c 4 0] (.z [2,3] (.join [2,3] (.g [.a 5 0 2,.l 6 5,.a 7 0 3,.l 8 7,.b 9 .neq 6 8] (.i 9 (.g [.a 10 0 2,.l 11 10,.a 12 0 3,.l 13 12,.b 14 .sub 11 13,.m 4 14] (.ret [4])) .skip)) (.g [.a 15 1 2,.l 16 15,.a 17 1 3,.l 18 17,.b 19 .sub 16 18,.m 4 19] (.ret [4])))))⟩:=by kernel_rfl
theorem F39:compF Tryz.prog 39=some ⟨24,[.tmp 4],(.g [.q 2 38 0,.q 3 38 1,.k 4 false] (.z [2,3] (.join [4] (.reg [.a 5 0 2,.l 6 5,.a 7 0 3,.l 8 7,.b 9 .lss 6 8,.m 10 9,.ax 11 0 2 10,.lx 12 11 10,.ax 13 0 3 10,.lx 14 13 10,.bx 15 .eql 12 14 10,.mx 16 15 10,.ay 17 1 2 16,.ly 18 17 16,.ay 19 1 3 16,.ly 20 19 16,.by' 21 .lss 18 20 16,.x 22 (.pick (.t 16) (.t 21) (.c (.bool false))) 10,.o 23 10 22,.m 4 23]) (.ret [4]))))⟩:=by kernel_rfl
theorem F86:compF Tryz.prog 86=some ⟨31,[.tmp 2],(.g [.q 1 40 0,.c 2 0] (.z [1] (.join [] (.block 0 (.join [1,3] (.reg [.a 4 0 1,.l 5 4,.v 6 .eql 5 0,.m 7 6,.ay 8 1 1 7,.ly 9 8 7,.y 10 (.f 116 [.t 9]) 7,.e 11 7 10,.m 3 11]) (.i 3 (.g [.c 2 0] (.ret [2])) (.join [12] (.reg [.a 13 0 1,.l 14 13,.v 15 .geq 14 (-1),.m 16 15,.ay 17 0 1 16,.ly 18 17 16,.vy 19 .neq 18 0 16,.e 20 16 19,.m 21 20,.ay 22 0 1 21,.ly 23 22 21,.vy 24 .leq 23 1048576 21,.e 25 21 24,.m 26 25,.ay 27 1 1 26,.ly 28 27 26,.vy 29 .eql 28 0 26,.e 30 26 29,.m 12 30]) (.i 12 (.g [.c 2 0] (.ret [2])) .skip))))) (.g [.c 2 2] (.ret [2])))))⟩:=by kernel_rfl
theorem F38:compF Tryz.prog 38=some ⟨31,[.tmp 2],(.g [.q 1 40 0,.c 2 0] (.z [1] (.join [] (.join [30] (.reg [.a 3 0 1,.l 4 3,.v 5 .eql 4 0,.m 6 5,.ay 7 1 1 6,.ly 8 7 6,.y 9 (.f 78 [.t 8]) 6,.e 10 6 9,.m 11 10,.ax 12 0 1 11,.lx 13 12 11,.vx 14 .geq 13 (-1) 11,.mx 15 14 11,.ay 16 0 1 15,.ly 17 16 15,.vy 18 .leq 17 1048576 15,.x 19 (.pick (.t 15) (.t 18) (.c (.bool false))) 11,.mx 20 19 11,.ay 21 0 1 20,.ly 22 21 20,.vy 23 .neq 22 0 20,.x 24 (.pick (.t 20) (.t 23) (.c (.bool false))) 11,.mx 25 24 11,.ay 26 1 1 25,.ly 27 26 25,.vy 28 .eql 27 0 25,.x 29 (.pick (.t 25) (.t 28) (.c (.bool false))) 11,.o 30 11 29]) (.i 30 (.g [.c 2 0] (.ret [2])) .skip)) (.g [.c 2 2] (.ret [2])))))⟩:=by kernel_rfl
theorem F78:compF Tryz.prog 78=some ⟨9,[.tmp 2],(.g [.k 2 false] (.join [2] (.reg [.m 3 0,.v 4 .geq 3 0,.m 5 4,.my 6 0 5,.vy 7 .leq 6 65535 5,.e 8 5 7,.m 2 8]) (.ret [2])))⟩:=by kernel_rfl
theorem F116:compF Tryz.prog 116=some ⟨9,[.tmp 2],(.g [.k 2 false] (.join [2] (.reg [.m 3 0,.v 4 .geq 3 0,.m 5 4,.my 6 0 5,.vy 7 .leq 6 65535 5,.e 8 5 7,.m 2 8]) (.ret [2])))⟩:=by kernel_rfl
end Go.Proofs.YtdnpaifeoinjoaaGreatDoor

namespace Go.Proofs.YtdnpaifeoinjoaaGreatDoor
open Go.Sha
set_option maxRecDepth 10000
variable {g:List (Nat×Obj)}{n:Nat}
def prmC (c:Int)(x:Prm):Int:=if x.chan<c∨999<x.chan∨x.attr<0∨15≤x.attr then 2 else 0
theorem f92 {x:Prm}{st:St}:run Tryz.prog HH 92 [x.v] st=some (.ret (.int .i64 (prmC 1 x)),st):=by
 rw[run_shut F92 rfl rfl (by simp)]
 push_cast[Prm.v,prmC]
 all_goals first|with_reducible rfl|exact dn_eq (by omega) (by with_reducible rfl)|((repeat' split)<;>(try simp_all)<;>(try (with_reducible refine dn_eq ?_ ?_<;>first|trivial|omega|rfl))<;>(try omega))
theorem f37 {x:Prm}{st:St}:run Tryz.prog HH 37 [x.v] st=some (.ret (.int .i64 (prmC 1 x)),st):=by
 rw[run_shut F37 rfl rfl (by simp)]
 push_cast[Prm.v,prmC]
 all_goals first|with_reducible rfl|exact dn_eq (by omega) (by with_reducible rfl)|((repeat' split)<;>(try simp_all)<;>(try (with_reducible refine dn_eq ?_ ?_<;>first|trivial|omega|rfl))<;>(try omega))
def cmpP (x y:Prm):Int:=if ¬x.chan=y.chan then IntKind.i64.wrap (x.chan-y.chan) else IntKind.i64.wrap (x.attr-y.attr)
theorem f106 {x y:Prm}{st:St}:run Tryz.prog HH 106 [x.v,y.v] st=some (.ret (.int .i64 (cmpP x y)),st):=by
 rw[run_shut F106 rfl rfl (by simp)]
 push_cast[Prm.v,cmpP]
 all_goals first|with_reducible rfl|exact dn_eq (by omega) (by with_reducible rfl)|((repeat' split)<;>(try simp_all)<;>(try (with_reducible refine dn_eq ?_ ?_<;>first|trivial|omega|rfl))<;>(try omega))
def befP (x y:Prm):Bool:=decide (x.chan<y.chan)||decide (x.chan=y.chan)&&decide (x.attr<y.attr)
theorem f39 {x y:Prm}{st:St}:run Tryz.prog HH 39 [x.v,y.v] st=some (.ret (.bool (befP x y)),st):=by
 rw[run_shut F39 rfl rfl (by simp)]
 push_cast[Prm.v,befP]
 all_goals first|with_reducible rfl|exact dn_eq (by omega) (by with_reducible rfl)|((repeat' split)<;>(try simp_all)<;>(try (with_reducible refine dn_eq ?_ ?_<;>first|trivial|omega|rfl))<;>(try omega))
theorem p92 {a b:Int}{st:St}:run Tryz.prog HH 92 [.agg [.int .i64 a,.int .i64 b]] st=some (.ret (.int .i64 (prmC 1 ⟨a,b⟩)),st):=f92 (x:=⟨a,b⟩)
theorem p37 {a b:Int}{st:St}:run Tryz.prog HH 37 [.agg [.int .i64 a,.int .i64 b]] st=some (.ret (.int .i64 (prmC 1 ⟨a,b⟩)),st):=f37 (x:=⟨a,b⟩)
theorem p106 {a b c d:Int}{st:St}:run Tryz.prog HH 106 [.agg [.int .i64 a,.int .i64 b],.agg [.int .i64 c,.int .i64 d]] st=some (.ret (.int .i64 (cmpP ⟨a,b⟩ ⟨c,d⟩)),st):=f106 (x:=⟨a,b⟩) (y:=⟨c,d⟩)
theorem p39 {a b c d:Int}{st:St}:run Tryz.prog HH 39 [.agg [.int .i64 a,.int .i64 b],.agg [.int .i64 c,.int .i64 d]] st=some (.ret (.bool (befP ⟨a,b⟩ ⟨c,d⟩)),st):=f39 (x:=⟨a,b⟩) (y:=⟨c,d⟩)
theorem f116 {v:Int}{st:St}:run Tryz.prog HH 116 [.int .i64 v] st=some (.ret (.bool (decide (lvl v))),st):=by
 rw[run_shut F116 rfl rfl (by simp)]
 push_cast
 all_goals first|with_reducible rfl|exact dn_eq (by omega) (by with_reducible rfl)|((repeat' split)<;>(try simp_all)<;>(try (with_reducible refine dn_eq ?_ ?_<;>first|trivial|omega|rfl))<;>(try omega))
theorem f78 {v:Int}{st:St}:run Tryz.prog HH 78 [.int .i64 v] st=some (.ret (.bool (decide (lvl v))),st):=by
 rw[run_shut F78 rfl rfl (by simp)]
 push_cast
 all_goals first|with_reducible rfl|exact dn_eq (by omega) (by with_reducible rfl)|((repeat' split)<;>(try simp_all)<;>(try (with_reducible refine dn_eq ?_ ?_<;>first|trivial|omega|rfl))<;>(try omega))
def valC (x:Val):Int:=if x.pal=0∧lvl x.lev∨-1≤x.pal∧¬x.pal=0∧x.pal≤1048576∧x.lev=0 then 0 else 2
theorem f86 {x:Val}{st:St}:run Tryz.prog HH 86 [x.v] st=some (.ret (.int .i64 (valC x)),st):=by
 rw[run_shut F86 rfl rfl (by simp)]
 push_cast[Val.v,valC,f116]
 by_cases h1:x.pal=0<;>by_cases h2:lvl x.lev<;>simp[h1,h2]
theorem p86 {a b:Int}{st:St}:run Tryz.prog HH 86 [.agg [.int .i64 a,.int .i64 b]] st=some (.ret (.int .i64 (valC ⟨a,b⟩)),st):=f86 (x:=⟨a,b⟩)
theorem f38 {x:Val}{st:St}:run Tryz.prog HH 38 [x.v] st=some (.ret (.int .i64 (valC x)),st):=by
 rw[run_shut F38 rfl rfl (by simp)]
 push_cast[Val.v,valC,f78]
 by_cases h1:x.pal=0<;>by_cases h2:lvl x.lev<;>simp[h1,h2,and_left_comm]
theorem p38 {a b:Int}{st:St}:run Tryz.prog HH 38 [.agg [.int .i64 a,.int .i64 b]] st=some (.ret (.int .i64 (valC ⟨a,b⟩)),st):=f38 (x:=⟨a,b⟩)
end Go.Proofs.YtdnpaifeoinjoaaGreatDoor

namespace Go.Proofs.YtdnpaifeoinjoaaGreatDoor
open Go.Sha
set_option maxRecDepth 10000
def B91_0:Cd:=(.g [.b 9 .lss 8 7] (.join [1,6,7,8] (.i 9 .skip (.exit [] 0)) (.join [1,6,7,8] (.block 1 (.g [.r 10 1 6 8,.l 11 10,.m 4 11] (.g [.m 12 4,.d 13 9 1,.s 14 (.call (.t 12) [.t 13]),.m 5 14] (.g [.m 15 5,.v 16 .neq 15 0] (.i 16 (.g [.m 17 5,.m 2 17] (.ret [2])) .skip))))) (.reg [.v 18 .add 8 1,.m 8 18]))))
theorem F91:compF Tryz.prog 91=some ⟨19,[.tmp 2],(.g [.q 1 30 0,.c 2 0] (.z [1] (.join [] (.g [.s 6 (.bslice 133 1 [(.c (.fn (.func 117) [] [])),(.c (.fn (.func 119) [] [])),(.c (.fn (.func 121) [] [])),(.c (.fn (.func 122) [] [])),(.c (.fn (.func 123) [] []))]),.u 7 6,.c 8 0] (.block 0 (.loop [1,6,7,8] [] B91_0))) (.g [.c 2 0] (.ret [2])))))⟩:=by kernel_rfl
theorem F117:compF Tryz.prog 117=some ⟨6,[.tmp 2],(.g [.q 1 30 0,.c 2 0] (.z [1] (.g [.a 3 0 1,.l 4 3,.f 5 118 4,.m 2 5] (.ret [2]))))⟩:=by kernel_rfl
theorem F119:compF Tryz.prog 119=some ⟨6,[.tmp 2],(.g [.q 1 30 0,.c 2 0] (.z [1] (.g [.a 3 1 1,.l 4 3,.f 5 120 4,.m 2 5] (.ret [2]))))⟩:=by kernel_rfl
theorem F121:compF Tryz.prog 121=some ⟨6,[.tmp 2],(.g [.q 1 30 0,.c 2 0] (.z [1] (.g [.a 3 2 1,.l 4 3,.f 5 30 4,.m 2 5] (.ret [2]))))⟩:=by kernel_rfl
def B120_0:Cd:=(.g [.b 12 .lss 11 10] (.join [9,10,11] (.i 12 .skip (.exit [] 0)) (.join [9,10,11] (.block 1 (.g [.r 13 1 9 11,.l 14 13,.m 4 14] (.join [9,10,11,24] (.reg [.m 15 4,.s 16 (.bin .lss (.t 15) (.c (.int .u8 32))),.m 17 16,.mx 18 4 17,.x 19 (.bin .gtr (.t 18) (.c (.int .u8 126))) 17,.o 20 17 19,.m 21 20,.mx 22 4 21,.x 23 (.bin .eql (.t 22) (.c (.int .u8 34))) 21,.o 24 21 23]) (.i 24 (.g [.c 2 3] (.ret [2])) .skip)))) (.reg [.v 25 .add 11 1,.m 11 25]))))
theorem F120:compF Tryz.prog 120=some ⟨26,[.tmp 2],(.g [.c 2 0] (.join [0] (.g [.m 5 0,.s 6 (.lens (.t 5)),.v 7 .gtr 6 24] (.i 7 (.g [.c 2 13] (.ret [2])) .skip)) (.join [] (.g [.m 8 0,.s 9 (.cvsb 5 (.t 8)),.u 10 9,.c 11 0] (.block 0 (.loop [9,10,11] [] B120_0))) (.g [.c 2 0] (.ret [2])))))⟩:=by kernel_rfl
def B30_0:Cd:=(.g [.b 12 .lss 11 10] (.join [0,9,10,11] (.i 12 .skip (.exit [] 0)) (.join [0,9,10,11] (.block 1 (.g [.m 13 11,.r 14 5 9 11,.d 15 5 14,.s 4 (.alloc 45 [.i 0,.i 0,.i 0,.i 0,.i 0]),.m 3 13,.w 5 4 15] (.z [4] (.q (.dreg 6 [.d 16 5 4,.m 17 0,.m 18 3,.s 19 (.slice 5 (.t 17) none (some (.t 18)) none),.g' 20 64 16 19,.m 5 20]) (.g [.m 21 5,.v 22 .neq 21 0] (.i 22 (.g [.m 23 5,.m 2 23] (.ret [2])) .skip)))))) (.reg [.v 24 .add 11 1,.m 11 24]))))
theorem F30:compF Tryz.prog 30=some ⟨25,[.tmp 2],(.g [.c 2 0] (.join [0] (.g [.m 6 0,.u 7 6,.v 8 .gtr 7 128] (.i 8 (.g [.c 2 5] (.ret [2])) .skip)) (.join [] (.g [.m 9 0,.u 10 9,.c 11 0] (.block 0 (.loop [0,9,10,11] [] B30_0))) (.g [.c 2 0] (.ret [2])))))⟩:=by kernel_rfl
theorem F64:compF Tryz.prog 64=some ⟨44,[.tmp 4],(.g [.q 2 45 0,.c 4 0] (.z [2] (.join [1,2] (.g [.a 8 0 2,.d 9 2 8,.f 10 92 9,.m 5 10] (.g [.m 11 5,.v 12 .neq 11 0] (.i 12 (.g [.m 13 5,.m 4 13] (.ret [4])) .skip))) (.join [1,2] (.g [.a 14 2 2,.d 15 2 14,.f 16 86 15,.m 6 16] (.g [.m 17 6,.v 18 .neq 17 0] (.i 18 (.g [.m 19 6,.m 4 19] (.ret [4])) .skip))) (.join [1,2] (.join [1,2,27] (.reg [.a 20 4 2,.l 21 20,.v 22 .lss 21 1,.m 23 22,.ax 24 4 2 23,.lx 25 24 23,.vx 26 .gtr 25 4 23,.o 27 23 26]) (.i 27 (.g [.c 4 2] (.ret [4])) .skip)) (.join [] (.g [.m 28 1,.u 29 28,.m 7 29] (.join [43] (.dreg 14 [.m 30 7,.v 31 .gtr 30 0,.m 32 31,.my 33 1 32,.my 34 7 32,.vy 35 .sub 34 1 32,.ry 36 5 33 35 32,.ay 37 0 36 32,.y 38 (.load (some 2) (.t 37)) 32,.ay 39 0 2 32,.y 40 (.load (some 2) (.t 39)) 32,.y 41 (.f 106 [.t 38,.t 40]) 32,.vy 42 .geq 41 0 32,.e 43 32 42]) (.i 43 (.g [.c 4 9] (.ret [4])) .skip))) (.g [.c 4 0] (.ret [4]))))))))⟩:=by kernel_rfl
def B122_0:Cd:=(.g [.v 38 .lss 37 6] (.join [1,18,19,20,36,37] (.i 38 .skip (.exit [1,18,19,20] 3)) (.join [1,18,19,20,36,37] (.block 4 (.g [.s 39 (.gen (.ia 6 none 1) [.t 36,.t 37]),.m 7 39] (.join [1,18,19,20,36,37,45] (.reg [.m 40 7,.v 41 .lss 40 0,.m 42 41,.mx 43 7 42,.vx 44 .gtr 43 10000000 42,.o 45 42 44]) (.i 45 (.g [.c 2 2] (.ret [2])) .skip)))) (.reg [.v 46 .add 37 1,.m 37 46]))))
def B122_1:Cd:=(.g [.b 21 .lss 20 19] (.join [1,18,19,20] (.i 21 .skip (.exit [1] 1)) (.join [1,18,19,20] (.block 2 (.g [.r 22 6 18 20,.d 23 6 22,.s 5 (.alloc 161 [.i 0,.i 0,.i 0,.i 0,.i 0,.i 0]),.w 6 5 23] (.z [5] (.g [.a 24 0 5,.l 25 24,.a 26 1 5,.l 27 26,.a 28 2 5,.l 29 28,.a 30 3 5,.l 31 30,.a 32 4 5,.l 33 32,.a 34 5 5,.l 35 34,.s 36 (.build [.i 0,.i 0,.i 0,.i 0,.i 0,.i 0] [(0,1,(.t 25)),(1,1,(.t 27)),(2,1,(.t 29)),(3,1,(.t 31)),(4,1,(.t 33)),(5,1,(.t 35))]),.c 37 0] (.block 3 (.loop [1,18,19,20,36,37] [] B122_0)))))) (.reg [.v 47 .add 20 1,.m 20 47]))))
theorem F122:compF Tryz.prog 122=some ⟨52,[.tmp 2],(.g [.q 1 30 0,.c 2 0] (.z [1] (.join [1] (.g [.a 8 3 1,.l 9 8,.u 10 9,.m 3 10] (.block 0 (.g [.m 12 3,.v 13 .eql 12 0,.m 11 13] (.i 11 (.g [.c 2 12] (.ret [2])) (.g [.m 15 3,.v 16 .gtr 15 4,.m 14 16] (.i 14 (.g [.c 2 5] (.ret [2])) .skip)))))) (.join [1] (.g [.a 17 3 1,.l 18 17,.u 19 18,.c 20 0] (.block 1 (.loop [1,18,19,20] [] B122_1))) (.join [] (.g [.a 48 2 1,.l 49 48,.s 50 (.mkfn (.func 142) [] [.t 1]),.g' 51 95 49 50] (.i 51 (.g [.c 2 6] (.ret [2])) .skip)) (.g [.c 2 0] (.ret [2])))))))⟩:=by kernel_rfl
theorem F142:compF Tryz.prog 142=some ⟨10,[.tmp 3],(.g [.q 2 45 0,.k 3 false] (.z [2] (.g [.a 4 4 2,.l 5 4,.a 6 3 1,.l 7 6,.u 8 7,.b 9 .gtr 5 8,.m 3 9] (.ret [3]))))⟩:=by kernel_rfl
theorem F95:compF Tryz.prog 95=some ⟨9,[.tmp 4],(.g [.k 4 false] (.g [.m 5 0,.m 6 1,.g' 7 11 5 6,.v 8 .geq 7 0,.m 4 8] (.ret [4])))⟩:=by kernel_rfl
def B11_0:Cd:=(.g [.b 9 .lss 8 7] (.join [0,1,7,8] (.i 9 .skip (.exit [] 0)) (.join [0,1,7,8] (.block 1 (.g [.m 10 8,.m 5 10] (.g [.m 11 1,.m 12 0,.m 13 5,.r 14 5 12 13,.d 15 5 14,.s 16 (.call (.t 11) [.t 15])] (.i 16 (.g [.m 17 5,.m 4 17] (.ret [4])) .skip)))) (.reg [.v 18 .add 8 1,.m 8 18]))))
theorem F11:compF Tryz.prog 11=some ⟨19,[.tmp 4],(.g [.c 4 0] (.join [] (.g [.m 6 0,.u 7 6,.c 8 0] (.block 0 (.loop [0,1,7,8] [] B11_0))) (.g [.c 4 (-1)] (.ret [4]))))⟩:=by kernel_rfl
theorem F123:compF Tryz.prog 123=some ⟨44,[.tmp 2],(.g [.q 1 30 0,.c 2 0] (.z [1] (.join [1] (.join [1,16] (.reg [.a 4 6 1,.l 5 4,.v 6 .neq 5 (-1),.m 7 6,.ay 8 6 1 7,.ly 9 8 7,.vy 10 .lss 9 25 7,.my 11 10 7,.ax 12 6 1 11,.lx 13 12 11,.vx 14 .gtr 13 10000000 11,.y 15 (.pick (.t 11) (.c (.bool true)) (.t 14)) 7,.e 16 7 15]) (.i 16 (.g [.c 2 2] (.ret [2])) .skip)) (.join [1] (.g [.a 17 7 1,.l 18 17,.s 19 (.bin .neq (.t 18) (.w []))] (.i 19 (.g [.a 20 7 1,.l 21 20,.f 22 118 21,.m 3 22] (.g [.m 23 3,.v 24 .neq 23 0] (.i 24 (.g [.m 25 3,.m 2 25] (.ret [2])) .skip))) .skip)) (.join [] (.block 0 (.join [1,26] (.reg [.a 27 8 1,.l 28 27,.v 29 .lss 28 0,.m 30 29,.ax 31 8 1 30,.lx 32 31 30,.vx 33 .gtr 32 100 30,.o 34 30 33,.m 26 34]) (.i 26 (.g [.c 2 2] (.ret [2])) (.join [35] (.reg [.a 36 8 1,.l 37 36,.v 38 .gtr 37 0,.m 39 38,.ay 40 7 1 39,.ly 41 40 39,.y 42 (.bin .eql (.t 41) (.w [])) 39,.e 43 39 42,.m 35 43]) (.i 35 (.g [.c 2 11] (.ret [2])) .skip))))) (.g [.c 2 0] (.ret [2])))))))⟩:=by kernel_rfl
def B60_0:Cd:=(.join [1,7] (.g [.m 32 7,.a 33 2 1,.l 34 33,.u 35 34,.b 36 .lss 32 35] (.i 36 .skip (.exit [1] 0))) (.join [1,7] (.block 1 (.q (.dreg 10 [.a 39 2 1,.l 40 39,.m 41 7,.r 42 5 40 41,.a 43 4 42,.l 44 43,.a 45 3 1,.l 46 45,.u 47 46,.b 48 .gtr 44 47]) (.i 48 (.g [.c 2 6] (.ret [2])) .skip))) (.reg [.m 37 7,.v 38 .add 37 1,.m 7 38])))
theorem F60:compF Tryz.prog 60=some ⟨51,[.tmp 2],(.g [.q 1 30 0,.c 2 0] (.z [1] (.join [1] (.g [.a 8 0 1,.l 9 8,.f 10 100 9,.m 3 10] (.g [.m 11 3,.v 12 .neq 11 0] (.i 12 (.g [.m 13 3,.m 2 13] (.ret [2])) .skip))) (.join [1] (.g [.a 14 1 1,.l 15 14,.f 16 101 15,.m 4 16] (.g [.m 17 4,.v 18 .neq 17 0] (.i 18 (.g [.m 19 4,.m 2 19] (.ret [2])) .skip))) (.join [1] (.g [.a 20 2 1,.l 21 20,.f 22 102 21,.m 5 22] (.g [.m 23 5,.v 24 .neq 23 0] (.i 24 (.g [.m 25 5,.m 2 25] (.ret [2])) .skip))) (.join [1] (.g [.a 26 3 1,.l 27 26,.f 28 103 27,.m 6 28] (.g [.m 29 6,.v 30 .neq 29 0] (.i 30 (.g [.m 31 6,.m 2 31] (.ret [2])) .skip))) (.join [1] (.g [.c 7 0] (.block 0 (.loop [1,7] [] B60_0))) (.g [.d 49 9 1,.f 50 104 49,.m 2 50] (.ret [2])))))))))⟩:=by kernel_rfl
def B101_0:Cd:=(.join [0,3] (.g [.m 7 3,.m 8 0,.s 9 (.lens (.t 8)),.b 10 .lss 7 9] (.i 10 .skip (.exit [] 0))) (.join [0,3] (.block 1 (.join [0,3,28] (.reg [.m 13 0,.m 14 3,.s 15 (.ichr (.t 13) (.t 14)),.s 16 (.bin .lss (.t 15) (.c (.int .u8 32))),.m 17 16,.mx 18 0 17,.mx 19 3 17,.x 20 (.ichr (.t 18) (.t 19)) 17,.x 21 (.bin .gtr (.t 20) (.c (.int .u8 126))) 17,.o 22 17 21,.m 23 22,.mx 24 0 23,.mx 25 3 23,.x 26 (.ichr (.t 24) (.t 25)) 23,.x 27 (.bin .eql (.t 26) (.c (.int .u8 34))) 23,.o 28 23 27]) (.i 28 (.g [.c 2 3] (.ret [2])) .skip))) (.reg [.m 11 3,.v 12 .add 11 1,.m 3 12])))
theorem F101:compF Tryz.prog 101=some ⟨29,[.tmp 2],(.g [.c 2 0] (.join [0] (.g [.m 4 0,.s 5 (.lens (.t 4)),.v 6 .gtr 5 24] (.i 6 (.g [.c 2 13] (.ret [2])) .skip)) (.join [] (.g [.c 3 0] (.block 0 (.loop [0,3] [] B101_0))) (.g [.c 2 0] (.ret [2])))))⟩:=by kernel_rfl
def B102_0:Cd:=(.join [0,3] (.g [.m 9 3,.m 10 0,.u 11 10,.b 12 .lss 9 11] (.i 12 .skip (.exit [] 0))) (.join [0,3] (.block 1 (.join [0,3] (.g [.m 15 0,.m 16 3,.r 17 5 15 16,.a 18 0 17,.d 19 2 18,.f 20 37 19,.m 4 20] (.g [.m 21 4,.v 22 .neq 21 0] (.i 22 (.g [.m 23 4,.m 2 23] (.ret [2])) .skip))) (.join [0,3] (.g [.m 24 0,.m 25 3,.r 26 5 24 25,.a 27 2 26,.d 28 2 27,.f 29 38 28,.m 5 29] (.g [.m 30 5,.v 31 .neq 30 0] (.i 31 (.g [.m 32 5,.m 2 32] (.ret [2])) .skip))) (.join [0,3] (.join [0,3,46] (.reg [.m 33 0,.m 34 3,.r 35 5 33 34,.a 36 4 35,.l 37 36,.v 38 .lss 37 1,.m 39 38,.mx 40 0 39,.mx 41 3 39,.x 42 (.iadr 5 (.t 40) (.t 41)) 39,.ax 43 4 42 39,.lx 44 43 39,.vx 45 .gtr 44 4 39,.o 46 39 45]) (.i 46 (.g [.c 2 2] (.ret [2])) .skip)) (.join [0,3,63] (.dreg 17 [.m 47 3,.v 48 .gtr 47 0,.m 49 48,.my 50 0 49,.my 51 3 49,.vy 52 .sub 51 1 49,.ry 53 5 50 52 49,.ay 54 0 53 49,.y 55 (.load (some 2) (.t 54)) 49,.my 56 0 49,.my 57 3 49,.ry 58 5 56 57 49,.ay 59 0 58 49,.y 60 (.load (some 2) (.t 59)) 49,.y 61 (.f 39 [.t 55,.t 60]) 49,.y 62 (.un .not (.t 61)) 49,.e 63 49 62]) (.i 63 (.g [.c 2 9] (.ret [2])) .skip)))))) (.reg [.m 13 3,.v 14 .add 13 1,.m 3 14])))
theorem F102:compF Tryz.prog 102=some ⟨64,[.tmp 2],(.g [.c 2 0] (.join [0] (.g [.m 6 0,.u 7 6,.v 8 .gtr 7 128] (.i 8 (.g [.c 2 5] (.ret [2])) .skip)) (.join [] (.g [.c 3 0] (.block 0 (.loop [0,3] [] B102_0))) (.g [.c 2 0] (.ret [2])))))⟩:=by kernel_rfl
def B103_0:Cd:=(.join [0,3] (.g [.m 11 3,.m 12 0,.u 13 12,.b 14 .lss 11 13] (.i 14 .skip (.exit [] 0))) (.join [0,3] (.block 1 (.g [.m 17 0,.m 18 3,.r 19 6 17 18,.d 20 6 19,.s 4 (.alloc 161 [.i 0,.i 0,.i 0,.i 0,.i 0,.i 0]),.w 6 4 20] (.z [4] (.join [0,3,54] (.reg [.a 21 0 4,.l 22 21,.f 23 128 22,.z 24 23,.m 25 24,.ax 26 1 4 25,.lx 27 26 25,.x 28 (.f 128 [.t 27]) 25,.x 29 (.un .not (.t 28)) 25,.o 30 25 29,.m 31 30,.ax 32 2 4 31,.lx 33 32 31,.x 34 (.f 128 [.t 33]) 31,.x 35 (.un .not (.t 34)) 31,.o 36 31 35,.m 37 36,.ax 38 3 4 37,.lx 39 38 37,.x 40 (.f 128 [.t 39]) 37,.x 41 (.un .not (.t 40)) 37,.o 42 37 41,.m 43 42,.ax 44 4 4 43,.lx 45 44 43,.x 46 (.f 128 [.t 45]) 43,.x 47 (.un .not (.t 46)) 43,.o 48 43 47,.m 49 48,.ax 50 5 4 49,.lx 51 50 49,.x 52 (.f 128 [.t 51]) 49,.x 53 (.un .not (.t 52)) 49,.o 54 49 53]) (.i 54 (.g [.c 2 2] (.ret [2])) .skip))))) (.reg [.m 15 3,.v 16 .add 15 1,.m 3 16])))
theorem F103:compF Tryz.prog 103=some ⟨55,[.tmp 2],(.g [.c 2 0] (.join [0] (.g [.m 5 0,.u 6 5,.v 7 .eql 6 0] (.i 7 (.g [.c 2 12] (.ret [2])) .skip)) (.join [0] (.g [.m 8 0,.u 9 8,.v 10 .gtr 9 4] (.i 10 (.g [.c 2 5] (.ret [2])) .skip)) (.join [] (.g [.c 3 0] (.block 0 (.loop [0,3] [] B103_0))) (.g [.c 2 0] (.ret [2]))))))⟩:=by kernel_rfl
theorem F104:compF Tryz.prog 104=some ⟨42,[.tmp 2],(.g [.q 1 30 0,.c 2 0] (.z [1] (.join [1] (.join [1,16] (.reg [.a 4 6 1,.l 5 4,.v 6 .neq 5 (-1),.m 7 6,.ay 8 6 1 7,.ly 9 8 7,.vy 10 .lss 9 25 7,.my 11 10 7,.ax 12 6 1 11,.lx 13 12 11,.vx 14 .gtr 13 10000000 11,.y 15 (.pick (.t 11) (.c (.bool true)) (.t 14)) 7,.e 16 7 15]) (.i 16 (.g [.c 2 2] (.ret [2])) .skip)) (.join [1] (.g [.a 17 7 1,.l 18 17,.s 19 (.bin .neq (.t 18) (.w []))] (.i 19 (.g [.a 20 7 1,.l 21 20,.f 22 100 21,.m 3 22] (.g [.m 23 3,.v 24 .neq 23 0] (.i 24 (.g [.m 25 3,.m 2 25] (.ret [2])) .skip))) .skip)) (.join [1] (.join [1,33] (.reg [.a 26 8 1,.l 27 26,.v 28 .lss 27 0,.m 29 28,.ax 30 8 1 29,.lx 31 30 29,.vx 32 .gtr 31 100 29,.o 33 29 32]) (.i 33 (.g [.c 2 2] (.ret [2])) .skip)) (.join [] (.join [41] (.reg [.a 34 8 1,.l 35 34,.v 36 .gtr 35 0,.m 37 36,.ay 38 7 1 37,.ly 39 38 37,.y 40 (.bin .eql (.t 39) (.w [])) 37,.e 41 37 40]) (.i 41 (.g [.c 2 11] (.ret [2])) .skip)) (.g [.c 2 0] (.ret [2]))))))))⟩:=by kernel_rfl
theorem F128:compF Tryz.prog 128=some ⟨9,[.tmp 2],(.g [.k 2 false] (.join [2] (.reg [.m 3 0,.v 4 .geq 3 0,.m 5 4,.my 6 0 5,.vy 7 .leq 6 10000000 5,.e 8 5 7,.m 2 8]) (.ret [2])))⟩:=by kernel_rfl
def B113_0:Cd:=(.g [.b 34 .lss 33 32] (.join [1,31,32,33] (.i 34 .skip (.exit [] 1)) (.join [1,31,32,33] (.block 2 (.g [.m 35 33,.r 36 9 31 33,.d 37 9 36,.s 4 (.alloc 30 [(.str []),(.str []),.nils,.nils,(.bool false),(.bool false),.i 0,(.str []),.i 0]),.m 3 35,.w 9 4 37] (.z [4] (.join [1,3,4,31,32,33] (.g [.d 38 9 4,.f 39 91 38,.m 5 39] (.g [.m 40 5,.v 41 .neq 40 0] (.i 41 (.g [.m 42 5,.m 2 42] (.ret [2])) .skip))) (.join [1,31,32,33,57] (.dreg 15 [.m 43 3,.v 44 .gtr 43 0,.m 45 44,.ay 46 2 1 45,.ly 47 46 45,.my 48 3 45,.vy 49 .sub 48 1 45,.ry 50 9 47 49 45,.ay 51 0 50 45,.ly 52 51 45,.ay 53 0 4 45,.ly 54 53 45,.y 55 (.f 133 [.t 52,.t 54]) 45,.vy 56 .geq 55 0 45,.e 57 45 56]) (.i 57 (.g [.c 2 9] (.ret [2])) .skip)))))) (.reg [.v 58 .add 33 1,.m 33 58]))))
theorem F113:compF Tryz.prog 113=some ⟨59,[.tmp 2],(.g [.q 1 24 0,.c 2 0] (.z [1] (.join [1] (.block 0 (.join [1,6] (.reg [.a 7 0 1,.l 8 7,.v 9 .lss 8 1,.m 10 9,.ax 11 0 1 10,.lx 12 11 10,.vx 13 .gtr 12 1048576 10,.o 14 10 13,.m 15 14,.ax 16 1 1 15,.lx 17 16 15,.vx 18 .lss 17 0 15,.o 19 15 18,.m 20 19,.ax 21 1 1 20,.lx 22 21 20,.vx 23 .gtr 22 9 20,.o 24 20 23,.m 6 24]) (.i 6 (.g [.c 2 2] (.ret [2])) (.g [.a 26 2 1,.l 27 26,.u 28 27,.v 29 .gtr 28 64,.m 25 29] (.i 25 (.g [.c 2 5] (.ret [2])) .skip))))) (.join [] (.g [.a 30 2 1,.l 31 30,.u 32 31,.c 33 0] (.block 1 (.loop [1,31,32,33] [] B113_0))) (.g [.c 2 0] (.ret [2]))))))⟩:=by kernel_rfl
theorem F133:compF Tryz.prog 133=some ⟨14,[.tmp 4],(.g [.c 4 0] (.g [.m 8 0,.m 9 1,.g' 10 155 8 9,.m 7 10,.j 11 0 7,.j 12 1 7,.m 5 11,.m 6 12] (.g [.m 13 5,.m 4 13] (.ret [4]))))⟩:=by kernel_rfl
def B27_0:Cd:=(.join [1,3] (.g [.m 27 3,.a 28 2 1,.l 29 28,.u 30 29,.b 31 .lss 27 30] (.i 31 .skip (.exit [] 0))) (.join [1,3] (.block 1 (.join [1,3] (.g [.a 34 2 1,.l 35 34,.m 36 3,.r 37 9 35 36,.d 38 9 37,.f 39 60 38,.m 4 39] (.g [.m 40 4,.v 41 .neq 40 0] (.i 41 (.g [.m 42 4,.m 2 42] (.ret [2])) .skip))) (.join [1,3,61] (.dreg 19 [.m 43 3,.v 44 .gtr 43 0,.m 45 44,.ay 46 2 1 45,.ly 47 46 45,.my 48 3 45,.vy 49 .sub 48 1 45,.ry 50 9 47 49 45,.ay 51 0 50 45,.ly 52 51 45,.ay 53 2 1 45,.ly 54 53 45,.my 55 3 45,.ry 56 9 54 55 45,.ay 57 0 56 45,.ly 58 57 45,.y 59 (.f 61 [.t 52,.t 58]) 45,.vy 60 .geq 59 0 45,.e 61 45 60]) (.i 61 (.g [.c 2 9] (.ret [2])) .skip)))) (.reg [.m 32 3,.v 33 .add 32 1,.m 3 33])))
theorem F27:compF Tryz.prog 27=some ⟨62,[.tmp 2],(.g [.q 1 24 0,.c 2 0] (.z [1] (.join [1] (.join [1,22] (.reg [.a 5 0 1,.l 6 5,.v 7 .lss 6 1,.m 8 7,.ax 9 0 1 8,.lx 10 9 8,.vx 11 .gtr 10 1048576 8,.o 12 8 11,.m 13 12,.ax 14 1 1 13,.lx 15 14 13,.vx 16 .lss 15 0 13,.o 17 13 16,.m 18 17,.ax 19 1 1 18,.lx 20 19 18,.vx 21 .gtr 20 9 18,.o 22 18 21]) (.i 22 (.g [.c 2 2] (.ret [2])) .skip)) (.join [1] (.g [.a 23 2 1,.l 24 23,.u 25 24,.v 26 .gtr 25 64] (.i 26 (.g [.c 2 5] (.ret [2])) .skip)) (.join [] (.g [.c 3 0] (.block 0 (.loop [1,3] [] B27_0))) (.g [.c 2 0] (.ret [2])))))))⟩:=by kernel_rfl
end Go.Proofs.YtdnpaifeoinjoaaGreatDoor

namespace Go.Proofs.YtdnpaifeoinjoaaGreatDoor
open Go.Sha
set_option maxRecDepth 10000
variable {g:List (Nat×Obj)}{n:Nat}
abbrev tim (v:Int):Prop:=0≤v∧v≤10000000
theorem f128 {v:Int}{st:St}:run Tryz.prog HH 128 [.int .i64 v] st=some (.ret (.bool (decide (tim v))),st):=by
 rw[run_shut F128 rfl rfl (by simp)]
 push_cast
 all_goals first|with_reducible rfl|exact dn_eq (by omega) (by with_reducible rfl)|((repeat' split)<;>(try simp_all)<;>(try (with_reducible refine dn_eq ?_ ?_<;>first|trivial|omega|rfl))<;>(try omega))
def labL:List UInt8→Int
 |[]=>0
 |q::r=>if(q.toNat:Int)<32∨126<(q.toNat:Int)∨(q.toNat:Int)=34 then 3 else labL r
theorem L101 {s:List UInt8}(hl:s.length<140737488355328):∀r j,s.drop j=r→runL Tryz.prog HH [0,3] n B101_0 [(0,.str s),(3,.int .i64 j)] (stN g n)=lpE (stN g n) [] 2 (labL r):=by
 refine drop_ind (fun j h=>?_) (fun q r j h hx hd ih=>?_)
 all_goals rw[runL_of B101_0.eq_1]
 ·have h1:¬(j:Int)<s.length:=by omega
  push_cast[h1,labL]
 ·have h1:(j:Int)<s.length:=by omega
  have hw:=iw1 (j:=j) (by omega)
  push_cast[h1,hw,hx]at ih ⊢
  simp only[ih,labL,lps,Int.reduceEq,not_false_eq_true]
  all_goals first|with_reducible rfl|exact dn_eq (by omega) (by with_reducible rfl)|((repeat' split)<;>(try simp_all)<;>(try (with_reducible refine dn_eq ?_ ?_<;>first|trivial|omega|rfl))<;>(try omega))
def labC (s:List UInt8):Int:=if 24<(s.length:Int) then 13 else labL s
theorem f101 {s:List UInt8}(hl:s.length<140737488355328){st:St}:run Tryz.prog HH 101 [.str s] st=some (.ret (.int .i64 (labC s)),st):=by
 rw[run_shut F101 rfl rfl (by simp)]
 have hL0:=fun n=>L101 (g:=st.x.gl) (n:=n) hl _ 0 rfl
 push_cast[labC]at hL0
 push_cast[labC,hL0,lpE,lpX,lpI,lpB]
 all_goals first|with_reducible rfl|exact dn_eq (by omega) (by with_reducible rfl)|((repeat' split)<;>(try simp_all)<;>(try (with_reducible refine dn_eq ?_ ?_<;>first|trivial|omega|rfl))<;>(try omega))
theorem L120 {s:List UInt8}(hl:s.length<140737488355328):∀r j,s.drop j=r→runL Tryz.prog HH [9,10,11] 1 B120_0 [(9,.osl 0 s.length),(10,.int .i64 s.length),(11,.int .i64 j)] (stO g 5 1 (s.map bV))=lpE (stO g 5 1 (s.map bV)) [] 2 (labL r):=by
 refine drop_ind (fun j h=>?_) (fun q r j h hx hd ih=>?_)
 all_goals rw[runL_of B120_0.eq_1]
 ·have h1:¬(j:Int)<s.length:=by omega
  push_cast[h1,labL]
 ·have h1:(j:Int)<s.length:=by omega
  have hw:=iw1 (j:=j) (by omega)
  have hk:∀d,(s.map bV).getD j d=bV q:=getD_drop hd
  push_cast[h1,hw,hx,bV,hk]at ih ⊢
  simp only[ih,labL,lps,Int.reduceEq,not_false_eq_true]
  all_goals first|with_reducible rfl|exact dn_eq (by omega) (by with_reducible rfl)|((repeat' split)<;>(try simp_all)<;>(try (with_reducible refine dn_eq ?_ ?_<;>first|trivial|omega|rfl))<;>(try omega))
def movX (x:Mov)(k:Nat)(y:Prm):Int:=if ¬prmC 1 x.prm=0 then prmC 1 x.prm else if ¬valC x.val=0 then valC x.val else if x.part<1∨4<x.part then 2 else if 0<(k:Int)∧0≤cmpP y x.prm then 9 else 0
theorem f64 {x:Mov}{l:List Mov}{st:St}(hl:l.length<140737488355328):run Tryz.prog HH 64 [x.v,.sl (l.map Mov.v)] st=some (.ret (.int .i64 (movX x l.length (l.getD (l.length-1) default).prm)),st):=by
 rw[run_shut F64 rfl rfl (by simp)]
 push_cast[Mov.v,p92,p86,p106,movX,iwrap_pred hl]
 all_goals first|with_reducible rfl|exact dn_eq (by omega) (by with_reducible rfl)|((repeat' split)<;>(try simp_all)<;>(try (with_reducible refine dn_eq ?_ ?_<;>first|trivial|omega|rfl))<;>(try omega))
theorem f120 {s:List UInt8}(hl:s.length<140737488355328){st:St}:run Tryz.prog HH 120 [.str s] st=some (.ret (.int .i64 (labC s)),st):=by
 rw[run_shut F120 rfl rfl (by simp)]
 have hL0:=L120 (g:=st.x.gl) hl _ 0 rfl
 push_cast at hL0
 push_cast[hL0,lpE,labC]
 exact dn_eq (by simp[maxLen];omega) rfl
theorem f265t {x:Mov}{l:List Mov}{j:Nat}{st:St}(hl:l.length<140737488355328)(h:j<l.length):run Tryz.prog HH 64 [x.v,.sl ((l.take j).map Mov.v)] st=some (.ret (.int .i64 (movX x j (l.getD (j-1) default).prm)),st):=by
 have h1:(l.take j).length=j:=by simp;omega
 rw[f64 (by omega),h1]
 cases j with
 |zero=>simp[movX]
 |succ k=>simp
def movsP (l:List Mov):List Mov→Nat→Int
 |[],_=>0
 |q::r,j=>if ¬movX q j (l.getD (j-1) default).prm=0 then movX q j (l.getD (j-1) default).prm else movsP l r (j+1)
theorem L30 {l:List Mov}(hl:l.length<140737488355328):∀r j,l.drop j=r→runL Tryz.prog HH [0,9,10,11] n B30_0 [(0,.sl (l.map Mov.v)),(9,.sl (l.map Mov.v)),(10,.int .i64 l.length),(11,.int .i64 j)] (stN g n)=lpE (stN g n) [] 2 (movsP l r j):=by
 refine drop_ind (fun j h=>?_) (fun q r j h hx hd ih=>?_)
 all_goals rw[runL_of B30_0.eq_1]
 ·have h1:¬(j:Int)<l.length:=by omega
  push_cast[h1,movsP,Mov.v]
 ·have h1:(j:Int)<l.length:=by omega
  have hw:=iw1 (j:=j) (by omega)
  have hm:=fun(x:Mov) (st:St)=>f265t (x:=x) (st:=st) hl h
  push_cast[h1,hw,hx,Mov.v,hm]at ih ⊢
  simp only[ih,movsP,lps,Int.reduceEq,not_false_eq_true]
  all_goals first|with_reducible rfl|exact dn_eq (by omega) (by with_reducible rfl)|((repeat' split)<;>(try simp_all)<;>(try (with_reducible refine dn_eq ?_ ?_<;>first|trivial|omega|rfl))<;>(try omega))
def movsR (l:List Mov):List Mov→Nat→Int
 |[],_=>0
 |q::r,j=>if ¬prmC 1 q.prm=0 then prmC 1 q.prm else if ¬valC q.val=0 then valC q.val else if q.part<1∨4<q.part then 2 else if 0<j∧befP (l.getD (j-1) default).prm q.prm=false then 9 else movsR l r (j+1)
theorem L102 {l:List Mov}(hl:l.length<140737488355328):∀r j,l.drop j=r→runL Tryz.prog HH [0,3] n B102_0 [(0,.sl (l.map Mov.v)),(3,.int .i64 j)] (stN g n)=lpE (stN g n) [] 2 (movsR l r j):=by
 refine drop_ind (fun j h=>?_) (fun q r j h hx hd ih=>?_)
 all_goals rw[runL_of B102_0.eq_1]
 ·have h1:¬(j:Int)<l.length:=by omega
  push_cast[h1,movsR,Mov.v]
 ·have h1:(j:Int)<l.length:=by omega
  have hw:=iw1 (j:=j) (by omega)
  push_cast[h1,hw,hx,Mov.v,p37,p38,p39,iwrap_pred (j:=j) (by omega)]at ih ⊢
  simp only[ih,movsR,lps,Int.reduceEq,not_false_eq_true]
  all_goals first|with_reducible rfl|exact dn_eq (by omega) (by with_reducible rfl)|((repeat' split)<;>(try simp_all)<;>(try (with_reducible refine dn_eq ?_ ?_<;>first|trivial|omega|rfl))<;>(try omega))
def movCP (l:List Mov):Int:=if 128<(l.length:Int) then 5 else movsP l l 0
def movCR (l:List Mov):Int:=if 128<(l.length:Int) then 5 else movsR l l 0
theorem f30 {l:List Mov}(hl:l.length<140737488355328){st:St}:run Tryz.prog HH 30 [.sl (l.map Mov.v)] st=some (.ret (.int .i64 (movCP l)),st):=by
 rw[run_shut F30 rfl rfl (by simp)]
 have hL0:=fun n=>L30 (g:=st.x.gl) (n:=n) hl _ 0 rfl
 push_cast[movCP]at hL0
 push_cast[movCP,hL0,lpE,lpX,lpI,lpB]
 all_goals first|with_reducible rfl|exact dn_eq (by omega) (by with_reducible rfl)|((repeat' split)<;>(try simp_all)<;>(try (with_reducible refine dn_eq ?_ ?_<;>first|trivial|omega|rfl))<;>(try omega))
theorem f102 {l:List Mov}(hl:l.length<140737488355328){st:St}:run Tryz.prog HH 102 [.sl (l.map Mov.v)] st=some (.ret (.int .i64 (movCR l)),st):=by
 rw[run_shut F102 rfl rfl (by simp)]
 have hL0:=fun n=>L102 (g:=st.x.gl) (n:=n) hl _ 0 rfl
 push_cast[movCR]at hL0
 push_cast[movCR,hL0,lpE,lpX,lpI,lpB]
 all_goals first|with_reducible rfl|exact dn_eq (by omega) (by with_reducible rfl)|((repeat' split)<;>(try simp_all)<;>(try (with_reducible refine dn_eq ?_ ?_<;>first|trivial|omega|rfl))<;>(try omega))
abbrev timB (q:Tim):Prop:=¬tim q.up∨¬tim q.down∨¬tim q.posi∨¬tim q.colour∨¬tim q.beam∨¬tim q.delay
def timL:List Tim→Int
 |[]=>0
 |q::r=>if timB q then 2 else timL r
theorem L103 {l:List Tim}(hl:l.length<140737488355328):∀r j,l.drop j=r→runL Tryz.prog HH [0,3] n B103_0 [(0,.sl (l.map Tim.v)),(3,.int .i64 j)] (stN g n)=lpE (stN g n) [] 2 (timL r):=by
 refine drop_ind (fun j h=>?_) (fun q r j h hx hd ih=>?_)
 all_goals rw[runL_of B103_0.eq_1]
 ·have h1:¬(j:Int)<l.length:=by omega
  push_cast[h1,timL,Tim.v]
 ·have h1:(j:Int)<l.length:=by omega
  have hw:=iw1 (j:=j) (by omega)
  push_cast[h1,hw,hx,Tim.v,f128]at ih ⊢
  simp only[ih,timL,lps,Int.reduceEq,not_false_eq_true]
  all_goals first|with_reducible rfl|exact dn_eq (by omega) (by with_reducible rfl)|((repeat' split)<;>(try simp_all)<;>(try (with_reducible refine dn_eq ?_ ?_<;>first|trivial|omega|rfl))<;>(try omega))
def timC (l:List Tim):Int:=if(l.length:Int)=0 then 12 else if 4<(l.length:Int) then 5 else timL l
theorem f103 {l:List Tim}(hl:l.length<140737488355328){st:St}:run Tryz.prog HH 103 [.sl (l.map Tim.v)] st=some (.ret (.int .i64 (timC l)),st):=by
 rw[run_shut F103 rfl rfl (by simp)]
 have hL0:=fun n=>L103 (g:=st.x.gl) (n:=n) hl _ 0 rfl
 push_cast[timC]at hL0
 push_cast[timC,hL0,lpE,lpX,lpI,lpB]
 all_goals first|with_reducible rfl|exact dn_eq (by omega) (by with_reducible rfl)|((repeat' split)<;>(try simp_all)<;>(try (with_reducible refine dn_eq ?_ ?_<;>first|trivial|omega|rfl))<;>(try omega))
theorem tN {v:Int}:(v<0∨10000000<v)=¬tim v:=propext (by unfold tim;omega)
theorem L122 {x:Cu}(hl:x.parts.length<140737488355328):∀r j,x.parts.drop j=r→runL Tryz.prog HH [1,18,19,20] n B122_1 [(1,.ep x.v 0),(18,.sl (x.parts.map Tim.v)),(19,.int .i64 x.parts.length),(20,.int .i64 j)] (stN g n)=lpX 1 (stN g n) [(1,.ep x.v 0)] 2 (timL r):=by
 refine drop_ind (fun j h=>?_) (fun q r j h hx hd ih=>?_)
 all_goals rw[runL_of B122_1.eq_1]
 ·have h1:¬(j:Int)<x.parts.length:=by omega
  push_cast[h1,timL,timB,mgO,Cu.v,Tim.v]
 ·have h1:(j:Int)<x.parts.length:=by omega
  have hw:=iw1 (j:=j) (by omega)
  push_cast[h1,hw,hx,Cu.v,Tim.v,runL_of B122_0.eq_1,tN]at ih ⊢
  simp only[ih,timL,timB,mgO,lps,Int.reduceEq,not_false_eq_true]
  all_goals first|with_reducible rfl|exact dn_eq (by omega) (by with_reducible rfl)|((repeat' split)<;>(try simp_all)<;>(try (with_reducible refine dn_eq ?_ ?_<;>first|trivial|omega|rfl))<;>(try omega))
theorem f142 {q:Mov}{x:Cu}{st:St}:run Tryz.prog HH 142 [q.v,.ep x.v 0] st=some (.ret (.bool (decide ((x.parts.length:Int)<q.part))),st):=by
 rw[run_shut F142 rfl rfl (by simp)]
 push_cast[Mov.v,Cu.v]
 all_goals first|with_reducible rfl|exact dn_eq (by omega) (by with_reducible rfl)|((repeat' split)<;>(try simp_all)<;>(try (with_reducible refine dn_eq ?_ ?_<;>first|trivial|omega|rfl))<;>(try omega))
theorem f11 {x:Cu}(hl:x.moves.length<140737488355328){st:St}:run Tryz.prog HH 11 [.sl (x.moves.map Mov.v),.fn (.func 142) [] [.ep x.v 0]] st=some (.ret (.int .i64 (ix (fun q=>decide ((x.parts.length:Int)<q.part)) x.moves 0)),st) :=
 IxF (f:=Mov.v) (n:=some 5) (fun _=>rfl) (fun _=>rfl) F11 rfl (by simp) hl (fun q _ _=>f142) (fun _ _=>rfl) (fun _=>rfl)
def parC (x:Cu):Int:=if(x.parts.length:Int)=0 then 12 else if 4<(x.parts.length:Int) then 5 else if timL x.parts=0 then if x.moves.any (fun q=>decide ((x.parts.length:Int)<q.part))=true then 6 else 0 else timL x.parts
theorem f122 {x:Cu}(hl:x.parts.length<140737488355328)(hm:x.moves.length<140737488355328){st:St}:run Tryz.prog HH 122 [x.v] st=some (.ret (.int .i64 (parC x)),st):=by
 have h284:=fun(st:St)=>f11 (st:=st) hm
 push_cast[Cu.v]at h284
 rw[run_shut F122 rfl rfl (by simp)]
 have hL0:=fun n=>L122 (g:=st.x.gl) (n:=n) hl _ 0 rfl
 push_cast[Cu.v,parC,h284,ix_ge,(fun(a0 a1:V) (st:St) (h:V.bdL 0 [a0,a1]=true)=>run_shut (P:=Tryz.prog) (H:=HH) (args:=[a0,a1]) (st:=st) F95 rfl rfl h)]at hL0
 push_cast[Cu.v,parC,h284,ix_ge,(fun(a0 a1:V) (st:St) (h:V.bdL 0 [a0,a1]=true)=>run_shut (P:=Tryz.prog) (H:=HH) (args:=[a0,a1]) (st:=st) F95 rfl rfl h),hL0,lpE,lpX,lpI,lpB]
 all_goals first|with_reducible rfl|exact dn_eq (by omega) (by with_reducible rfl)|((repeat' split)<;>(try simp_all)<;>(try (with_reducible refine dn_eq ?_ ?_<;>first|trivial|omega|rfl))<;>(try omega))
def nxtC (x:Cu):Int:=if ¬x.follow=-1∧(x.follow<25∨10000000<x.follow) then 2 else if ¬x.link=[]∧¬numC x.link=0 then numC x.link else if x.loops<0∨100<x.loops then 2 else if 0<x.loops∧x.link=[] then 11 else 0
theorem f123 {x:Cu}(hl:x.link.length<140737488355328){st:St}:run Tryz.prog HH 123 [x.v] st=some (.ret (.int .i64 (nxtC x)),st):=by
 rw[run_shut F123 rfl rfl (by simp)]
 push_cast[Cu.v,f118 hl,nxtC]
 all_goals first|with_reducible rfl|exact dn_eq (by omega) (by with_reducible rfl)|((repeat' split)<;>(try simp_all)<;>(try (with_reducible refine dn_eq ?_ ?_<;>first|trivial|omega|rfl))<;>(try omega))
theorem f104 {x:Cu}(hl:x.link.length<140737488355328){st:St}:run Tryz.prog HH 104 [x.v] st=some (.ret (.int .i64 (nxtC x)),st):=by
 rw[run_shut F104 rfl rfl (by simp)]
 push_cast[Cu.v,f100 hl,nxtC]
 all_goals first|with_reducible rfl|exact dn_eq (by omega) (by with_reducible rfl)|((repeat' split)<;>(try simp_all)<;>(try (with_reducible refine dn_eq ?_ ?_<;>first|trivial|omega|rfl))<;>(try omega))
structure Cu.ok (x:Cu):Prop where
 a:x.num.length<140737488355328
 b:x.label.length<140737488355328
 c:x.moves.length<140737488355328
 d:x.parts.length<140737488355328
 e:x.link.length<140737488355328
theorem f117 {x:Cu}(hl:x.num.length<140737488355328){st:St}:run Tryz.prog HH 117 [x.v] st=some (.ret (.int .i64 (numC x.num)),st):=by
 rw[run_shut F117 rfl rfl (by simp)]
 push_cast[Cu.v,f118 hl]
 all_goals first|with_reducible rfl|exact dn_eq (by omega) (by with_reducible rfl)|((repeat' split)<;>(try simp_all)<;>(try (with_reducible refine dn_eq ?_ ?_<;>first|trivial|omega|rfl))<;>(try omega))
theorem f119 {x:Cu}(h:x.ok){st:St}:run Tryz.prog HH 119 [x.v] st=some (.ret (.int .i64 (labC x.label)),st):=by
 rw[run_shut F119 rfl rfl (by simp)]
 push_cast[Cu.v,f120 h.b]
 all_goals first|with_reducible rfl|exact dn_eq (by omega) (by with_reducible rfl)|((repeat' split)<;>(try simp_all)<;>(try (with_reducible refine dn_eq ?_ ?_<;>first|trivial|omega|rfl))<;>(try omega))
theorem f121 {x:Cu}(h:x.ok){st:St}:run Tryz.prog HH 121 [x.v] st=some (.ret (.int .i64 (movCP x.moves)),st):=by
 rw[run_shut F121 rfl rfl (by simp)]
 push_cast[Cu.v,f30 h.c]
 all_goals first|with_reducible rfl|exact dn_eq (by omega) (by with_reducible rfl)|((repeat' split)<;>(try simp_all)<;>(try (with_reducible refine dn_eq ?_ ?_<;>first|trivial|omega|rfl))<;>(try omega))
def cueP (x:Cu):Int:=if ¬numC x.num=0 then numC x.num else if ¬labC x.label=0 then labC x.label else if ¬movCP x.moves=0 then movCP x.moves else if ¬parC x=0 then parC x else nxtC x
theorem f91 {x:Cu}(h:x.ok){st:St}:run Tryz.prog HH 91 [x.v] st=some (.ret (.int .i64 (cueP x)),st):=by
 rw[run_shut F91 rfl rfl (by simp)]
 push_cast[Cu.v,f117 h.a,f119 h,f121 h,f122 h.d h.c,f123 h.e,cueP,runL_of B91_0.eq_1]
 all_goals first|with_reducible rfl|exact dn_eq (by omega) (by with_reducible rfl)|((repeat' split)<;>(try simp_all)<;>(try (with_reducible refine dn_eq ?_ ?_<;>first|trivial|omega|rfl))<;>(try omega))
def mpL (n:Int):List Mov→Int
 |[]=>0
 |q::r=>if n<q.part then 6 else mpL n r
theorem mpL_eq {n:Int}:∀{l:List Mov},mpL n l=if l.any (fun q=>decide (n<q.part))=true then 6 else 0
 |[]=>rfl
 |q::r=>by by_cases h:n<q.part<;>simp[mpL,h,mpL_eq (l:=r)]
theorem L60 {x:Cu}(hl:x.moves.length<140737488355328):∀r j,x.moves.drop j=r→runL Tryz.prog HH [1,7] n B60_0 [(1,.ep x.v 0),(7,.int .i64 j)] (stN g n)=lpX 0 (stN g n) [(1,.ep x.v 0)] 2 (mpL x.parts.length r):=by
 refine drop_ind (fun j h=>?_) (fun q r j h hx hd ih=>?_)
 all_goals rw[runL_of B60_0.eq_1]
 ·have h1:¬(j:Int)<x.moves.length:=by omega
  push_cast[h1,mpL,Cu.v,Mov.v]
 ·have h1:(j:Int)<x.moves.length:=by omega
  have hw:=iw1 (j:=j) (by omega)
  push_cast[h1,hw,hx,Cu.v,Mov.v]at ih ⊢
  simp only[ih,mpL,lps,Int.reduceEq,not_false_eq_true]
  all_goals first|with_reducible rfl|exact dn_eq (by omega) (by with_reducible rfl)|((repeat' split)<;>(try simp_all)<;>(try (with_reducible refine dn_eq ?_ ?_<;>first|trivial|omega|rfl))<;>(try omega))
def cueR (x:Cu):Int:=if ¬numC x.num=0 then numC x.num else if ¬labC x.label=0 then labC x.label else if ¬movCR x.moves=0 then movCR x.moves else if ¬timC x.parts=0 then timC x.parts else if mpL x.parts.length x.moves=0 then nxtC x else mpL x.parts.length x.moves
theorem f60 {x:Cu}(h:x.ok){st:St}:run Tryz.prog HH 60 [x.v] st=some (.ret (.int .i64 (cueR x)),st):=by
 rw[run_shut F60 rfl rfl (by simp)]
 have hL0:=fun n=>L60 (g:=st.x.gl) (n:=n) h.c _ 0 rfl
 push_cast[Cu.v,f100 h.a,f101 h.b,f102 h.c,f103 h.d,f104 h.e,cueR]at hL0
 push_cast[Cu.v,f100 h.a,f101 h.b,f102 h.c,f103 h.d,f104 h.e,cueR,hL0,lpE,lpX,lpI,lpB]
 all_goals first|with_reducible rfl|exact dn_eq (by omega) (by with_reducible rfl)|((repeat' split)<;>(try simp_all)<;>(try (with_reducible refine dn_eq ?_ ?_<;>first|trivial|omega|rfl))<;>(try omega))
theorem getD_ok {α:Type}[Inhabited α]{ok:α→Prop}{l:List α}(h:∀q∈l,ok q)(h0:ok default)(k:Nat):ok (l.getD k default):=by
 rw[List.getD_eq_getElem?_getD]
 by_cases hk:k<l.length
 ·rw[List.getElem?_eq_getElem hk];exact h _ (List.getElem_mem _)
 ·rw[List.getElem?_eq_none (by omega)];exact h0
theorem Cu.ok0:(default:Cu).ok:=⟨by decide,by decide,by decide,by decide,by decide⟩
theorem f133 {s t:List UInt8}(hl:s.length<140737488355328)(hk:t.length<140737488355328){st:St}:run Tryz.prog HH 133 [.str s,.str t] st=some (.ret (.int .i64 (cmpN s t)),st):=by
 rw[run_shut F133 rfl rfl (by simp)]
 push_cast[f155 hl hk]
 all_goals first|with_reducible rfl|exact dn_eq (by omega) (by with_reducible rfl)|((repeat' split)<;>(try simp_all)<;>(try (with_reducible refine dn_eq ?_ ?_<;>first|trivial|omega|rfl))<;>(try omega))
def cuesP (l:List Cu):List Cu→Nat→Int
 |[],_=>0
 |q::r,j=>if ¬cueP q=0 then cueP q else if 0<j∧0≤cmpN (l.getD (j-1) default).num q.num then 9 else cuesP l r (j+1)
theorem L113 {x:Lst}(hl:x.cues.length<140737488355328)(hb:∀q∈x.cues,q.ok):∀r j,x.cues.drop j=r→runL Tryz.prog HH [1,31,32,33] n B113_0 [(1,.ep x.v 0),(31,.sl (x.cues.map Cu.v)),(32,.int .i64 x.cues.length),(33,.int .i64 j)] (stN g n)=lpX 1 (stN g n) [] 2 (cuesP x.cues r j):=by
 refine drop_ind (fun j h=>?_) (fun q r j h hx hd ih=>?_)
 all_goals rw[runL_of B113_0.eq_1]
 ·have h1:¬(j:Int)<x.cues.length:=by omega
  push_cast[h1,cuesP,Lst.v,Cu.v]
 ·have h1:(j:Int)<x.cues.length:=by omega
  have hw:=iw1 (j:=j) (by omega)
  have hq:q.ok:=hb q (List.mem_of_mem_drop (hd▸List.mem_cons_self ..))
  push_cast[h1,hw,hx,Lst.v,Cu.v,f91 hq,f133 (getD_ok hb Cu.ok0 _).a hq.a,iwrap_pred (j:=j) (by omega)]at ih ⊢
  simp only[ih,cuesP,lps,Int.reduceEq,not_false_eq_true]
  all_goals first|with_reducible rfl|exact dn_eq (by omega) (by with_reducible rfl)|((repeat' split)<;>(try simp_all)<;>(try (with_reducible refine dn_eq ?_ ?_<;>first|trivial|omega|rfl))<;>(try omega))
def ordR (s t:List UInt8):Int:=if refV s<refV t then -1 else if refV t<refV s then 1 else 0
def cuesR (l:List Cu):List Cu→Nat→Int
 |[],_=>0
 |q::r,j=>if ¬cueR q=0 then cueR q else if 0<j∧0≤ordR (l.getD (j-1) default).num q.num then 9 else cuesR l r (j+1)
theorem L27 {x:Lst}(hl:x.cues.length<140737488355328)(hb:∀q∈x.cues,q.ok):∀r j,x.cues.drop j=r→runL Tryz.prog HH [1,3] n B27_0 [(1,.ep x.v 0),(3,.int .i64 j)] (stN g n)=lpE (stN g n) [] 2 (cuesR x.cues r j):=by
 refine drop_ind (fun j h=>?_) (fun q r j h hx hd ih=>?_)
 all_goals rw[runL_of B27_0.eq_1]
 ·have h1:¬(j:Int)<x.cues.length:=by omega
  push_cast[h1,cuesR,ordR,Lst.v,Cu.v]
 ·have h1:(j:Int)<x.cues.length:=by omega
  have hw:=iw1 (j:=j) (by omega)
  have hq:q.ok:=hb q (List.mem_of_mem_drop (hd▸List.mem_cons_self ..))
  push_cast[h1,hw,hx,Lst.v,Cu.v,f60 hq,f61 (getD_ok hb Cu.ok0 _).a hq.a,iwrap_pred (j:=j) (by omega)]at ih ⊢
  simp only[ih,cuesR,ordR,lps,Int.reduceEq,not_false_eq_true]
  all_goals first|with_reducible rfl|exact dn_eq (by omega) (by with_reducible rfl)|((repeat' split)<;>(try simp_all)<;>(try (with_reducible refine dn_eq ?_ ?_<;>first|trivial|omega|rfl))<;>(try omega))
structure Lst.ok (x:Lst):Prop where
 a:x.cues.length<140737488355328
 b:∀q∈x.cues,q.ok
abbrev lstB (x:Lst):Prop:=x.num<1∨1048576<x.num∨x.prio<0∨9<x.prio
def lstP (x:Lst):Int:=if lstB x then 2 else if 64<(x.cues.length:Int) then 5 else cuesP x.cues x.cues 0
def lstR (x:Lst):Int:=if lstB x then 2 else if 64<(x.cues.length:Int) then 5 else cuesR x.cues x.cues 0
theorem f113 {x:Lst}(h:x.ok){st:St}:run Tryz.prog HH 113 [x.v] st=some (.ret (.int .i64 (lstP x)),st):=by
 rw[run_shut F113 rfl rfl (by simp)]
 have hL0:=fun n=>L113 (g:=st.x.gl) (n:=n) h.a h.b _ 0 rfl
 push_cast[Lst.v,lstP,lstB]at hL0
 push_cast[Lst.v,lstP,lstB,hL0,lpE,lpX,lpI,lpB]
 all_goals first|with_reducible rfl|exact dn_eq (by omega) (by with_reducible rfl)|((repeat' split)<;>(try simp_all)<;>(try (with_reducible refine dn_eq ?_ ?_<;>first|trivial|omega|rfl))<;>(try omega))
theorem f27 {x:Lst}(h:x.ok){st:St}:run Tryz.prog HH 27 [x.v] st=some (.ret (.int .i64 (lstR x)),st):=by
 rw[run_shut F27 rfl rfl (by simp)]
 have hL0:=fun n=>L27 (g:=st.x.gl) (n:=n) h.a h.b _ 0 rfl
 push_cast[Lst.v,lstR,lstB]at hL0
 push_cast[Lst.v,lstR,lstB,hL0,lpE,lpX,lpI,lpB]
 all_goals first|with_reducible rfl|exact dn_eq (by omega) (by with_reducible rfl)|((repeat' split)<;>(try simp_all)<;>(try (with_reducible refine dn_eq ?_ ?_<;>first|trivial|omega|rfl))<;>(try omega))
end Go.Proofs.YtdnpaifeoinjoaaGreatDoor

namespace Go.Proofs.YtdnpaifeoinjoaaGreatDoor
open Go.Sha
set_option maxRecDepth 100000
variable {g:List (Nat×Obj)}{n:Nat}
theorem mem_at {α:Type}{l r:List α}{q:α}{j:Nat}(hd:l.drop j=q::r):q∈l:=List.mem_of_mem_drop (hd▸List.mem_cons_self ..)
end Go.Proofs.YtdnpaifeoinjoaaGreatDoor

namespace Go.Proofs.YtdnpaifeoinjoaaGreatDoor
open Go.Sha
set_option maxRecDepth 100000
variable {g:List (Nat×Obj)}{n:Nat}
theorem take_snoc {α:Type}{l r:List α}{q:α}{j:Nat}(hd:l.drop j=q::r):l.take (j+1)=l.take j++[q]:=by
 have h:=congrArg (·[0]?) hd
 simp at h
 rw[List.take_add_one,h];rfl
end Go.Proofs.YtdnpaifeoinjoaaGreatDoor

namespace Go.Proofs.YtdnpaifeoinjoaaGreatDoor
open Go.Sha
set_option maxRecDepth 100000
theorem prmC_ok {c:Int}{x:Prm}(h:prmC c x=0):c≤x.chan∧x.chan≤999∧0≤x.attr∧x.attr≤14:=by
 unfold prmC at h;split at h<;>omega
theorem cmp_bef {x y:Prm}{c d:Int}(hc:0≤c)(hd:0≤d)(hx:prmC c x=0)(hy:prmC d y=0):(0≤cmpP x y)=(befP x y=false):=by
 have a:=prmC_ok hx;have b:=prmC_ok hy
 have w1:IntKind.i64.wrap (x.chan-y.chan)=x.chan-y.chan:=iwrap (by omega) (by omega)
 have w2:IntKind.i64.wrap (x.attr-y.attr)=x.attr-y.attr:=iwrap (by omega) (by omega)
 unfold cmpP befP
 rw[w1,w2,eq_iff_iff]
 simp only[Bool.or_eq_false_iff,Bool.and_eq_false_iff,decide_eq_false_iff_not]
 split<;>omega
theorem mem_prev {α:Type}[Inhabited α]{l:List α}{j:Nat}(h0:0<j)(h:j≤l.length):l.getD (j-1) default∈l.take j:=by
 rw[List.getD_eq_getElem?_getD,List.getElem?_eq_getElem (by omega)]
 exact List.mem_iff_getElem?.2 ⟨j-1,by rw[List.getElem?_take,if_pos (by omega),List.getElem?_eq_getElem (by omega)];rfl⟩
theorem drop_le {α:Type}{l r:List α}{q:α}{j:Nat}(hd:l.drop j=q::r):j<l.length:=by
 have:=congrArg List.length hd;simp at this;omega
theorem all_snoc {α:Type}{l r:List α}{q:α}{j:Nat}{P:α→Prop}(hd:l.drop j=q::r)(h:∀z∈l.take j,P z)(hq:P q):∀z∈l.take (j+1),P z:=by
 rw[take_snoc hd];intro z hz
 rcases List.mem_append.1 hz with hz|hz
 ·exact h z hz
 ·rw[List.mem_singleton.1 hz];exact hq
theorem drop_succ {α:Type}{l r:List α}{q:α}{j:Nat}(hd:l.drop j=q::r):l.drop (j+1)=r:=by rw[←List.drop_drop,hd];rfl
theorem movsP_eq {l:List Mov}:∀{r:List Mov}{j:Nat},l.drop j=r→(∀z∈l.take j,prmC 1 z.prm=0)→movsP l r j=movsR l r j
 |[],_,_,_=>rfl
 |q::r,j,hd,hz=>by
  rw[movsP,movsR]
  unfold movX
  by_cases h1:prmC 1 q.prm=0
  ·rw[movsP_eq (drop_succ hd) (all_snoc (P:=fun z=>prmC 1 z.prm=0) hd hz h1)]
   have e:(0<(j:Int)∧0≤cmpP (l.getD (j-1) default).prm q.prm)=(0<j∧befP (l.getD (j-1) default).prm q.prm=false):=by
    rw[eq_iff_iff,show(0<(j:Int))=(0<j) by simp]
    refine and_congr_right fun h0=>?_
    rw[cmp_bef (by omega) (by omega) (hz _ (mem_prev h0 (Nat.le_of_lt (drop_le hd)))) h1]
   simp only[h1,e]
   by_cases h2:valC q.val=0
   ·by_cases h3:q.part<1∨4<q.part
    ·simp[h2,h3]
    ·by_cases h4:0<j∧befP (l.getD (j-1) default).prm q.prm=false
     ·simp only[h2,if_neg h3,if_pos h4];rfl
     ·simp only[h2,if_neg h3,if_neg h4];rfl
   ·simp[h2]
  ·simp[h1]
theorem movC_eq {l:List Mov}:movCP l=movCR l:=by unfold movCP movCR;rw[movsP_eq (l:=l) (r:=l) (j:=0) rfl (by simp)]
theorem cue_eq {x:Cu}:cueP x=cueR x:=by
 unfold cueP cueR
 rw[movC_eq,mpL_eq]
 unfold parC timC
 by_cases a1:numC x.num=0<;>by_cases a2:labC x.label=0<;>by_cases a3:movCR x.moves=0<;>simp only[a1,a2,a3,not_true_eq_false,not_false_eq_true,if_true,if_false]
 by_cases a4:(x.parts.length:Int)=0
 ·simp only[if_pos a4];rfl
 ·by_cases a5:4<(x.parts.length:Int)
  ·simp only[if_neg a4,if_pos a5];rfl
  ·by_cases a6:timL x.parts=0
   ·by_cases a7:(x.moves.any fun q=>decide ((x.parts.length:Int)<q.part))=true
    ·simp only[a4,a5,a6,a7,if_true,if_false,not_true_eq_false];rfl
    ·simp only[a4,a5,a6,a7,if_true,if_false,not_true_eq_false];rfl
   ·simp only[if_neg a4,if_neg a5,if_neg a6,if_pos a6,not_false_eq_true,if_true]
end Go.Proofs.YtdnpaifeoinjoaaGreatDoor

namespace Go.Proofs.YtdnpaifeoinjoaaGreatDoor
open Go.Sha
set_option maxRecDepth 100000
variable {g:List (Nat×Obj)}{n:Nat}
theorem isD_val {b:UInt8}(h:isD b=true):IntKind.u8.wrap ((b.toNat:Int)-48)=((b.toNat-48:Nat):Int)∧b.toNat-48≤9:=by
 simp only[isD,Bool.and_eq_true,decide_eq_true_eq]at h
 refine⟨?_,by omega⟩
 unfold IntKind.wrap
 simp[IntKind.bits,IntKind.signed]
 omega
theorem step_nat {m k:Nat}(hm:m≤100000000000000)(hk:k≤9):IntKind.i64.wrap (IntKind.i64.wrap (10*(m:Int))+IntKind.i64.wrap (k:Int))=((10*m+k:Nat):Int):=by
 have w1:IntKind.i64.wrap (10*(m:Int))=10*(m:Int):=iwrap (by omega) (by omega)
 have w2:IntKind.i64.wrap (k:Int)=(k:Int):=iwrap (by omega) (by omega)
 rw[w1,w2]
 have w3:IntKind.i64.wrap (10*(m:Int)+k)=10*(m:Int)+k:=iwrap (by omega) (by omega)
 rw[w3];omega
theorem vwL_nat:∀{w:List UInt8}{m B:Nat},(∀b∈w,isD b=true)→w.length≤B→m<10 ^ (10-B)→B≤10→vwL w m=((w.foldl (fun n b=>10*n+(b.toNat-48)) m:Nat):Int)∧w.foldl (fun n b=>10*n+(b.toNat-48)) m<10 ^ (10-B+w.length)
 |[],m,B,_,_,h,_=>⟨rfl,by simpa using h⟩
 |b::r,m,B,hw,hl,h,hB=>by
  simp at hl
  obtain⟨e,hk⟩:=isD_val (hw b (List.mem_cons_self ..))
  have hp:10 ^ (10-B)≤10 ^ 10:=Nat.pow_le_pow_right (by omega) (by omega)
  have h2:10*m+(b.toNat-48)<10 ^ (10-(B-1)):=by
   rw[show 10-(B-1)=(10-B)+1 by omega,Nat.pow_succ];omega
  have ih:=vwL_nat (w:=r) (m:=10*m+(b.toNat-48)) (B:=B-1) (fun x hx=>hw x (List.mem_cons_of_mem _ hx)) (by omega) h2 (by omega)
  rw[vwL,e,step_nat (by omega) hk,List.foldl_cons]
  refine⟨ih.1,?_⟩
  have:=ih.2
  rwa [show 10-(B-1)+r.length=10-B+(b::r).length by simp;omega]at this
def pdB (r:List UInt8)(k:Nat):UInt8:=if k<r.length then r.getD k 0 else 48
theorem pad_3 {r:List UInt8}:(r++[48,48,48]).take 3=[pdB r 0,pdB r 1,pdB r 2]:=by
 match r with
 |[]=>rfl
 |[a]=>simp[pdB]
 |[a,b]=>simp[pdB]
 |a::b::c::r=>simp[pdB]
theorem nxV_nat {r:List UInt8}{k m:Nat}(hr:∀b∈r,isD b=true)(hm:m≤100000000000000):nxV r k m=((10*m+((pdB r k).toNat-48):Nat):Int):=by
 unfold nxV pdB
 by_cases h:k<r.length
 ·rw[if_pos (by omega),if_pos h]
  obtain⟨e,hk⟩:=isD_val (hr (r.getD k 0) (by rw[List.getD_eq_getElem?_getD,List.getElem?_eq_getElem h];exact List.getElem_mem h))
  rw[e,step_nat hm hk]
 ·rw[if_neg (by omega),if_neg h]
  have w1:IntKind.i64.wrap (10*(m:Int))=10*(m:Int):=iwrap (by omega) (by omega)
  rw[w1]
  have:(48:UInt8).toNat=48:=rfl
  omega
theorem pd_le {r:List UInt8}{k:Nat}(hr:∀b∈r,isD b=true):(pdB r k).toNat-48≤9:=by
 unfold pdB
 split
 ·rename_i h
  exact(isD_val (hr (r.getD k 0) (by rw[List.getD_eq_getElem?_getD,List.getElem?_eq_getElem h];exact List.getElem_mem h))).2
 ·decide
theorem numC_parts {s:List UInt8}(h:numC s=0):(∀b∈nW s,isD b=true)∧(∀b∈nR s,isD b=true)∧(nW s).length≤4∧(nR s).length≤3:=by
 unfold numC at h
 split at h
 ·cases h
 ·rename_i h1
  split at h
  ·cases h
  ·rename_i h2
   split at h
   ·cases h
   ·split at h
    ·cases h
    ·rename_i h3 h4
     refine⟨digB_all (by simpa using h1),?_,by omega,by omega⟩
     cases hc:s.contains 46 with
     |false=>rw[(n_none hc).2];simp
     |true=>rw[hc]at h2;simp at h2;exact digB_all h2.1
theorem val_eq {s:List UInt8}(h:numC s=0):valN s=refV s:=by
 obtain⟨a1,a2,a3,a4⟩:=numC_parts h
 obtain⟨e1,e2⟩:=vwL_nat (w:=nW s) (m:=0) (B:=10) a1 (by omega) (by simp) (Nat.le_refl _)
 have hp:10 ^ (10-10+(nW s).length)≤10 ^ 4:=Nat.pow_le_pow_right (by omega) (by omega)
 generalize hN:(nW s).foldl (fun n b=>10*n+(b.toNat-48)) 0=N at e1 e2
 have p0:=pd_le (k:=0) a2;have p1:=pd_le (k:=1) a2;have p2:=pd_le (k:=2) a2
 unfold valN refV
 rw[if_pos h,show(0:Int)=((0:Nat):Int) from rfl,e1,nxV_nat a2 (by omega),nxV_nat a2 (by omega),nxV_nat a2 (by omega),natOf,numS,pad_3,List.foldl_append,hN]
 rfl
theorem cueP_num {x:Cu}(h:cueR x=0):numC x.num=0:=by
 unfold cueR at h
 split at h
 ·rename_i a;exact absurd h a
 ·rename_i a;exact Classical.not_not.1 a
theorem cuesP_eq {l:List Cu}:∀{r:List Cu}{j:Nat},l.drop j=r→(∀z∈l.take j,cueR z=0)→cuesP l r j=cuesR l r j
 |[],_,_,_=>rfl
 |q::r,j,hd,hz=>by
  rw[cuesP,cuesR,cue_eq]
  by_cases h1:cueR q=0
  ·rw[cuesP_eq (drop_succ hd) (all_snoc (P:=fun z=>cueR z=0) hd hz h1)]
   have e:(0<j∧0≤cmpN (l.getD (j-1) default).num q.num)=(0<j∧0≤ordR (l.getD (j-1) default).num q.num):=by
    rw[eq_iff_iff]
    refine and_congr_right fun h0=>?_
    have a:=cueP_num (hz _ (mem_prev h0 (Nat.le_of_lt (drop_le hd))))
    have b:=cueP_num h1
    unfold cmpN ordR
    rw[if_neg (by rw[a,b];simp),val_eq a,val_eq b]
   simp only[e]
  ·rw[if_pos h1,if_pos h1]
theorem lst_eq {x:Lst}:lstP x=lstR x:=by unfold lstP lstR;rw[cuesP_eq (l:=x.cues) (r:=x.cues) (j:=0) rfl (by simp)]
end Go.Proofs.YtdnpaifeoinjoaaGreatDoor

namespace Go.Proofs.YtdnpaifeoinjoaaGreatDoor
open Go.Sha
set_option maxRecDepth 10000
def B26_0:Cd:=(.join [1,3,4] (.g [.m 15 4,.a 16 2 1,.l 17 16,.u 18 17,.b 19 .lss 15 18] (.i 19 .skip (.exit [] 0))) (.join [1,3,4] (.block 1 (.g [.m 22 3,.a 23 2 1,.l 24 23,.m 25 4,.r 26 9 24 25,.a 27 2 26,.l 28 27,.u 29 28,.b 30 .add 22 29,.m 3 30] (.join [1,3,4,42] (.reg [.a 31 2 1,.l 32 31,.m 33 4,.r 34 9 32 33,.a 35 2 34,.l 36 35,.u 37 36,.v 38 .gtr 37 20,.m 39 38,.mx 40 3 39,.vx 41 .gtr 40 30 39,.o 42 39 41]) (.i 42 (.g [.d 43 3 1,.f 44 27 43,.v 45 .neq 44 0,.m 2 45] (.ret [2])) .skip)))) (.reg [.m 20 4,.v 21 .add 20 1,.m 4 21])))
theorem F26:compF Tryz.prog 26=some ⟨46,[.tmp 2],(.g [.q 1 24 0,.k 2 false] (.z [1] (.join [1] (.g [.d 5 3 1,.f 6 59 5,.z 7 6] (.i 7 (.g [.k 2 false] (.ret [2])) .skip)) (.join [1] (.g [.a 8 2 1,.l 9 8,.u 10 9,.v 11 .gtr 10 10] (.i 11 (.g [.d 12 3 1,.f 13 27 12,.v 14 .neq 13 0,.m 2 14] (.ret [2])) .skip)) (.g [.c 3 0] (.join [] (.g [.c 4 0] (.block 0 (.loop [1,3,4] [] B26_0))) (.g [.k 2 true] (.ret [2]))))))))⟩:=by kernel_rfl
def B59_0:Cd:=(.join [1,3] (.g [.m 8 3,.a 9 2 1,.l 10 9,.u 11 10,.b 12 .lss 8 11] (.i 12 .skip (.exit [] 0))) (.join [1,3] (.block 1 (.g [.a 15 2 1,.l 16 15,.m 17 3,.r 18 9 16 17,.d 19 9 18,.f 20 99 19,.z 21 20] (.i 21 (.g [.k 2 false] (.ret [2])) .skip))) (.reg [.m 13 3,.v 14 .add 13 1,.m 3 14])))
theorem F59:compF Tryz.prog 59=some ⟨22,[.tmp 2],(.g [.q 1 24 0,.k 2 false] (.z [1] (.join [1] (.g [.a 4 2 1,.l 5 4,.u 6 5,.v 7 .gtr 6 128] (.i 7 (.g [.k 2 false] (.ret [2])) .skip)) (.join [] (.g [.c 3 0] (.block 0 (.loop [1,3] [] B59_0))) (.g [.k 2 true] (.ret [2]))))))⟩:=by kernel_rfl
theorem F99:compF Tryz.prog 99=some ⟨30,[.tmp 2],(.g [.q 1 30 0,.k 2 false] (.z [1] (.join [2] (.reg [.a 3 0 1,.l 4 3,.s 5 (.lens (.t 4)),.v 6 .leq 5 40,.m 7 6,.ay 8 1 1 7,.ly 9 8 7,.y 10 (.lens (.t 9)) 7,.vy 11 .leq 10 100 7,.e 12 7 11,.m 13 12,.ay 14 7 1 13,.ly 15 14 13,.y 16 (.lens (.t 15)) 13,.vy 17 .leq 16 40 13,.e 18 13 17,.m 19 18,.ay 20 3 1 19,.ly 21 20 19,.y 22 (.len (.t 21)) 19,.vy 23 .leq 22 10 19,.e 24 19 23,.m 25 24,.ay 26 2 1 25,.ly 27 26 25,.y 28 (.f 125 [.t 27]) 25,.e 29 25 28,.m 2 29]) (.ret [2]))))⟩:=by kernel_rfl
theorem F125:compF Tryz.prog 125=some ⟨6,[.tmp 2],(.g [.k 2 false] (.g [.m 3 0,.u 4 3,.v 5 .leq 4 300,.m 2 5] (.ret [2])))⟩:=by kernel_rfl
end Go.Proofs.YtdnpaifeoinjoaaGreatDoor

namespace Go.Proofs.YtdnpaifeoinjoaaGreatDoor
open Go.Sha
set_option maxRecDepth 100000
variable {g:List (Nat×Obj)}{n:Nat}
def anyP {α:Type}(p:α→Prop)[DecidablePred p]:List α→Bool
 |[]=>false
 |q::r=>if p q then true else anyP p r
def few129 (x:Cu):Bool:=decide ((x.num.length:Int)≤40)&&(decide ((x.label.length:Int)≤100)&&(decide ((x.link.length:Int)≤40)&&(decide ((x.parts.length:Int)≤10)&&decide ((x.moves.length:Int)≤300))))
theorem f99 {x:Cu}{st:St}:run Tryz.prog HH 99 [x.v] st=some (.ret (.bool (few129 x)),st):=by
 rw[run_shut F99 rfl rfl (by simp)]
 push_cast[Cu.v,(fun(a0:V) (st:St) (h:V.bdL 0 [a0]=true)=>run_shut (P:=Tryz.prog) (H:=HH) (args:=[a0]) (st:=st) F125 rfl rfl h),few129]
theorem L59 {x:Lst}(hl:x.cues.length<140737488355328):∀r j,x.cues.drop j=r→runL Tryz.prog HH [1,3] n B59_0 [(1,.ep x.v 0),(3,.int .i64 j)] (stN g n)=lpB (stN g n) [] 2 (anyP (fun q:Cu=>few129 q=false) r) false:=by
 refine drop_ind (fun j h=>?_) (fun q r j h hx hd ih=>?_)
 all_goals rw[runL_of B59_0.eq_1]
 ·have h1:¬(j:Int)<x.cues.length:=by omega
  push_cast[h1,anyP,Lst.v,Cu.v]
 ·have h1:(j:Int)<x.cues.length:=by omega
  have hw:=iw1 (j:=j) (by omega)
  push_cast[h1,hw,hx,Lst.v,Cu.v,f99]at ih ⊢
  simp only[ih,anyP,lps,Int.reduceEq,not_false_eq_true]
  all_goals first|with_reducible rfl|exact dn_eq (by omega) (by with_reducible rfl)|((repeat' split)<;>(try simp_all)<;>(try (with_reducible refine dn_eq ?_ ?_<;>first|trivial|omega|rfl))<;>(try omega))
theorem f59 {x:Lst}(hl:x.cues.length<140737488355328):∃b,∀st,run Tryz.prog HH 59 [x.v] st=some (.ret (.bool b),st):=by
 refine⟨if 128<(x.cues.length:Int) then false else if anyP (fun q:Cu=>few129 q=false) x.cues=true then false else true,fun st=>?_⟩
 rw[run_shut F59 rfl rfl (by simp)]
 have hL0:=fun n=>L59 (g:=st.x.gl) (n:=n) hl _ 0 rfl
 push_cast[Lst.v]at hL0
 push_cast[Lst.v,hL0,lpE,lpX,lpI,lpB]
 all_goals first|with_reducible rfl|exact dn_eq (by omega) (by with_reducible rfl)|((repeat' split)<;>(try simp_all)<;>(try (with_reducible refine dn_eq ?_ ?_<;>first|trivial|omega|rfl))<;>(try omega))
def add52:List Cu→Int→Option Int
 |[],_=>none
 |q::r,m=>if 20<(q.moves.length:Int)∨30<IntKind.i64.wrap (m+q.moves.length) then some 1 else add52 r (IntKind.i64.wrap (m+q.moves.length))
theorem L26 {x:Lst}(hx0:x.ok):∀r j,x.cues.drop j=r→∀m,runL Tryz.prog HH [1,3,4] n B26_0 [(1,.ep x.v 0),(3,.int .i64 m),(4,.int .i64 j)] (stN g n)=(match add52 r m with|none=>some (.exit 0,[],stN g n)|some _=>some (.ret,[(2,.bool (lstR x != 0))],stN g n)):=by
 have hl:=hx0.a
 have h91:=fun(st:St)=>f27 (st:=st) hx0
 refine drop_ind (fun j h m=>?_) (fun q r j h hx hd ih m=>?_)
 all_goals rw[runL_of B26_0.eq_1]
 ·have h1:¬(j:Int)<x.cues.length:=by omega
  push_cast[h1,add52,Lst.v]
 ·have h1:(j:Int)<x.cues.length:=by omega
  have hw:=iw1 (j:=j) (by omega)
  push_cast[Lst.v]at h91
  push_cast[h1,hw,hx,Lst.v,Cu.v,h91]at ih ⊢
  simp only[ih,add52]
  split<;>rfl
theorem f26 {x:Lst}(h:x.ok):∃b,∀st,run Tryz.prog HH 26 [x.v] st=some (.ret (.bool b),st):=by
 obtain⟨b,hb⟩:=f59 h.a
 have h91:=fun(st:St)=>f27 (st:=st) h
 have h0:=fun g n=>L26 (g:=g) (n:=n) h x.cues 0 rfl 0
 cases h2:add52 x.cues 0 with
 |none =>
  rw[h2]at h0
  push_cast[Lst.v]at h0 hb h91
  refine⟨if b=false then false else if 10<(x.cues.length:Int) then lstR x != 0 else true,fun st=>?_⟩
  rw[run_shut F26 rfl rfl (by simp)]
  push_cast[Lst.v,hb,h91,h0]
  all_goals first|with_reducible rfl|exact dn_eq (by omega) (by with_reducible rfl)|((repeat' split)<;>(try simp_all)<;>(try (with_reducible refine dn_eq ?_ ?_<;>first|trivial|omega|rfl))<;>(try omega))
 |some k =>
  rw[h2]at h0
  push_cast[Lst.v]at h0 hb h91
  refine⟨if b=false then false else lstR x != 0,fun st=>?_⟩
  rw[run_shut F26 rfl rfl (by simp)]
  push_cast[Lst.v,hb,h91,h0]
  all_goals first|with_reducible rfl|exact dn_eq (by omega) (by with_reducible rfl)|((repeat' split)<;>(try simp_all)<;>(try (with_reducible refine dn_eq ?_ ?_<;>first|trivial|omega|rfl))<;>(try omega))
end Go.Proofs.YtdnpaifeoinjoaaGreatDoor

namespace Go.Proofs.YtdnpaifeoinjoaaGreatDoor
open Go.Sha
set_option maxRecDepth 100000
def leP (p q:Prm):Bool:=!befP q p
theorem befP_iff {p q:Prm}:befP p q=true↔p.chan<q.chan∨p.chan=q.chan∧p.attr<q.attr:=by
 simp only[befP,Bool.or_eq_true,Bool.and_eq_true,decide_eq_true_eq]
end Go.Proofs.YtdnpaifeoinjoaaGreatDoor

namespace Go.Proofs.YtdnpaifeoinjoaaGreatDoor
open Go.Sha
set_option maxRecDepth 100000
variable {g:List (Nat×Obj)}{n:Nat}
def esP (a:List Prm):List (V×V):=a.map fun p=>(p.v,.bool true)
theorem same_prm {p q:Prm}:sameV p.v q.v=some (decide (p=q)):=by
 cases p;cases q
 rw[show ∀a b c d:Int,sameV (Prm.v ⟨a,b⟩) (Prm.v ⟨c,d⟩)=some ((a == c)&&((b == d)&&true)) from fun a b c d=>rfl]
 simp only[Prm.mk.injEq,Bool.and_true,Option.some.injEq]
 rw[Bool.eq_iff_iff];simp
theorem find_esP {p:Prm}:∀{a:List Prm}{i:Nat},(p ∉ a→findV p.v (esP a) i=some none)∧(p∈a→∃j,a[j]?=some p∧findV p.v (esP a) i=some (some (i+j,.bool true)))
 |[],i=>⟨fun _=>rfl,fun h=>by simp at h⟩
 |q::r,i=>by
  obtain⟨i1,i2⟩:=find_esP (p:=p) (a:=r) (i:=i+1)
  have e:findV p.v (esP (q::r)) i=match(some (decide (p=q)):Option Bool) with
   |some true=>some (some (i,.bool true))
   |some false=>findV p.v (esP r) (i+1)
   |none=>none:=by rw[←same_prm];rfl
  rw[e]
  by_cases h:p=q
  ·subst h
   simp only[decide_true]
   exact⟨fun h=>absurd (List.mem_cons_self ..) h,fun _=>⟨0,rfl,rfl⟩⟩
  ·simp only[decide_eq_false h]
   refine⟨fun h'=>i1 fun h2=>h' (List.mem_cons_of_mem _ h2),fun h'=>?_⟩
   obtain⟨j,j1,j2⟩:=i2 ((List.mem_cons.1 h').resolve_left h)
   exact⟨j+1,j1,by rw[j2,show i+1+j=i+(j+1) by omega]⟩
theorem mset_esP {st:St}{i:Nat}{a:List Prm}{p:Prm}:msetB st i (esP a) p.v (.bool true) (findV p.v (esP a) 0)=some (.und,⟨st.nx,st.mem,st.arr,⟨updO st.x.obj i (.map (esP (insK a p))),st.x.gl,st.x.ty⟩⟩):=by
 by_cases h:p∈a
 ·obtain⟨j,j1,j2⟩:=(find_esP (i:=0)).2 h
  rw[j2,insK,if_pos h,Nat.zero_add]
  have e:(esP a).set j (p.v,.bool true)=esP a:=by
   have hj:=(List.getElem?_eq_some_iff.1 j1).1
   apply List.ext_getElem?
   intro k
   rw[List.getElem?_set]
   split
   ·rename_i e;subst e
    rw[esP,List.getElem?_map,j1,List.length_map,if_pos hj];rfl
   ·rfl
  simp only[msetB,putM,e]
 ·rw[(find_esP (i:=0)).1 h,insK,if_neg h]
  simp[msetB,putM,esP]
@[push_cast]theorem esP_all {a:List Prm}:((esP a).all fun p=>p.1.bd n&&p.2.bd n)=true:=by simp[esP,V.bd,V.bdL]
@[push_cast]theorem esP_nil:esP []=[]:=idq rfl
def stZ (g:List (Nat×Obj))(n:Nat)(a:List Prm):St:=⟨n,[],[],⟨[(1,.map (esP a))],g,[]⟩⟩
theorem ok_prm {p:Prm}(h:(1≤p.chan∧p.chan≤999)∧0≤p.attr∧p.attr≤14):okPV p.v=true:=by
 simp only[Prm.v,okPV,Bool.and_eq_true,decide_eq_true_eq];omega
theorem mixed:Tryz.prog.follows .mixedOrders=true:=by kernel_rfl
end Go.Proofs.YtdnpaifeoinjoaaGreatDoor

namespace Go.Proofs.YtdnpaifeoinjoaaGreatDoor
open Go.Sha
set_option maxRecDepth 100000
variable {g:List (Nat×Obj)}{n:Nat}
def bsI (c:Nat→Int)(i j:Nat):Nat:=if h:i<j then if c ((i+j) / 2)<0 then bsI c ((i+j) / 2+1) j else bsI c i ((i+j) / 2) else i
termination_by j-i
theorem bsI_ok {c:Nat→Int}{N:Nat}(hm:∀a b,a<b→b<N→c b≤0→c a<0):∀{i j:Nat},i≤j→j≤N→(∀k<i,c k<0)→(∀k,j≤k→k<N→0≤c k)→i≤bsI c i j∧bsI c i j≤j∧(∀k<bsI c i j,c k<0)∧∀k,bsI c i j≤k→k<N→0≤c k:=by
 intro i j
 induction i,j using bsI.induct c with
 |case1 i j h h2 ih =>
  intro hij hj h3 h4
  rw[bsI,dif_pos h,if_pos h2]
  have:=ih (by omega) hj (fun k hk=>by
   rcases Nat.lt_or_ge k ((i+j) / 2) with e|e
   ·exact hm k ((i+j) / 2) e (by omega) (by omega)
   ·rw[show k=(i+j) / 2 by omega];exact h2) h4
  exact⟨by omega,this.2.1,this.2.2.1,this.2.2.2⟩
 |case2 i j h h2 ih =>
  intro hij hj h3 h4
  rw[bsI,dif_pos h,if_neg h2]
  have:=ih (by omega) (by omega) h3 (fun k hk hk2=>by
   rcases Nat.lt_or_ge ((i+j) / 2) k with e|e
   ·apply Classical.byContradiction;intro e2
    exact h2 (hm ((i+j) / 2) k e hk2 (by omega))
   ·rw[show k=(i+j) / 2 by omega];omega)
  exact⟨this.1,by omega,this.2.2.1,this.2.2.2⟩
 |case3 i j h =>
  intro hij hj h3 h4
  rw[bsI,dif_neg h]
  exact⟨Nat.le_refl _,hij,h3,fun k hk hk2=>h4 k (by omega) hk2⟩
theorem bs_find {α:Type}[Inhabited α]{l:List α}{c:α→Int}(hs:l.Pairwise fun a b=>c b≤0→c a<0) :
  let r:=bsI (fun k=>c (l.getD k default)) 0 l.length
  r≤l.length∧(∀x,l.find? (fun x=>decide (c x=0))=some x→r<l.length∧(∀d,l.getD r d=x)∧c x=0)∧(l.find? (fun x=>decide (c x=0))=none→¬(r<l.length∧c (l.getD r default)=0)):=by
 intro r
 have hg:∀k d,k<l.length→l.getD k d∈l∧l[k]?=some (l.getD k d):=fun k d hk=>by
  rw[List.getD_eq_getElem?_getD,List.getElem?_eq_getElem hk];exact⟨List.getElem_mem hk,rfl⟩
 have hm:∀a b,a<b→b<l.length→c (l.getD b default)≤0→c (l.getD a default)<0:=fun a b hab hb h=>by
  have h1:=(hg a default (by omega)).2
  have h2:=(hg b default hb).2
  rw[List.getElem?_eq_getElem (by omega)]at h1 h2
  have:=List.pairwise_iff_getElem.1 hs a b (by omega) hb hab
  rw[Option.some.inj h1,Option.some.inj h2]at this
  exact this h
 obtain⟨_,r1,r2,r3⟩:=bsI_ok (c:=fun k=>c (l.getD k default)) hm (i:=0) (j:=l.length) (by omega) (Nat.le_refl _) (fun k hk=>by omega) (fun k h1 h2=>by omega)
 refine⟨r1,fun x hx=>?_,fun hx h=>?_⟩
 ·have h0:c x=0:=by simpa using List.find?_some hx
  obtain⟨k,hk⟩:=List.mem_iff_getElem?.1 (List.mem_of_find?_eq_some hx)
  have hkl:=(List.getElem?_eq_some_iff.1 hk).1
  have hkx:∀d,l.getD k d=x:=fun d=>by rw[List.getD_eq_getElem?_getD,hk];rfl
  have e1:r≤k:=by
   apply Classical.byContradiction;intro e
   have:=r2 k (by omega);rw[hkx]at this;omega
  have e2:r=k:=by
   apply Classical.byContradiction;intro e
   have a:=hm r k (by omega) hkl (by rw[hkx];omega)
   have b:=r3 r (Nat.le_refl _) (by omega)
   omega
  rw[e2];exact⟨hkl,hkx,h0⟩
 ·have:=List.find?_eq_none.1 hx _ (hg r default h.1).1
  rw[decide_eq_true_eq]at this;exact this h.2
theorem halfI {i j:Nat}(h:i+j<4611686018427387904):IntKind.i64.wrap ((IntKind.u64.wrap (IntKind.i64.wrap ((i:Int)+j))).fdiv (2 ^ min 1 IntKind.u64.bits))=(((i+j) / 2:Nat):Int):=by
 have w1:IntKind.i64.wrap ((i:Int)+j)=((i+j:Nat):Int):=by rw[←Int.natCast_add];exact iwrap (by omega) (by omega)
 have w2:IntKind.u64.wrap ((i+j:Nat):Int)=((i+j:Nat):Int):=by
  unfold IntKind.wrap;simp[IntKind.bits,IntKind.signed];omega
 rw[w1,w2,show(2 ^ min 1 IntKind.u64.bits:Int)=2 from rfl,Int.fdiv_eq_ediv_of_nonneg _ (by omega),show(((i+j:Nat):Int) / 2)=(((i+j) / 2:Nat):Int) by simp]
 exact iwrap (by omega) (by omega)
end Go.Proofs.YtdnpaifeoinjoaaGreatDoor

namespace Go.Proofs.YtdnpaifeoinjoaaGreatDoor
open Go.Sha
set_option maxRecDepth 100000
variable {g:List (Nat×Obj)}{n:Nat}
theorem find_congr {α:Type}{p q:α→Bool}:∀{l:List α},(∀x∈l,p x=q x)→l.find? p=l.find? q
 |[],_=>rfl
 |x::r,h=>by
  rw[List.find?_cons,List.find?_cons,h x (List.mem_cons_self ..),find_congr (l:=r) fun y hy=>h y (List.mem_cons_of_mem _ hy)]
end Go.Proofs.YtdnpaifeoinjoaaGreatDoor

namespace Go.Proofs.YtdnpaifeoinjoaaGreatDoor
open Go.Sha
set_option maxRecDepth 10000
theorem F10:compF Tryz.prog 10=some ⟨20,[.tmp 4,.tmp 5],(.g [.q 2 24 0,.s 4 (.mv (.c .nils)),.c 5 0] (.z [2] (.g [.d 9 3 2,.m 10 1,.g' 11 32 9 10,.m 8 11,.j 12 0 8,.j 13 1 8,.m 6 12,.m 7 13] (.join [2,6] (.g [.m 14 7,.v 15 .neq 14 0] (.i 15 (.g [.m 16 7,.s 4 (.mv (.c .nils)),.m 5 16] (.ret [4,5])) .skip)) (.g [.d 17 3 2,.m 18 6,.g' 19 33 17 18,.m 4 19,.c 5 0] (.ret [4,5]))))))⟩:=by kernel_rfl
def B50_0:Cd:=(.g [.b 9 .lss 8 7] (.join [0,1,7,8] (.i 9 .skip (.exit [] 0)) (.join [0,1,7,8] (.block 1 (.g [.m 10 8,.m 5 10] (.g [.m 11 1,.m 12 0,.m 13 5,.r 14 4 12 13,.d 15 4 14,.s 16 (.call (.t 11) [.t 15])] (.i 16 (.g [.m 17 5,.m 4 17] (.ret [4])) .skip)))) (.reg [.v 18 .add 8 1,.m 8 18]))))
theorem F50:compF Tryz.prog 50=some ⟨19,[.tmp 4],(.g [.c 4 0] (.join [] (.g [.m 6 0,.u 7 6,.c 8 0] (.block 0 (.loop [0,1,7,8] [] B50_0))) (.g [.c 4 (-1)] (.ret [4]))))⟩:=by kernel_rfl
theorem F32:compF Tryz.prog 32=some ⟨24,[.tmp 4,.tmp 5],(.g [.q 2 24 0,.c 4 0,.c 5 0] (.z [2] (.g [.d 10 3 2,.m 11 1,.g' 12 67 10 11,.m 9 12,.j 13 0 9,.j 14 1 9,.j 15 2 9,.m 6 13,.m 7 14,.m 8 15] (.join [6] (.block 0 (.g [.m 17 8,.v 18 .neq 17 0,.m 16 18] (.i 16 (.g [.m 19 8,.c 4 0,.m 5 19] (.ret [4,5])) (.g [.m 21 7,.z 22 21,.m 20 22] (.i 20 (.g [.c 4 0,.c 5 6] (.ret [4,5])) .skip))))) (.g [.m 23 6,.m 4 23,.c 5 0] (.ret [4,5]))))))⟩:=by kernel_rfl
def B33_0:Cd:=(.g [.b 12 .lss 11 10] (.join [1,2,5,9,10,11] (.i 12 .skip (.exit [5] 0)) (.join [1,2,5,9,10,11] (.block 1 (.g [.r 13 2 9 11,.d 14 2 13,.s 7 (.alloc 38 [.i 0,.i 0]),.w 2 7 14] (.z [7] (.greg [] [] [[],[],[],[],[],[],[],[false,false,false,false,false,false,true],[false,false,false,false,false,false,false,false],[]] [.m 15 5,.d 16 2 7,.d 17 3 2,.m 18 1,.d 19 2 7,.s 20 (.f 69 [.t 17,.t 18,.t 19]),.s 21 (.build [.i 0,.i 0,.i 0,.i 0] [(0,2,(.t 16)),(2,2,(.t 20))]),.s 22 (.bslice 42 4 [.t 21]),.s 23 (.append 42 4 32 (.t 15) (.t 22)),.m 5 23])))) (.reg [.v 24 .add 11 1,.m 11 24]))))
theorem F33:compF Tryz.prog 33=some ⟨26,[.tmp 4],(.g [.q 2 24 0,.s 4 (.mv (.c .nils))] (.z [2] (.g [.s 5 (.mv (.c .nils))] (.join [5] (.g [.d 8 3 2,.f 9 68 8,.u 10 9,.c 11 0] (.block 0 (.loop [1,2,5,9,10,11] [(5,(42,4))] B33_0))) (.g [.m 25 5,.m 4 25] (.ret [4]))))))⟩:=by kernel_rfl
theorem F67:compF Tryz.prog 67=some ⟨24,[.tmp 4,.tmp 5,.tmp 6],(.g [.q 2 24 0,.c 4 0,.k 5 false,.c 6 0] (.z [2] (.join [1,2] (.g [.d 9 3 2,.m 10 1,.s 11 (.bslice 9 1 [.t 10]),.g' 12 110 9 11,.m 7 12] (.g [.m 13 7,.v 14 .neq 13 0] (.i 14 (.g [.m 15 7,.c 4 0,.k 5 false,.m 6 15] (.ret [4,5,6])) .skip))) (.g [.d 16 3 2,.s 17 (.build [.i 0,.i 0,.nils] [(0,3,(.t 16))]),.m 18 1,.g' 19 111 17 18,.m 8 19] (.g [.m 20 8,.s 21 (.gen .mx [.t 20,.i 0]),.m 22 8,.v 23 .geq 22 0,.m 4 21,.m 5 23,.c 6 0] (.ret [4,5,6]))))))⟩:=by kernel_rfl
def B68_0:Cd:=(.g [.b 21 .lss 20 19] (.join [3,4,11,12,13,18,19,20] (.i 21 .skip (.exit [3,4,11,12,13] 2)) (.join [3,4,11,12,13,18,19,20] (.block 3 (.g [.r 22 5 18 20,.d 23 5 22,.s 8 (.alloc 45 [.i 0,.i 0,.i 0,.i 0,.i 0]),.w 5 8 23] (.z [8] (.g [.m 24 3,.a 25 0 8,.d 26 2 25,.s 27 (.act (.look (.a [.i,.i]) (.bool false) false) [.t 24,.t 26]),.z 28 27] (.i 28 (.g [.m 29 3,.a 30 0 8,.d 31 2 30,.n (.act (.mset (.a [.i,.i])) [.t 29,.t 31,(.c (.bool true))])] (.reg [.m 32 4,.a 33 0 8,.d 34 2 33,.s 35 (.bslice 38 2 [.t 34]),.s 36 (.append 38 2 16 (.t 32) (.t 35)),.m 4 36])) .skip))))) (.reg [.v 37 .add 20 1,.m 20 37]))))
def B68_1:Cd:=(.g [.b 14 .lss 13 12] (.join [3,4,11,12,13] (.i 14 .skip (.exit [4] 0)) (.join [3,4,11,12,13] (.block 1 (.g [.r 15 9 11 13,.d 16 9 15,.s 6 (.alloc 30 [(.str []),(.str []),.nils,.nils,(.bool false),(.bool false),.i 0,(.str []),.i 0]),.w 9 6 16] (.z [6] (.g [.a 17 2 6,.l 18 17,.u 19 18,.c 20 0] (.block 2 (.loop [3,4,11,12,13,18,19,20] [(4,(38,2))] B68_0)))))) (.reg [.v 38 .add 13 1,.m 13 38]))))
theorem F68:compF Tryz.prog 68=some ⟨42,[.tmp 2],(.g [.q 1 24 0,.s 2 (.mv (.c .nils))] (.z [1] (.g [.s 9 (.act .mkmap []),.m 3 9] (.g [.s 4 (.mv (.c .nils))] (.join [4] (.g [.a 10 2 1,.l 11 10,.u 12 11,.c 13 0] (.block 0 (.loop [3,4,11,12,13] [(4,(38,2))] B68_1))) (.g [.m 39 4,.s 40 (.f 112 [.t 39,(.c (.fn (.func 82) [] []))])] (.g [.m 41 4,.m 2 41] (.ret [2]))))))))⟩:=by kernel_rfl
def B110_0:Cd:=(.g [.b 17 .lss 16 15] (.join [14,15,16] (.i 17 .skip (.exit [] 0)) (.join [14,15,16] (.block 1 (.g [.r 18 1 14 16,.l 19 18,.m 7 19] (.g [.m 20 7,.f 21 118 20,.m 8 21] (.g [.m 22 8,.v 23 .neq 22 0] (.i 23 (.g [.m 24 8,.m 4 24] (.ret [4])) .skip))))) (.reg [.v 25 .add 16 1,.m 16 25]))))
theorem F110:compF Tryz.prog 110=some ⟨26,[.tmp 4],(.g [.q 2 24 0,.c 4 0] (.z [2] (.join [1] (.g [.d 9 3 2,.f 10 113 9,.m 5 10] (.g [.m 11 5,.v 12 .neq 11 0] (.i 12 (.g [.m 13 5,.m 4 13] (.ret [4])) .skip))) (.join [] (.g [.m 14 1,.u 15 14,.c 16 0] (.block 0 (.loop [14,15,16] [] B110_0))) (.g [.c 4 0] (.ret [4]))))))⟩:=by kernel_rfl
theorem F111:compF Tryz.prog 111=some ⟨10,[.tmp 4],(.g [.q 2 146 0,.q 3 9 1,.c 4 0] (.z [2,3] (.g [.a 5 0 2,.a 6 2 5,.l 7 6,.s 8 (.mkfn (.func 130) [] [.t 3]),.g' 9 73 7 8,.m 4 9] (.ret [4]))))⟩:=by kernel_rfl
def B73_0:Cd:=(.g [.b 9 .lss 8 7] (.join [0,1,7,8] (.i 9 .skip (.exit [] 0)) (.join [0,1,7,8] (.block 1 (.g [.m 10 8,.m 5 10] (.g [.m 11 1,.m 12 0,.m 13 5,.r 14 9 12 13,.d 15 9 14,.s 16 (.call (.t 11) [.t 15])] (.i 16 (.g [.m 17 5,.m 4 17] (.ret [4])) .skip)))) (.reg [.v 18 .add 8 1,.m 8 18]))))
theorem F73:compF Tryz.prog 73=some ⟨19,[.tmp 4],(.g [.c 4 0] (.join [] (.g [.m 6 0,.u 7 6,.c 8 0] (.block 0 (.loop [0,1,7,8] [] B73_0))) (.g [.c 4 (-1)] (.ret [4]))))⟩:=by kernel_rfl
theorem F130:compF Tryz.prog 130=some ⟨8,[.tmp 3],(.g [.q 2 30 0,.k 3 false] (.z [2] (.g [.a 4 0 2,.l 5 4,.l 6 1,.b 7 .eql 5 6,.m 3 7] (.ret [3]))))⟩:=by kernel_rfl
end Go.Proofs.YtdnpaifeoinjoaaGreatDoor

namespace Go.Proofs.YtdnpaifeoinjoaaGreatDoor
open Go.Sha
set_option maxRecDepth 100000
variable {g:List (Nat×Obj)}{n:Nat}
theorem f130 {x:Cu}{s:List UInt8}{st:St}:run Tryz.prog HH 130 [x.v,.ep (.agg [.str s]) 0] st=some (.ret (.bool (x.num == s)),st):=by
 rw[run_shut F130 rfl rfl (by simp)]
 push_cast[Cu.v]
 all_goals first|with_reducible rfl|exact dn_eq (by omega) (by with_reducible rfl)|((repeat' split)<;>(try simp_all)<;>(try (with_reducible refine dn_eq ?_ ?_<;>first|trivial|omega|rfl))<;>(try omega))
theorem f73 {l:List Cu}{s:List UInt8}(hl:l.length<140737488355328){st:St}:run Tryz.prog HH 73 [.sl (l.map Cu.v),.fn (.func 130) [] [.ep (.agg [.str s]) 0]] st=some (.ret (.int .i64 (ix (fun x=>x.num == s) l 0)),st) :=
 IxF (f:=Cu.v) (n:=some 9) (fun _=>rfl) (fun _=>rfl) F73 rfl (by simp) hl (fun q _ _=>f130) (fun _ _=>rfl) (fun _=>rfl)
theorem f111 {x:Lst}{s:List UInt8}(hl:x.cues.length<140737488355328){st:St}:run Tryz.prog HH 111 [x.v,.str s] st=some (.ret (.int .i64 (ix (fun x=>x.num == s) x.cues 0)),st):=by
 have h1:=fun(st:St)=>f73 (s:=s) (st:=st) hl
 rw[run_shut F111 rfl rfl (by simp)]
 push_cast[Lst.v,h1]
 all_goals first|with_reducible rfl|exact dn_eq (by omega) (by with_reducible rfl)|((repeat' split)<;>(try simp_all)<;>(try (with_reducible refine dn_eq ?_ ?_<;>first|trivial|omega|rfl))<;>(try omega))
theorem f110 {x:Lst}(h:x.ok){s:List UInt8}(hs:s.length<140737488355328){st:St}:run Tryz.prog HH 110 [x.v,.sl [.str s]] st=some (.ret (.int .i64 (if ¬lstP x=0 then lstP x else numC s)),st):=by
 have h1:=fun(st:St)=>f113 (st:=st) h
 have h2:=fun(st:St)=>f118 (st:=st) hs
 push_cast[Lst.v]at h1
 rw[run_shut F110 rfl rfl (by simp)]
 push_cast[Lst.v,h1,h2,runL_of B110_0.eq_1,List.length_cons,List.length_nil]
def plcE (x:Lst)(s:List UInt8):Int:=if ¬lstP x=0 then lstP x else if ¬numC s=0 then numC s else if ix (fun x=>x.num == s) x.cues 0<0 then 6 else 0
def plcV (x:Lst)(s:List UInt8):Int:=if plcE x s=0 then ix (fun x=>x.num == s) x.cues 0 else 0
theorem ix_rng {α:Type}{p:α→Bool}:∀{l:List α}{j:Nat},ix p l j=-1∨(j:Int)≤ix p l j∧ix p l j<j+l.length
 |[],j=>.inl rfl
 |x::r,j=>by
  unfold ix
  split
  ·exact .inr ⟨by omega,by simp;omega⟩
  ·rcases ix_rng (p:=p) (l:=r) (j:=j+1) with h|h
   ·exact .inl h
   ·exact .inr ⟨by omega,by simp;omega⟩
theorem plc_at {x:Lst}{s:List UInt8}(h:plcE x s=0):0≤plcV x s∧(plcV x s).toNat<x.cues.length:=by
 rw[plcV,if_pos h]
 unfold plcE at h
 repeat' split at h
 all_goals first|(rename_i a;exact absurd h a)|cases h|skip
 rcases ix_rng (p:=fun c:Cu=>c.num == s) (l:=x.cues) (j:=0) with h|h<;>omega
theorem f67 {x:Lst}(h:x.ok){s:List UInt8}(hs:s.length<140737488355328){st:St}:run Tryz.prog HH 67 [x.v,.str s] st=some (.ret (if ¬lstP x=0 then .tup [.int .i64 0,.bool false,.int .i64 (lstP x)] else if ¬numC s=0 then .tup [.int .i64 0,.bool false,.int .i64 (numC s)] else
  .tup [.int .i64 (if ix (fun x=>x.num == s) x.cues 0<0 then 0 else ix (fun x=>x.num == s) x.cues 0),.bool (decide (0≤ix (fun x=>x.num == s) x.cues 0)),.int .i64 0]),st):=by
 have h1:=fun(st:St)=>f110 (st:=st) h hs
 have h2:=fun(st:St)=>f111 (s:=s) (st:=st) h.1
 push_cast[Lst.v]at h1 h2
 rw[run_shut F67 rfl rfl (by simp)]
 by_cases h3:lstP x=0
 ·by_cases h4:numC s=0
  ·push_cast[Lst.v,h1,h2,h3,h4]
  ·push_cast[Lst.v,h1,h2,h3,h4]
 ·push_cast[Lst.v,h1,h3]
theorem f32 {x:Lst}(h:x.ok){s:List UInt8}(hs:s.length<140737488355328){st:St}:run Tryz.prog HH 32 [x.v,.str s] st=some (.ret (.tup [.int .i64 (plcV x s),.int .i64 (plcE x s)]),st):=by
 have h1:=fun(st:St)=>f67 (st:=st) h hs
 rw[run_shut F32 rfl rfl (by simp)]
 unfold plcV plcE
 by_cases h3:lstP x=0
 ·by_cases h4:numC s=0
  ·by_cases h5:ix (fun x=>x.num == s) x.cues 0<0
   ·have h6:¬0≤ix (fun x=>x.num == s) x.cues 0:=by omega
    push_cast[Lst.v,h3,h4,h5,h6]at h1
    push_cast[Lst.v,h1,h3,h4,h5,h6]
   ·have h6:0≤ix (fun x=>x.num == s) x.cues 0:=by omega
    push_cast[Lst.v,h3,h4,h5,h6]at h1
    push_cast[Lst.v,h1,h3,h4,h5,h6]
  ·push_cast[Lst.v,h3,h4]at h1
   push_cast[Lst.v,h1,h3,h4]
 ·push_cast[Lst.v,h3]at h1
  push_cast[Lst.v,h1,h3]
end Go.Proofs.YtdnpaifeoinjoaaGreatDoor

namespace Go.Proofs.YtdnpaifeoinjoaaGreatDoor
open Go.Sha
set_option maxRecDepth 100000
variable {g:List (Nat×Obj)}{n:Nat}
theorem cuesP_all {l:List Cu}:∀{r:List Cu}{j:Nat},cuesP l r j=0→∀c∈r,numC c.num=0
 |[],_,_,c,hc=>by simp at hc
 |q::r,j,h,c,hc=>by
  rw[cuesP]at h
  repeat' split at h
  all_goals first|(rename_i a;exact absurd h a)|cases h|skip
  rename_i a _
  rw[cue_eq]at a
  rcases List.mem_cons.1 hc with rfl|hc
  ·exact cueP_num (Classical.not_not.1 a)
  ·exact cuesP_all h c hc
theorem lst_parts {x:Lst}(h:lstP x=0):1≤x.num∧x.num≤1048576∧x.cues.length≤64∧∀c∈x.cues,numC c.num=0:=by
 unfold lstP lstB at h
 split at h
 ·cases h
 ·split at h
  ·cases h
  ·exact⟨by omega,by omega,by omega,cuesP_all h⟩
end Go.Proofs.YtdnpaifeoinjoaaGreatDoor

namespace Go.Proofs.YtdnpaifeoinjoaaGreatDoor
open Go.Sha
set_option maxRecDepth 100000
variable {g:List (Nat×Obj)}{n:Nat}
theorem cue_parts {x:Cu}(h:cueP x=0):numC x.num=0∧labC x.label=0∧movCP x.moves=0∧parC x=0∧nxtC x=0:=by
 unfold cueP at h
 repeat' split at h
 all_goals first|(rename_i a;exact absurd h a)|skip
 rename_i a1 a2 a3 a4
 exact⟨Classical.not_not.1 a1,Classical.not_not.1 a2,Classical.not_not.1 a3,Classical.not_not.1 a4,h⟩
end Go.Proofs.YtdnpaifeoinjoaaGreatDoor

namespace Go.Proofs.YtdnpaifeoinjoaaGreatDoor
open Go.Sha
set_option maxRecDepth 100000
variable {g:List (Nat×Obj)}{n:Nat}
theorem asc_gen {α:Type}[Inhabited α]{num:α→Int}{l:List α}{F:List α→Nat→Int}(hF:∀q r j,F (q::r) j=0→¬(0<j∧num q≤num (l.getD (j-1) default))∧F r (j+1)=0) :
  ∀{r:List α}{j:Nat},l.drop j=r→F r j=0→(l.take j).Pairwise (fun a b=>num a<num b)→l.Pairwise fun a b=>num a<num b
 |[],j,hd,_,hp=>by
  have:l.length≤j:=List.drop_eq_nil_iff.1 hd
  rwa [List.take_of_length_le this]at hp
 |q::r,j,hd,h,hp=>by
  obtain⟨h2,h3⟩:=hF q r j h
  refine asc_gen hF (drop_succ hd) h3 ?_
  rw[take_snoc hd]
  refine List.pairwise_append.2 ⟨hp,List.pairwise_singleton ..,fun y hy z hz=>?_⟩
  rw[List.mem_singleton.1 hz]
  obtain⟨k,hk⟩:=List.mem_iff_getElem?.1 hy
  have hj:=drop_le hd
  rw[List.getElem?_take]at hk
  split at hk
  ·rename_i hkj
   have e:l.getD (j-1) default=l[j-1]:=by rw[List.getD_eq_getElem?_getD,List.getElem?_eq_getElem (by omega)];rfl
   rw[e]at h2
   rw[List.getElem?_eq_getElem (by omega)]at hk
   rw[←Option.some.inj hk]
   rcases Nat.lt_or_ge k (j-1) with hk2|hk2
   ·have hm:=List.pairwise_iff_getElem.1 hp k (j-1) (by simp;omega) (by simp;omega) hk2
    rw[List.getElem_take,List.getElem_take]at hm
    omega
   ·have:k=j-1:=by omega
    subst this
    omega
  ·cases hk
end Go.Proofs.YtdnpaifeoinjoaaGreatDoor

namespace Go.Proofs.YtdnpaifeoinjoaaGreatDoor
open Go.Sha
set_option maxRecDepth 100000
def keyN (p:Prm):Int:=15*p.chan+p.attr
theorem movsR_rng {l:List Mov}:∀{r:List Mov}{j:Nat},movsR l r j=0→∀q∈r,prmC 1 q.prm=0
 |[],_,_,q,hq=>by simp at hq
 |x::r,j,h,q,hq=>by
  rw[movsR]at h
  repeat' split at h
  all_goals first|(rename_i a;exact absurd h a)|cases h|skip
  rename_i a _ _ _
  rcases List.mem_cons.1 hq with rfl|hq
  ·exact Classical.not_not.1 a
  ·exact movsR_rng h q hq
theorem prm_rng {p:Prm}(h:prmC 1 p=0):(1≤p.chan∧p.chan≤999)∧0≤p.attr∧p.attr≤14:=by
 unfold prmC at h
 split at h
 ·cases h
 ·omega
theorem movs_asc {l:List Mov}(h:movCP l=0):(∀q∈l,prmC 1 q.prm=0)∧l.Pairwise fun a b=>keyN a.prm<keyN b.prm:=by
 rw[movC_eq]at h
 unfold movCR at h
 split at h
 ·cases h
 ·have ha:=movsR_rng h
  have hd:∀k,0≤(l.getD k default).prm.attr∧(l.getD k default).prm.attr≤14:=fun k=>by
   rw[List.getD_eq_getElem?_getD]
   by_cases hk:k<l.length
   ·rw[List.getElem?_eq_getElem hk];exact(prm_rng (ha _ (List.getElem_mem hk))).2
   ·rw[List.getElem?_eq_none (by omega)];exact⟨by decide,by decide⟩
  refine⟨ha,asc_gen (num:=fun m:Mov=>keyN m.prm) (F:=movsR l) (fun q r j h=>?_) (j:=0) rfl h List.Pairwise.nil⟩
  rw[movsR]at h
  repeat' split at h
  all_goals first|(rename_i a;exact absurd h a)|cases h|skip
  rename_i a _ _ b
  refine⟨?_,h⟩
  have h1:=prm_rng (Classical.not_not.1 a)
  have h2:=hd (j-1)
  simp only[keyN]
  rintro⟨j0,hk⟩
  refine b ⟨j0,?_⟩
  rw[←Bool.not_eq_true,befP_iff]
  omega
theorem okP_of {p:Prm}(h:(1≤p.chan∧p.chan≤999)∧0≤p.attr∧p.attr≤14):okP p=true:=by
 simp only[okP,Bool.and_eq_true,decide_eq_true_eq];omega
theorem okMs_of:∀{l:List Mov},(∀q∈l,prmC 1 q.prm=0)→(l.Pairwise fun a b=>keyN a.prm<keyN b.prm)→okMs l=true
 |[],_,_=>rfl
 |m::r,h,hp=>by
  obtain⟨p1,p2⟩:=List.pairwise_cons.1 hp
  have hm:=prm_rng (h m (List.mem_cons_self ..))
  simp only[okMs,Bool.and_eq_true,List.all_eq_true]
  refine⟨⟨okP_of hm,fun n hn=>?_⟩,okMs_of (fun q hq=>h q (List.mem_cons_of_mem _ hq)) p2⟩
  have hn':=prm_rng (h n (List.mem_cons_of_mem _ hn))
  have:=p1 n hn
  simp only[keyN]at this
  simp only[ltP,Bool.or_eq_true,Bool.and_eq_true,decide_eq_true_eq]
  omega
theorem lst_cue {x:Lst}(h:lstP x=0):∀c∈x.cues,cueP c=0:=by
 unfold lstP lstB at h
 split at h
 ·cases h
 ·split at h
  ·cases h
  ·have key:∀(r:List Cu) (j:Nat),cuesP x.cues r j=0→∀c∈r,cueP c=0:=by
    intro r
    induction r with
    |nil=>intro j _ c hc;simp at hc
    |cons q r ih =>
     intro j h c hc
     rw[cuesP]at h
     repeat' split at h
     all_goals first|(rename_i a;exact absurd h a)|cases h|skip
     rename_i a _
     rcases List.mem_cons.1 hc with rfl|hc
     ·exact Classical.not_not.1 a
     ·exact ih _ h c hc
   exact key _ _ h
theorem lst_mov {x:Lst}(h:lstP x=0):∀c∈x.cues,c.moves.length≤128∧(∀q∈c.moves,prmC 1 q.prm=0)∧c.moves.Pairwise fun a b=>keyN a.prm<keyN b.prm:=fun c hc=>by
 obtain⟨h1,h2,h3,h4,h5⟩:=cue_parts (lst_cue h c hc)
 refine⟨?_,movs_asc h3⟩
 unfold movCP at h3
 split at h3
 ·cases h3
 ·omega
end Go.Proofs.YtdnpaifeoinjoaaGreatDoor

namespace Go.Proofs.YtdnpaifeoinjoaaGreatDoor
open Go.Sha
set_option maxRecDepth 10000
theorem F82:compF Tryz.prog 82=some ⟨20,[.tmp 4],(.g [.q 2 38 0,.q 3 38 1,.c 4 0] (.z [2,3] (.join [2,3] (.g [.a 5 0 2,.l 6 5,.a 7 0 3,.l 8 7,.b 9 .neq 6 8] (.i 9 (.g [.a 10 0 2,.l 11 10,.a 12 0 3,.l 13 12,.b 14 .sub 11 13,.m 4 14] (.ret [4])) .skip)) (.g [.a 15 1 2,.l 16 15,.a 17 1 3,.l 18 17,.b 19 .sub 16 18,.m 4 19] (.ret [4])))))⟩:=by kernel_rfl
theorem F41:compF Tryz.prog 41=some ⟨24,[.cell 4 (some 2),.tmp 5],(.g [.q 2 30 0,.q 3 38 1,.s 4 (.alloc 40 [.i 0,.i 0]),.k 5 false] (.z [2,3] (.g [.a 9 2 2,.l 10 9,.d 11 2 3,.s 12 (.f 80 [.t 10,.t 11,(.c (.fn (.func 81) [] []))]),.m 8 12,.j 13 0 8,.j 14 1 8,.m 6 13,.m 7 14] (.join [2,4,6] (.g [.m 15 7,.z 16 15] (.i 16 (.g [.s 17 (.f 83 []),.w 2 4 17,.k 5 false] (.ret [4,5])) .skip)) (.g [.a 18 2 2,.l 19 18,.m 20 6,.r 21 5 19 20,.a 22 2 21,.d 23 2 22,.w 2 4 23,.k 5 true] (.ret [4,5]))))))⟩:=by kernel_rfl
theorem F83:compF Tryz.prog 83=some ⟨2,[.cell 0 (some 2)],(.g [.s 0 (.alloc 40 [.i 0,.i 0])] (.g [.s 1 (.build [.i 0,.i 0] [(0,1,(.i (-1)))]),.w 2 0 1] (.ret [0])))⟩:=by kernel_rfl
theorem F81:compF Tryz.prog 81=some ⟨9,[.tmp 4],(.g [.q 2 45 0,.q 3 38 1,.c 4 0] (.z [2,3] (.g [.a 5 0 2,.d 6 2 5,.d 7 2 3,.g' 8 82 6 7,.m 4 8] (.ret [4]))))⟩:=by kernel_rfl
def B80_0:Cd:=(.join [0,2,4,8,9,10] (.g [.m 15 9,.m 16 10,.b 17 .lss 15 16] (.i 17 .skip (.exit [0,2,4,8,9] 0))) (.block 1 (.g [.m 18 9,.m 19 10,.b 20 .add 18 19,.s 21 (.cvi .u64 (.t 20)),.s 22 (.bin .shr (.t 21) (.c (.int .u64 1))),.s 23 (.cvi .i64 (.t 22)),.m 11 23] (.q (.dreg 8 [.m 24 2,.m 25 0,.m 26 11,.r 27 5 25 26,.d 28 5 27,.d 29 2 4,.s 30 (.call (.t 24) [.t 28,.t 29]),.v 31 .lss 30 0]) (.i 31 (.reg [.m 32 11,.v 33 .add 32 1,.m 9 33]) (.reg [.m 34 11,.m 10 34]))))))
theorem F80:compF Tryz.prog 80=some ⟨49,[.tmp 6,.tmp 7],(.g [.q 4 38 1,.c 6 0,.k 7 false] (.z [4] (.g [.m 12 0,.u 13 12,.m 8 13] (.g [.m 14 8,.c 9 0,.m 10 14] (.join [0,2,4,8,9] (.block 0 (.loop [0,2,4,8,9,10] [] B80_0)) (.join [6,7] (.dreg 16 [.m 35 9,.m 36 9,.m 37 8,.b 38 .lss 36 37,.m 39 38,.my 40 2 39,.my 41 0 39,.my 42 9 39,.ry 43 5 41 42 39,.y 44 (.load (some 5) (.t 43)) 39,.y 45 (.load (some 2) (.t 4)) 39,.y 46 (.call (.t 40) [.t 44,.t 45]) 39,.vy 47 .eql 46 0 39,.e 48 39 47,.m 6 35,.m 7 48]) (.ret [6,7])))))))⟩:=by kernel_rfl
end Go.Proofs.YtdnpaifeoinjoaaGreatDoor

namespace Go.Proofs.YtdnpaifeoinjoaaGreatDoor
open Go.Sha
set_option maxRecDepth 100000
variable {g:List (Nat×Obj)}{n:Nat}
def hSortF:List V→St→Rt
 |[.osl id n,.fn (.func 82) [] []],st=>hSortA st id n (Sha.look st.arr id)
 |_,_=>none
def HSF:EvF:=⟨HH.raw,fun f args st=>bif Nat.beq f 112 then hSortF args st else none⟩
@[push_cast]theorem HSF_raw:HSF.raw=[66,97,112]:=idq rfl
theorem look_esP {st:St}{a:List Prm}{p:Prm}:lookB st (.bool false) false (findV p.v (esP a) 0)=some (.bool (decide (p∈a)),st):=by
 by_cases h:p∈a
 ·obtain⟨j,j1,j2⟩:=(find_esP (i:=0)).2 h
  rw[j2,decide_eq_true h];rfl
 ·rw[(find_esP (i:=0)).1 h,decide_eq_false h];rfl
def stFp (g:List (Nat×Obj))(n:Nat)(a:List Prm):St:=⟨n,[],[(2,⟨38,2,a.map Prm.v,true,false⟩)],⟨[(1,.map (esP a))],g,[]⟩⟩
@[push_cast]theorem stFp_eq {a:List Prm}:stFp g n a=⟨n,[],[(2,⟨38,2,a.map Prm.v,true,false⟩)],⟨[(1,.map (esP a))],g,[]⟩⟩:=idq rfl
theorem insK_len {a:List Prm}{p:Prm}:(insK a p).length≤a.length+1:=by unfold insK;split<;>simp
theorem L68_0 {l:List Mov}{cs:List Cu}{j:Nat}(hl:l.length<1000000):∀r k,l.drop k=r→∀a:List Prm,a.length+r.length≤1000000 →
  runL Tryz.prog HSF [3,4,11,12,13,18,19,20] 4 B68_0 [(3,.mp 1),(4,.osl 2 a.length),(11,.sl (cs.map Cu.v)),(12,.int .i64 cs.length),(13,.int .i64 j),(18,.sl (l.map Mov.v)),(19,.int .i64 l.length),(20,.int .i64 k)] (stFp g 4 a)
   = some (.exit 2,[(3,.mp 1),(4,.osl 2 ((r.map Mov.prm).foldl insK a).length),(11,.sl (cs.map Cu.v)),(12,.int .i64 cs.length),(13,.int .i64 j)],stFp g 4 ((r.map Mov.prm).foldl insK a)):=by
 refine drop_ind (fun k h a ha=>?_) (fun q r k h hx hd ih a ha=>?_)
 all_goals rw[runL_of B68_0.eq_1]
 ·have h1:¬(k:Int)<l.length:=by omega
  push_cast[h1,List.foldl_nil,List.map_nil,Cu.v]
 ·have h1:(k:Int)<l.length:=by omega
  have hw:=iw1 (j:=k) (by omega)
  have hk:=fun(st:St)=>look_esP (st:=st) (a:=a) (p:=q.prm)
  have hm:=fun(st:St) (i:Nat)=>mset_esP (st:=st) (i:=i) (a:=a) (p:=q.prm)
  have hro:roomV (a.length+1) 16=true:=roomV_lit (by rw[List.length_cons]at ha;omega) (by rw[List.length_cons]at ha;omega)
  have ih:=ih (insK a q.prm) (by have:=insK_len (a:=a) (p:=q.prm);rw[List.length_cons]at ha;omega)
  rw[List.map_cons,List.foldl_cons]
  generalize (r.map Mov.prm).foldl insK (insK a q.prm)=z at *
  by_cases hp:q.prm∈a
  ·have e1:insK a q.prm=a:=by rw[insK,if_pos hp]
   rw[e1]at ih hm
   push_cast[Prm.v,hp]at hk hm
   push_cast[h1,hw,hx,hk,Cu.v,Mov.v,Prm.v]at ih ⊢
   exact dn_eq rfl ih
  ·have e1:insK a q.prm=a++[q.prm]:=by rw[insK,if_neg hp]
   rw[e1]at ih hm
   push_cast[Prm.v,hp]at hk hm
   push_cast[h1,hw,hx,hk,hm,hro,Cu.v,Mov.v,Prm.v,List.map_append,List.map_cons,List.map_nil,List.length_append,List.length_cons,List.length_nil]at ih ⊢
   exact dn_eq rfl ih
theorem insKs_len:∀{l a:List Prm},(l.foldl insK a).length≤a.length+l.length
 |[],a=>by simp
 |p::l,a=>by
  have:=insKs_len (l:=l) (a:=insK a p)
  have:=insK_len (a:=a) (p:=p)
  rw[List.foldl_cons,List.length_cons];omega
theorem L68_1 {cs:List Cu}(hl:cs.length≤64)(hc:∀c∈cs,c.moves.length≤128):∀r j,cs.drop j=r→∀a:List Prm,a.length≤128*j →
  runL Tryz.prog HSF [3,4,11,12,13] 3 B68_1 [(3,.mp 1),(4,.osl 2 a.length),(11,.sl (cs.map Cu.v)),(12,.int .i64 cs.length),(13,.int .i64 j)] (stFp g 3 a)
   = some (.exit 0,[(4,.osl 2 (keyL r a).length)],stFp g 3 (keyL r a)):=by
 refine drop_ind (fun k h a ha=>?_) (fun q r k h hx hd ih a ha=>?_)
 all_goals rw[runL_of B68_1.eq_1]
 ·have h1:¬(k:Int)<cs.length:=by omega
  push_cast[h1,keyL,List.foldl_nil]
 ·have h1:(k:Int)<cs.length:=by omega
  have hw:=iw1 (j:=k) (by omega)
  have hq:=hc q (mem_at hd)
  have hz:=insKs_len (l:=q.moves.map Mov.prm) (a:=a)
  rw[List.length_map]at hz
  have hL:=L68_0 (g:=g) (l:=q.moves) (cs:=cs) (j:=k) (by omega) _ 0 rfl a (by rw[List.drop_zero];omega)
  have ih:=ih ((q.moves.map Mov.prm).foldl insK a) (by omega)
  rw[List.drop_zero]at hL
  rw[show keyL (q::r) a=keyL r ((q.moves.map Mov.prm).foldl insK a) from rfl]
  generalize (q.moves.map Mov.prm).foldl insK a=b at *
  push_cast[Cu.v]at ih hL
  push_cast[h1,hw,hx,hL,Cu.v]at ih ⊢
  exact ih
def pre151:Cd:=.g [.q 1 24 0,.s 2 (.mv (.c .nils))] (.z [1] (.g [.s 9 (.act .mkmap []),.m 3 9] (.g [.s 4 (.mv (.c .nils))] .skip)))
def len151:Cd:=.reg [.a 10 2 1,.l 11 10,.u 12 11,.c 13 0]
def post151:Cd:=.g [.m 39 4,.s 40 (.f 112 [.t 39,(.c (.fn (.func 82) [] []))])] (.g [.m 41 4,.m 2 41] (.ret [2]))
def mid151:Cd:=.join [4] (.seq len151 (.block 0 (.loop [3,4,11,12,13] [(4,(38,2))] B68_1))) post151
theorem F68':compF Tryz.prog 68=some ⟨42,[.tmp 2],pre151.put mid151⟩:=F68
theorem run_pre151 {x:Lst}:∃e,runC Tryz.prog HSF pre151 (argEnv 0 [x.v]) (stN g 0)=some (.normal,e,stZ g 2 [])∧Sha.look e 1=some (.ep x.v 0)∧Sha.look e 3=some (.mp 1)∧Sha.look e 4=some .nils:=by
 generalize hz:runC Tryz.prog HSF pre151 _ _=z
 rw[pre151]at hz
 push_cast[Lst.v]at hz
 subst hz
 exact⟨_,rfl,rfl,rfl,rfl⟩
theorem run_len151 {x:Lst}{st:St}:∃e,runC Tryz.prog HSF len151 [(1,.ep x.v 0),(3,.mp 1),(4,.nils)] st=some (.normal,e,st)∧Sha.look e 3=some (.mp 1)∧Sha.look e 4=some .nils∧Sha.look e 11=some (.sl (x.cues.map Cu.v))∧Sha.look e 12=some (.int .i64 x.cues.length)∧Sha.look e 13=some (.int .i64 0):=by
 generalize hz:runC Tryz.prog HSF len151 _ _=z
 rw[len151]at hz
 push_cast[Lst.v]at hz
 subst hz
 exact⟨_,rfl,rfl,rfl,rfl,rfl,rfl⟩
theorem keyL_rng {R:Prm→Prop}:∀{cs:List Cu}{a:List Prm},(∀c∈cs,∀q∈c.moves,R q.prm)→(∀p∈a,R p)→∀p∈keyL cs a,R p
 |[],a,_,h,p,hp=>h p hp
 |c::r,a,hc,h,p,hp=>by
  refine keyL_rng (cs:=r) (a:=(c.moves.map Mov.prm).foldl insK a) (fun x hx=>hc x (List.mem_cons_of_mem _ hx)) (fun p hp=>?_) p hp
  have key:∀(l a:List Prm),p∈l.foldl insK a→p∈a∨p∈l:=by
   intro l
   induction l with
   |nil=>intro a h;exact .inl h
   |cons q l ih =>
    intro a h
    rcases ih _ h with h|h
    ·unfold insK at h
     split at h
     ·exact .inl h
     ·rcases List.mem_append.1 h with h|h
      ·exact .inl h
      ·rw[List.mem_singleton.1 h];exact .inr (List.mem_cons_self ..)
    ·exact .inr (List.mem_cons_of_mem _ h)
  rcases key _ _ hp with hp|hp
  ·exact h p hp
  ·obtain⟨q,hq,rfl⟩:=List.mem_map.1 hp
   exact hc c (List.mem_cons_self ..) q hq
def stFs (g:List (Nat×Obj))(a:List Prm):St:=⟨3,[],[(2,⟨38,2,(a.map Prm.v).mergeSort leV,true,false⟩)],⟨[(1,.map (esP a))],g,[]⟩⟩
theorem run_post151 {a:List Prm}(ha:∀p∈a,okPV p.v=true)(hl:a.length≤100000):runC Tryz.prog HSF post151 [(4,.osl 2 a.length)] (stFp g 3 a)=some (.ret,[(2,.osl 2 a.length)],stFs g a):=by
 have h1:run Tryz.prog HSF 112 [.osl 2 a.length,.fn (.func 82) [] []] (stFp g 3 a)=some (.ret (.tup []),stFs g a):=by
  refine run_H ?_
  have hc:(a.map Prm.v).length=a.length∧a.length≤100000000∧2=2∧true=true∧(a.map Prm.v).all okPV=true:=by
   refine⟨by simp,by omega,rfl,rfl,?_⟩
   rw[List.all_map,List.all_eq_true]
   intro p hpm
   exact ha p hpm
  show(if(a.map Prm.v).length=a.length∧a.length≤100000000∧2=2∧true=true∧(a.map Prm.v).all okPV=true then _ else _)=_
  rw[if_pos hc];rfl
 rw[post151]
 rw[stFs]at *
 push_cast at h1
 push_cast[h1]
theorem bp_exit {i:Nat}{Q:Post}{e:Env}{s:St}(h:Q .normal e s):blockPost i Q (.exit i) e s:=by simp only[blockPost,if_true];exact h
theorem keyL_len:∀{cs:List Cu}{a:List Prm},(∀c∈cs,c.moves.length≤128)→(keyL cs a).length≤a.length+128*cs.length
 |[],a,_=>by simp[keyL]
 |c::r,a,h=>by
  have h1:=keyL_len (cs:=r) (a:=(c.moves.map Mov.prm).foldl insK a) fun x hx=>h x (List.mem_cons_of_mem _ hx)
  have h2:=insKs_len (l:=c.moves.map Mov.prm) (a:=a)
  have h3:=h c (List.mem_cons_self ..)
  rw[List.length_map]at h2
  rw[show keyL (c::r) a=keyL r ((c.moves.map Mov.prm).foldl insK a) from rfl,List.length_cons];omega
theorem lt_bef {p q:Prm}:ltP q p=befP q p:=by
 unfold ltP befP;by_cases h:q.chan=p.chan<;>simp[h]
theorem insO_perm {p:Prm}:∀{l:List Prm},(insO p l).Perm (p::l)
 |[]=>.refl _
 |q::r=>by
  rw[insO];split
  ·exact(List.Perm.cons q insO_perm).trans (.swap ..)
  ·exact .refl _
theorem sortO_perm:∀{l:List Prm},(sortO l).Perm l
 |[]=>.refl _
 |p::r=>insO_perm.trans (List.Perm.cons p sortO_perm)
theorem leP_iff {p q:Prm}:leP p q=true↔p.chan<q.chan∨p.chan=q.chan∧p.attr≤q.attr:=by
 unfold leP
 rw[Bool.not_eq_true',←Bool.not_eq_true,befP_iff];omega
theorem insO_sorted {p:Prm}:∀{l:List Prm},l.Pairwise (fun a b=>leP a b=true)→(insO p l).Pairwise (fun a b=>leP a b=true)
 |[],_=>List.pairwise_singleton ..
 |q::r,h=>by
  have hc:=List.pairwise_cons.1 h
  rw[insO];split
  ·rename_i h1
   rw[lt_bef,befP_iff]at h1
   refine List.pairwise_cons.2 ⟨fun x hx=>?_,insO_sorted hc.2⟩
   rcases List.mem_cons.1 (insO_perm.mem_iff.1 hx) with rfl|hx
   ·rw[leP_iff];omega
   ·exact hc.1 x hx
  ·rename_i h1
   rw[lt_bef,befP_iff]at h1
   refine List.pairwise_cons.2 ⟨fun x hx=>?_,h⟩
   rcases List.mem_cons.1 hx with rfl|hx
   ·rw[leP_iff];omega
   ·have:=hc.1 x hx
    rw[leP_iff]at this ⊢;omega
theorem sortO_sorted:∀{l:List Prm},(sortO l).Pairwise (fun a b=>leP a b=true)
 |[]=>.nil
 |_::_=>insO_sorted sortO_sorted
theorem leP_anti {p q:Prm}(h:leP p q=true)(k:leP q p=true):p=q:=by
 rw[leP_iff]at h k
 cases p;cases q;simp only[Prm.mk.injEq]at *;omega
theorem eq_sorted:∀{l m:List Prm},l.Pairwise (fun a b=>leP a b=true)→m.Pairwise (fun a b=>leP a b=true)→l.Perm m→l=m
 |[],m,_,_,h=>(List.nil_perm.1 h).symm
 |p::l,[],_,_,h=>by have:=h.length_eq;simp at this
 |p::l,q::m,hl,hm,h=>by
  have e:p=q:=by
   rcases List.mem_cons.1 (h.mem_iff.1 (List.mem_cons_self ..)) with e|h1
   ·exact e
   ·rcases List.mem_cons.1 (h.symm.mem_iff.1 (List.mem_cons_self ..)) with e|h2
    ·exact e.symm
    ·exact leP_anti ((List.pairwise_cons.1 hl).1 q h2) ((List.pairwise_cons.1 hm).1 p h1)
  subst e
  rw[eq_sorted (List.pairwise_cons.1 hl).2 (List.pairwise_cons.1 hm).2 ((List.perm_cons p).1 h)]
theorem sort_eq {l:List Prm}:l.mergeSort leP=sortO l:=by
 refine eq_sorted (List.pairwise_mergeSort (fun a b c h k=>?_) (fun a b=>?_) l) sortO_sorted ((List.mergeSort_perm l leP).trans sortO_perm.symm)
 ·rw[leP_iff]at *;omega
 ·rw[Bool.or_eq_true,leP_iff,leP_iff];omega
theorem v68 (hH:ESound Tryz.prog HSF){x:Lst}(h:ftpOk x.cues=true){st:St}:VCalls Tryz.prog 68 [x.v] st fun y s=>y=.ret (.sl ((ftpL x).map Prm.v))∧s=st:=by
 have hO:x.cues.length≤64∧∀c∈x.cues,c.moves.length≤128∧∀q∈c.moves,okPV q.prm.v=true:=by simpa [ftpOk] using h
 obtain⟨h64,hm⟩:=hO
 have hrg:=keyL_rng (R:=fun p=>okPV p.v=true) (cs:=x.cues) (a:=[]) (fun c hc=>(hm c hc).2) (by simp)
 have hln:=keyL_len (cs:=x.cues) (a:=[]) (fun c hc=>(hm c hc).1)
 rw[List.length_nil]at hln
 refine VCalls_shutW (by simp) (VCalls_WD F68' (Nat.le_of_ble_eq_true rfl) fun N=>?_)
 show WD _ ⟨N,[]⟩ (pre151.put mid151) (argEnv 0 [x.v]) (stN st.x.gl 0) _
 obtain⟨e0,hr0,q1,q2,q3⟩:=run_pre151 (g:=st.x.gl) (x:=x)
 refine WD.run mixed hH hr0 ?_
 show WD _ _ mid151 _ _ _
 refine WD.sub (env':=[(1,.ep x.v 0),(3,.mp 1),(4,.nils)]) (fun i v hv=>?_) ?_
 ·simp only[Sha.look]at hv
  (repeat' split at hv)<;>first|(cases hv;done)|(rename_i e;subst e;cases hv;assumption)
 obtain⟨e1,hr1,u1,u2,u3,u4,u5⟩:=run_len151 (x:=x) (st:=stZ st.x.gl 2 [])
 refine WD.join (WD.seq (WD.ev mixed hH hr1 ?_))
 show WD _ _ (.block 0 (.loop [3,4,11,12,13] [(4,(38,2))] B68_1)) _ _ _
 refine WD.block (WD.ownW u2 ?_)
 refine WD.sub (env':=[(3,.mp 1),(4,.osl 2 0),(11,.sl (x.cues.map Cu.v)),(12,.int .i64 x.cues.length),(13,.int .i64 0)]) (fun i v hv=>?_) ?_
 ·simp only[Sha.look]at hv
  (repeat' split at hv)<;>first|(cases hv;done)|(rename_i e;subst e;cases hv;simp[Sha.look,stZ];try assumption)
 have hL:=L68_1 (g:=st.x.gl) (cs:=x.cues) h64 (fun c hc=>(hm c hc).1) _ 0 rfl [] (Nat.zero_le _)
 rw[List.drop_zero]at hL
 generalize hK:keyL x.cues []=K at *
 refine WD.ev mixed hH (x:=.exit 0) (e:=[(4,.osl 2 K.length)]) (s:=stFp st.x.gl 3 K) ?_ ?_
 ·push_cast[Cu.v,List.map_nil,List.length_nil,esP_nil]at hL
  push_cast[hL,stZ,Cu.v]
 refine bp_exit ?_
 show WD _ _ post151 [(4,.osl 2 K.length)] (stFp st.x.gl 3 K) _
 refine WD.ev mixed hH (run_post151 hrg (by omega)) ⟨.ret (.osl 2 K.length),stFs st.x.gl K,rfl,?_⟩
 have e:(K.map Prm.v).mergeSort leV=(ftpL x).map Prm.v:=by
  rw[ftpL,hK,←sort_eq,←List.map_mergeSort (r:=leP) (f:=Prm.v) (fun a _ b _=>by cases a;cases b;rfl)]
 have hlen:(ftpL x).length=K.length:=by rw[ftpL,hK,←sort_eq,List.length_mergeSort]
 rw[stFs,e]
 push_cast[hlen,Prm.v]
end Go.Proofs.YtdnpaifeoinjoaaGreatDoor

namespace Go.Proofs.YtdnpaifeoinjoaaGreatDoor
open Go.Sha
set_option maxRecDepth 100000
variable {g:List (Nat×Obj)}{n:Nat}
def HN0:EvF:=⟨[],fun _ _ _=>none⟩
@[push_cast]theorem HN0_raw:HN0.raw=[]:=idq rfl
theorem HN0_ok:ESound Tryz.prog HN0:=fun _ _ _ _ _ h=>by simp only[HN0]at h;cases h
theorem f82 {x y:Prm}{st:St}:run Tryz.prog HN0 82 [x.v,y.v] st=some (.ret (.int .i64 (cmpP x y)),st):=by
 rw[run_shut F82 rfl rfl (by simp)]
 push_cast[Prm.v,cmpP]
 all_goals first|with_reducible rfl|exact dn_eq (by omega) (by with_reducible rfl)|((repeat' split)<;>(try simp_all)<;>(try (with_reducible refine dn_eq ?_ ?_<;>first|trivial|omega|rfl))<;>(try omega))
theorem p82 {a b c d:Int}{st:St}:run Tryz.prog HN0 82 [.agg [.int .i64 a,.int .i64 b],.agg [.int .i64 c,.int .i64 d]] st=some (.ret (.int .i64 (cmpP ⟨a,b⟩ ⟨c,d⟩)),st):=f82 (x:=⟨a,b⟩) (y:=⟨c,d⟩)
theorem f83 {st:St}:run Tryz.prog HN0 83 [] st=some (.ret (.agg [.int .i64 (-1),.int .i64 0]),st):=by
 rw[run_shut F83 rfl rfl (by simp)]
 push_cast[Val.v]
 all_goals first|with_reducible rfl|exact dn_eq (by omega) (by with_reducible rfl)|((repeat' split)<;>(try simp_all)<;>(try (with_reducible refine dn_eq ?_ ?_<;>first|trivial|omega|rfl))<;>(try omega))
theorem f81 {x:Mov}{q:Prm}{st:St}:run Tryz.prog HN0 81 [x.v,q.v] st=some (.ret (.int .i64 (cmpP x.prm q)),st):=by
 rw[run_shut F81 rfl rfl (by simp)]
 push_cast[Mov.v,Prm.v,p82]
 all_goals first|with_reducible rfl|exact dn_eq (by omega) (by with_reducible rfl)|((repeat' split)<;>(try simp_all)<;>(try (with_reducible refine dn_eq ?_ ?_<;>first|trivial|omega|rfl))<;>(try omega))
theorem L80 {l:List Mov}{q:Prm}(hl:l.length<140737488355328):∀i j,i≤j→j≤l.length→runL Tryz.prog HN0 [0,2,4,8,9,10] n B80_0 [(0,.sl (l.map Mov.v)),(2,.fn (.func 81) [] []),(4,.ep q.v 0),(8,.int .i64 l.length),(9,.int .i64 i),(10,.int .i64 j)] (stN g n)
  = some (.exit 0,[(0,.sl (l.map Mov.v)),(2,.fn (.func 81) [] []),(4,.ep q.v 0),(8,.int .i64 l.length),(9,.int .i64 (bsI (fun k=>cmpP (l.getD k default).prm q) i j))],stN g n):=by
 intro i j
 induction i,j using bsI.induct (fun k=>cmpP (l.getD k default).prm q) with
 |case1 i j h h2 ih =>
  intro hij hj
  have ih:=ih (by omega) hj
  rw[bsI,dif_pos h,if_pos h2,runL_of B80_0.eq_1]
  have h1:(i:Int)<j:=by omega
  have h3:=halfI (i:=i) (j:=j) (by omega)
  have h4:(((i+j) / 2:Nat):Int)<l.length:=by omega
  have h5:IntKind.i64.wrap ((((i+j) / 2:Nat):Int)+1)=(((i+j) / 2+1:Nat):Int):=iwrap (by omega) (by omega)
  have h360:=fun(st:St)=>f81 (x:=l.getD ((i+j) / 2) default) (q:=q) (st:=st)
  generalize hk:(i+j) / 2=k at *
  push_cast[Mov.v,Prm.v]at ih h360
  push_cast[h1,h3,h4,h5,h360,Mov.v,Prm.v,h2]
  exact ih
 |case2 i j h h2 ih =>
  intro hij hj
  have ih:=ih (by omega) (by omega)
  rw[bsI,dif_pos h,if_neg h2,runL_of B80_0.eq_1]
  have h1:(i:Int)<j:=by omega
  have h3:=halfI (i:=i) (j:=j) (by omega)
  have h4:(((i+j) / 2:Nat):Int)<l.length:=by omega
  have h360:=fun(st:St)=>f81 (x:=l.getD ((i+j) / 2) default) (q:=q) (st:=st)
  generalize hk:(i+j) / 2=k at *
  push_cast[Mov.v,Prm.v]at ih h360
  push_cast[h1,h3,h4,h360,Mov.v,Prm.v,h2]
  exact ih
 |case3 i j h =>
  intro hij hj
  rw[bsI,dif_neg h,runL_of B80_0.eq_1]
  have h1:¬(i:Int)<j:=by omega
  push_cast[h1,Mov.v,Prm.v]
def bsM (l:List Mov)(q:Prm):Nat:=bsI (fun k=>cmpP (l.getD k default).prm q) 0 l.length
theorem f80 {l:List Mov}{q:Prm}(hl:l.length<140737488355328){st:St}:run Tryz.prog HN0 80 [.sl (l.map Mov.v),q.v,.fn (.func 81) [] []] st=some (.ret (.tup [.int .i64 (bsM l q),.bool (decide ((bsM l q:Int)<l.length)&&cmpP (l.getD (bsM l q) default).prm q == 0)]),st):=by
 have h0:=fun n=>L80 (g:=st.x.gl) (n:=n) (q:=q) hl 0 l.length (by omega) (Nat.le_refl _)
 have h360:=fun(st:St)=>f81 (x:=l.getD (bsM l q) default) (q:=q) (st:=st)
 rw[run_shut F80 rfl rfl (by simp)]
 rw[show bsI (fun k=>cmpP (l.getD k default).prm q) 0 l.length=bsM l q from rfl]at h0
 push_cast[Mov.v,Prm.v]at h0 h360
 push_cast[Mov.v,Prm.v,h0,h360]
 exact dn_eq (by omega) rfl
theorem cmp_ok {x y:Prm}(hx:okP x=true)(hy:okP y=true):cmpP x y=if x.chan=y.chan then x.attr-y.attr else x.chan-y.chan:=by
 simp only[okP,Bool.and_eq_true,decide_eq_true_eq]at hx hy
 unfold cmpP
 rw[iwrap (by omega) (by omega),iwrap (by omega) (by omega)]
 by_cases h:x.chan=y.chan<;>simp[h]
theorem okMs_ok:∀{l:List Mov},okMs l=true→(∀m∈l,okP m.prm=true)∧l.Pairwise fun a b=>ltP a.prm b.prm=true
 |[],_=>⟨by simp,List.Pairwise.nil⟩
 |m::r,h=>by
  simp only[okMs,Bool.and_eq_true,List.all_eq_true]at h
  obtain⟨a,b⟩:=okMs_ok h.2
  exact⟨fun x hx=>(List.mem_cons.1 hx).elim (fun e=>by rw[e];exact h.1.1) (a x),List.pairwise_cons.2 ⟨fun x hx=>h.1.2 x hx,b⟩⟩
theorem bsM_find {l:List Mov}{q:Prm}(hl:okMs l=true)(hq:okP q=true) :
  (match movF l q with|some v=>bsM l q<l.length∧(l.getD (bsM l q) default).val=v∧cmpP (l.getD (bsM l q) default).prm q=0|none=>¬(bsM l q<l.length∧cmpP (l.getD (bsM l q) default).prm q=0)):=by
 obtain⟨ho,hp⟩:=okMs_ok hl
 have hs:l.Pairwise fun a b=>cmpP b.prm q≤0→cmpP a.prm q<0:=by
  refine List.Pairwise.imp_of_mem (fun {a b} ha hb h=>?_) hp
  rw[cmp_ok (ho a ha) hq,cmp_ok (ho b hb) hq]
  simp only[ltP,Bool.or_eq_true,Bool.and_eq_true,decide_eq_true_eq]at h
  split<;>split<;>omega
 obtain⟨_,h1,h2⟩:=bs_find (c:=fun m:Mov=>cmpP m.prm q) hs
 have e:l.find? (fun x=>decide (cmpP x.prm q=0))=l.find? fun m=>decide (m.prm.chan=q.chan)&&decide (m.prm.attr=q.attr):=by
  refine find_congr (fun x hx=>?_)
  rw[cmp_ok (ho x hx) hq,Bool.eq_iff_iff]
  simp only[Bool.and_eq_true,decide_eq_true_eq]
  split<;>omega
 rw[e]at h1 h2
 unfold movF bsM
 cases hf:l.find? fun m=>decide (m.prm.chan=q.chan)&&decide (m.prm.attr=q.attr) with
 |none=>exact h2 hf
 |some x =>
  obtain⟨a,b,c⟩:=h1 x hf
  simp only[Option.map_some]
  refine⟨a,by rw[b],?_⟩
  rw[b];exact c
theorem f41 {x:Cu}{q:Prm}(hm:okMs x.moves=true)(hq:okP q=true)(hl:x.moves.length<140737488355328){st:St} :
  run Tryz.prog HN0 41 [x.v,q.v] st=some (.ret (.tup [((movF x.moves q).getD ⟨-1,0⟩).v,.bool (movF x.moves q).isSome]),st):=by
 have h359:=fun(st:St)=>f80 (l:=x.moves) (q:=q) hl (st:=st)
 have hb:=bsM_find hm hq
 rw[run_shut F41 rfl rfl (by simp)]
 cases hf:movF x.moves q with
 |some v =>
  rw[hf]at hb
  obtain⟨h1,h2,h3⟩:=hb
  have h1':(bsM x.moves q:Int)<x.moves.length:=by omega
  subst h2
  generalize bsM x.moves q=k at *
  push_cast[h359,h1',h3,Cu.v,Prm.v,Mov.v,Val.v,Option.getD_some,Option.isSome_some]
 |none =>
  rw[hf]at hb
  have h1:(decide ((bsM x.moves q:Int)<x.moves.length)&&cmpP (x.moves.getD (bsM x.moves q) default).prm q == 0)=false:=by
   rw[Bool.eq_false_iff];intro h;simp only[Bool.and_eq_true,decide_eq_true_eq,beq_iff_eq]at h;exact hb ⟨by omega,h.2⟩
  push_cast[h359,h1,f83,Cu.v,Prm.v,Val.v,Option.getD_none,Option.isSome_none]
end Go.Proofs.YtdnpaifeoinjoaaGreatDoor

namespace Go.Proofs.YtdnpaifeoinjoaaGreatDoor
open Go.RowKit Go.Shelf
attribute [local go_sem] Oper.semAt_some
def dnL (a k:Nat):List Nat:=(List.range k).map (a-·)
theorem dnL_succ (a k:Nat):dnL a (k+1)=dnL a k++[a-k]:=by simp[dnL,List.range_succ]
theorem dnL_length (a k:Nat):(dnL a k).length=k:=by simp[dnL]
set_option maxHeartbeats 1000000 in
theorem back_in (F:Fence)(n:Nat)(h5:F.fn 40)(hro:F.round=none)(a0 a1 a2:Value)(x:Int)(w:World) :
  CallsIn F n Tryz.prog 40 #[.agg #[a0,a1,a2],.int .i64 x] w fun e w'=>e=.returned (.func (.func 79) #[] #[.pointer (some ⟨w.heap.size+1,0,none⟩),.pointer (some ⟨w.heap.size,0,none⟩)])∧w'=(w.alloc (.cells #[a0,a1,a2] 24)).alloc (.cells #[.int .i64 x] 3):=by
 refine callsIn_of_wp Tryz.func40 rfl h5 ?_ hro
 simp only[Tryz.ntmps40,List.size_toArray,List.length_cons,List.length_nil,Nat.reduceAdd,Nat.reduceSub,Array.replicate_succ,Array.replicate_zero,List.push_toArray,List.append_toArray,List.nil_append,List.cons_append]
 gi_wp2
 go_ret
 exact⟨rfl,by simp⟩
set_option maxRecDepth 100000 in
set_option maxHeartbeats 4000000 in
theorem back1_in (F:Fence)(n:Nat)(h7:F.fn 79)(hro:F.round=none)(hn:1≤n)(l Ba Bl n₀ b off len cap a:Nat)(c0 c1 c2 c3 c5 c6 c7 c8:Nat→Value)(bl:Nat→Bool)(hlen:len*144≤140737488351232)(hb:b<n₀)(ha:a<len)(J Jx:List Nat→World→Prop)
  (hY:∀pre x W,J pre W→pre.length<a+1→YieldAt F (n-1) Tryz.prog l #[.agg #[c0 x,c1 x,c2 x,c3 x,.bool (bl x),c5 x,c6 x,c7 x,c8 x]] W fun e W' =>
   (e=.returned (.bool true)∧J (pre++[x]) W'∧Below n₀ W W')∨(e=.returned (.bool false)∧Jx (pre++[x]) W'))
  (W:World) (hBa:W.cell? ⟨Ba,0,none⟩=some (.int .i64 a)) (hBl:W.cell? ⟨Bl,2,none⟩=some (.slice (some ⟨b,off,none⟩) len cap)) (hBl0:Bl<n₀)
  (hc:∀j,j<len→W.cell? ⟨b,off+j*9,none⟩=some (c0 j)∧W.cell? ⟨b,off+j*9+1,none⟩=some (c1 j)∧W.cell? ⟨b,off+j*9+2,none⟩=some (c2 j)∧W.cell? ⟨b,off+j*9+3,none⟩=some (c3 j) ∧
   W.cell? ⟨b,off+j*9+4,none⟩=some (.bool (bl j))∧W.cell? ⟨b,off+j*9+5,none⟩=some (c5 j)∧W.cell? ⟨b,off+j*9+6,none⟩=some (c6 j)∧W.cell? ⟨b,off+j*9+7,none⟩=some (c7 j)∧W.cell? ⟨b,off+j*9+8,none⟩=some (c8 j))
  (h0:J [] W) :
  CallsIn F n Tryz.prog 79 #[.func (.yield l) #[] #[],.pointer (some ⟨Ba,0,none⟩),.pointer (some ⟨Bl,0,none⟩)] W fun e W'=>(∃v,e=.returned v) ∧
   ((∃k,k≤a+1∧J (dnL a k) W'∧(k=a+1∨0<k∧bl (a+1-k)=true)∧∀j,0<j→j<k→bl (a+1-j)=false)∨(∃k,k≤a+1∧Jx (dnL a k) W'∧∀j,0<j→j<k→bl (a+1-j)=false)):=by
 refine callsIn_of_wp Tryz.func79 rfl h7 ?_ hro
 simp only[Tryz.ntmps79,List.size_toArray,List.length_cons,List.length_nil,Nat.reduceAdd,Nat.reduceSub,Array.replicate_succ,Array.replicate_zero,List.push_toArray,List.append_toArray,List.nil_append,List.cons_append]
 gi_wp2
 gi_loopw [4] (fun i wr=>∃k:Nat,k≤a+1∧i=.int .i64 ((a:Int)-k)∧J (dnL a k) wr∧Below n₀ W wr∧∀j,0<j→j≤k→bl (a+1-j)=false)
  (fun i _=>(intOf i+1).toNat)
 case atStart=>exact⟨0,Nat.zero_le _,by simp,h0,Below.refl _ _,fun j h1 h2=>by omega⟩
 case round =>
  obtain⟨k,hk,rfl,hJs,hnx,hbs⟩:=hrel
  have hcell:∀(W1:World),Below n₀ W W1→∀j,j<len→W1.cell? ⟨b,off+j*9,none⟩=some (c0 j)∧W1.cell? ⟨b,off+j*9+1,none⟩=some (c1 j)∧W1.cell? ⟨b,off+j*9+2,none⟩=some (c2 j)∧W1.cell? ⟨b,off+j*9+3,none⟩=some (c3 j) ∧
   W1.cell? ⟨b,off+j*9+4,none⟩=some (.bool (bl j))∧W1.cell? ⟨b,off+j*9+5,none⟩=some (c5 j)∧W1.cell? ⟨b,off+j*9+6,none⟩=some (c6 j)∧W1.cell? ⟨b,off+j*9+7,none⟩=some (c7 j)∧W1.cell? ⟨b,off+j*9+8,none⟩=some (c8 j):=fun W1 hB j hj=>by
   obtain⟨d0,d1,d2,d3,d4,d5,d6,d7,d8⟩:=hc j hj
   exact⟨(hB.cell (p:=⟨b,_,none⟩) hb).trans d0,(hB.cell (p:=⟨b,_,none⟩) hb).trans d1,(hB.cell (p:=⟨b,_,none⟩) hb).trans d2,(hB.cell (p:=⟨b,_,none⟩) hb).trans d3,(hB.cell (p:=⟨b,_,none⟩) hb).trans d4,(hB.cell (p:=⟨b,_,none⟩) hb).trans d5,(hB.cell (p:=⟨b,_,none⟩) hb).trans d6,(hB.cell (p:=⟨b,_,none⟩) hb).trans d7,(hB.cell (p:=⟨b,_,none⟩) hb).trans d8⟩
  by_cases hlt:k≤a
  ·obtain⟨fn,tmps,assign,body,hy,hR⟩:=hY _ (a-k) wr hJs (by rw[dnL_length];omega)
   obtain⟨d0,d1,d2,d3,d4,d5,d6,d7,d8⟩:=hcell wr hnx (a-k) (by omega)
   have hBl':=(hnx.cell (p:=⟨Bl,2,none⟩) hBl0).trans hBl
   have hx:((a:Int)-k)=((a-k:Nat):Int):=by omega
   rw[hx]
   have hlx:a-k<len:=by omega
   generalize hm:a-k=m at *
   gi_wp2
   refine hR.mono ?_
   rintro e W3 (⟨rfl,hJ3,hk3⟩|⟨rfl,hJx3⟩)
   ·obtain⟨e0,e1,e2,e3,e4,e5,e6,e7,e8⟩:=hcell W3 (hnx.trans hk3) m hlx
    have hBl3:=((hnx.trans hk3).cell (p:=⟨Bl,2,none⟩) hBl0).trans hBl
    have hjk:∀j,0<j→j<k+1→bl (a+1-j)=false:=fun j h1 h2=>hbs j h1 (by omega)
    cases hbm:bl m with
    |true =>
     rw[hbm]at e4
     gi_wp2
     refine bodyPost_ret (results_none rfl _ _ _) rfl ?_
     exact⟨⟨_,rfl⟩,.inl ⟨k+1,by omega,by rw[dnL_succ,hm];exact hJ3,.inr ⟨by omega,by rw[show a+1-(k+1)=m by omega];exact hbm⟩,hjk⟩⟩
    |false =>
     rw[hbm]at e4
     gi_wp2
     refine⟨⟨k+1,by omega,by rw[show((m:Int)-1)=(a:Int)-((k+1:Nat):Int) by omega],by rw[dnL_succ,hm];exact hJ3,hnx.trans hk3,fun j h1 h2=>?_⟩,by simp[intOf]⟩
     rcases Nat.lt_or_ge j (k+1) with h3|h3
     ·exact hjk j h1 h3
     ·rw[show a+1-j=m by omega];exact hbm
   ·gi_wp2
    refine bodyPost_ret (results_none rfl _ _ _) rfl ?_
    exact⟨⟨_,rfl⟩,.inr ⟨k+1,by omega,by rw[dnL_succ,hm];exact hJx3,fun j h1 h2=>hbs j h1 (by omega)⟩⟩
  ·obtain rfl:k=a+1:=by omega
   have hx:((a:Int)-((a+1:Nat):Int))=-1:=by omega
   rw[hx]
   gi_wp2
   go_end0
   exact⟨⟨_,rfl⟩,.inl ⟨_,Nat.le_refl _,hJs,.inl rfl,fun j h1 h2=>hbs j h1 (by omega)⟩⟩
end Go.Proofs.YtdnpaifeoinjoaaGreatDoor

namespace Go.Proofs.YtdnpaifeoinjoaaGreatDoor
open Go.RowKit Go.Shelf
attribute [local go_sem] Oper.semAt_some
def Box9 (c0 c1 c2 c3:Nat→Value)(bl:Nat→Bool)(c5 c6 c7 c8:Nat→Value)(W:World)(b o x:Nat):Prop :=
 W.cell? ⟨b,o,none⟩=some (c0 x)∧W.cell? ⟨b,o+1,none⟩=some (c1 x)∧W.cell? ⟨b,o+2,none⟩=some (c2 x)∧W.cell? ⟨b,o+3,none⟩=some (c3 x) ∧
   W.cell? ⟨b,o+4,none⟩=some (.bool (bl x))∧W.cell? ⟨b,o+5,none⟩=some (c5 x)∧W.cell? ⟨b,o+6,none⟩=some (c6 x)∧W.cell? ⟨b,o+7,none⟩=some (c7 x)∧W.cell? ⟨b,o+8,none⟩=some (c8 x)
theorem back_stops (F:Fence)(n:Nat)(h7:F.fn 79)(hro:F.round=none)(hn:1≤n)(Ba Bl n₀ b off len cap a:Nat)(c0 c1 c2 c3 c5 c6 c7 c8:Nat→Value)(bl:Nat→Bool)(hlen:len*144≤140737488351232)(hb:b<n₀)(ha:a<len)
  (w:World) (hn0:n₀≤w.heap.size) (hBa:w.cell? ⟨Ba,0,none⟩=some (.int .i64 a)) (hBa0:Ba<w.heap.size) (hBl:w.cell? ⟨Bl,2,none⟩=some (.slice (some ⟨b,off,none⟩) len cap)) (hBl0:Bl<n₀)
  (hc:∀j,j<len→Box9 c0 c1 c2 c3 bl c5 c6 c7 c8 w b (off+j*9) j) :
  SeqStopsK F n Tryz.prog 79 #[.pointer (some ⟨Ba,0,none⟩),.pointer (some ⟨Bl,0,none⟩)] (fun x:Nat=>#[.agg #[c0 x,c1 x,c2 x,c3 x,.bool (bl x),c5 x,c6 x,c7 x,c8 x]]) (Below n₀)
   (fun xs=>∃k,k≤a+1∧xs=dnL a k∧(k=a+1∨0<k∧bl (a+1-k)=true)∧∀j,0<j→j<k→bl (a+1-j)=false)
   (fun xs=>∃k,k≤a+1∧xs=dnL a k∧∀j,0<j→j<k→bl (a+1-j)=false) (a+1) w:=fun l J Jx W hW _ _ hY h0=>by
 have hB:=hW.mono hn0
 refine(back1_in F n h7 hro hn l Ba Bl n₀ b off len cap a c0 c1 c2 c3 c5 c6 c7 c8 bl hlen hb ha J Jx hY W ((hW.cell (p:=⟨Ba,0,none⟩) hBa0).trans hBa) ((hB.cell (p:=⟨Bl,2,none⟩) hBl0).trans hBl) hBl0 (fun j hj=>?_) h0).mono ?_
 ·obtain⟨d0,d1,d2,d3,d4,d5,d6,d7,d8⟩:=hc j hj
  exact⟨(hB.cell (p:=⟨b,_,none⟩) hb).trans d0,(hB.cell (p:=⟨b,_,none⟩) hb).trans d1,(hB.cell (p:=⟨b,_,none⟩) hb).trans d2,(hB.cell (p:=⟨b,_,none⟩) hb).trans d3,(hB.cell (p:=⟨b,_,none⟩) hb).trans d4,(hB.cell (p:=⟨b,_,none⟩) hb).trans d5,(hB.cell (p:=⟨b,_,none⟩) hb).trans d6,(hB.cell (p:=⟨b,_,none⟩) hb).trans d7,(hB.cell (p:=⟨b,_,none⟩) hb).trans d8⟩
 ·rintro e W' ⟨he,⟨k,h1,h2,h3,h4⟩|⟨k,h1,h2,h3⟩⟩
  ·exact⟨he,.inl ⟨_,⟨k,h1,rfl,h3,h4⟩,h2⟩⟩
  ·exact⟨he,.inr ⟨_,⟨k,h1,rfl,h3⟩,h2⟩⟩
theorem heap5 (w:World)(o1 o2 o3 o4 o5:Obj):(((((w.alloc o1).alloc o2).alloc o3).alloc o4).alloc o5).heap[w.heap.size+1]?=some o2∧(((((w.alloc o1).alloc o2).alloc o3).alloc o4).alloc o5).heap[w.heap.size+1+1]?=some o3 ∧
  (((((w.alloc o1).alloc o2).alloc o3).alloc o4).alloc o5).heap[w.heap.size+1+1+1]?=some o4∧(((((w.alloc o1).alloc o2).alloc o3).alloc o4).alloc o5).heap[w.heap.size+1+1+1+1]?=some o5:=by
 have e:(((((w.alloc o1).alloc o2).alloc o3).alloc o4).alloc o5).heap=((((w.heap.push o1).push o2).push o3).push o4).push o5:=rfl
 rw[e]
 simp only[Array.getElem?_push,Array.size_push]
 refine⟨?_,?_,?_,?_⟩
 ·rw[if_neg (by omega),if_neg (by omega),if_neg (by omega),if_pos trivial]
 ·rw[if_neg (by omega),if_neg (by omega),if_pos trivial]
 ·rw[if_neg (by omega),if_pos trivial]
 ·rw[if_pos trivial]
theorem cell_at {W:World}{k i:Nat}{cs:Array Value}{T:TypeId}{fz:Nat×Nat}(h:W.heap[k]?=some (.cells cs T fz)):W.cell? ⟨k,i,none⟩=cs[i]?:=by simp[World.cell?,h]
theorem froz_below {n:Nat}{A B:World}(h:Below n A B){p:Addr}(hp:p.block<n):B.frozen? p=A.frozen? p:=by unfold World.frozen?;rw[h.block _ hp]
theorem keeps_below {A B:World}(h:Below A.heap.size A B):KeepsOthers A B:=⟨h.size,fun k o hk _=>by rw[h.block k (Array.getElem?_eq_some_iff.1 hk).1];exact hk⟩
theorem froz_at {W:World}{k i:Nat}{cs:Array Value}{T:TypeId}(h:W.heap[k]?=some (.cells cs T (0,0))):W.frozen? ⟨k,i,none⟩=false:=by simp[World.frozen?,h]
set_option maxRecDepth 100000 in
set_option maxHeartbeats 4000000 in
theorem value_calls (w : World)(b off len cap a : Nat)(s0 s1 s7 : Nat → ByteArray)(a2 a3 : Nat → Option Addr)(n2 k2 n3 k3 : Nat → Nat)(b5 : Nat → Bool)(i6 i8 : Nat → Int)(bl : Nat → Bool)(v0 v1 p0 p1 : Value)(m1 m2 : Nat → Int)(ok : Nat → Bool)(hlen : len * 144 ≤ 140737488351232)(hb : b < w.heap.size)(ha : a < len)
    (hc : ∀ j, j < len → Box9 (fun x => .string (s0 x)) (fun x => .string (s1 x)) (fun x => .slice (a2 x) (n2 x) (k2 x)) (fun x => .slice (a3 x) (n3 x) (k3 x)) bl (fun x => .bool (b5 x)) (fun x => .int .i64 (i6 x)) (fun x => .string (s7 x)) (fun x => .int .i64 (i8 x)) w b (off + j * 9) j)
    (hmove : ∀ x W, Below w.heap.size w W → Calls Tryz.prog 41 #[.agg #[.string (s0 x), .string (s1 x), .slice (a2 x) (n2 x) (k2 x), .slice (a3 x) (n3 x) (k3 x), .bool (bl x), .bool (b5 x), .int .i64 (i6 x), .string (s7 x), .int .i64 (i8 x)], .agg #[p0, p1]] W fun e W' => e = .returned (.tuple #[.agg #[.int .i64 (m1 x), .int .i64 (m2 x)], .bool (ok x)]) ∧ Below W.heap.size W W')
    (hhome : ∀ W, Calls Tryz.prog 83 #[] W fun e W' => e = .returned (.agg #[.int .i64 (-1), .int .i64 0]) ∧ Below W.heap.size W W') :
    Calls Tryz.prog 69 #[.agg #[v0, v1, .slice (some ⟨b, off, none⟩) len cap], .int .i64 a, .agg #[p0, p1]] w fun e W' =>
      ((∃ k, k ≤ a + 1 ∧ (∀ x ∈ dnL a k, ok x = false) ∧ (k = a + 1 ∨ 0 < k ∧ bl (a + 1 - k) = true) ∧ (∀ j, 0 < j → j < k → bl (a + 1 - j) = false) ∧ e = .returned (.agg #[.int .i64 (-1), .int .i64 0])) ∨
       (∃ k, k < a + 1 ∧ (∀ x ∈ dnL a k, ok x = false) ∧ ok (a - k) = true ∧ (∀ j, 0 < j → j ≤ k → bl (a + 1 - j) = false) ∧ e = .returned (.agg #[.int .i64 (m1 (a - k)), .int .i64 (m2 (a - k))]))) ∧ Below w.heap.size w W' := by
  refine (callsIn_wide (n := 3)).1 ?_
  refine callsIn_of_wp_marks Tryz.func69 rfl trivial ?_ rfl
  simp only [Tryz.ntmps69, List.size_toArray, List.length_cons, List.length_nil, Nat.reduceAdd, Nat.reduceSub, Array.replicate_succ, Array.replicate_zero, List.push_toArray, List.append_toArray, List.nil_append, List.cons_append]
  gi_wp2_with (refine ⟨trivial, ?_⟩; gi_at_call 40; refine (back_in Fence.wide _ trivial rfl _ _ _ _ _).mono ?_; rintro e w' ⟨rfl, rfl⟩)
  have hB0 : Below w.heap.size w (((((w.alloc (.cells #[v0, v1, .slice (some ⟨b, off, none⟩) len cap] 24)).alloc (.cells #[p0, p1] 38)).alloc (.cells #[.int .i64 0, .int .i64 0] 40)).alloc (.cells #[v0, v1, .slice (some ⟨b, off, none⟩) len cap] 24)).alloc (.cells #[.int .i64 a] 3)) :=
    (((((Below.refl _ w).alloc (Nat.le_refl _) _).alloc (by simp) _).alloc (by simp; omega) _).alloc (by simp; omega) _).alloc (by simp; omega) _
  have hs0 : (((((w.alloc (.cells #[v0, v1, .slice (some ⟨b, off, none⟩) len cap] 24)).alloc (.cells #[p0, p1] 38)).alloc (.cells #[.int .i64 0, .int .i64 0] 40)).alloc (.cells #[v0, v1, .slice (some ⟨b, off, none⟩) len cap] 24)).alloc (.cells #[.int .i64 a] 3)).heap.size = w.heap.size + 1 + 1 + 1 + 1 + 1 := by simp
  obtain ⟨g2, g3, g4, g5⟩ := heap5 w (.cells #[v0, v1, .slice (some ⟨b, off, none⟩) len cap] 24) (.cells #[p0, p1] 38) (.cells #[.int .i64 0, .int .i64 0] 40) (.cells #[v0, v1, .slice (some ⟨b, off, none⟩) len cap] 24) (.cells #[.int .i64 a] 3)
  generalize hW0 : (((((w.alloc (.cells #[v0, v1, .slice (some ⟨b, off, none⟩) len cap] 24)).alloc (.cells #[p0, p1] 38)).alloc (.cells #[.int .i64 0, .int .i64 0] 40)).alloc (.cells #[v0, v1, .slice (some ⟨b, off, none⟩) len cap] 24)).alloc (.cells #[.int .i64 a] 3)) = W0 at *
  have f0 : W0.cell? ⟨w.heap.size + 1 + 1 + 1 + 1, 0, none⟩ = some (.int .i64 a) := cell_at g5
  have f1 : W0.cell? ⟨w.heap.size + 1 + 1 + 1, 2, none⟩ = some (.slice (some ⟨b, off, none⟩) len cap) := cell_at g4
  have f3 : W0.cell? ⟨w.heap.size + 1, 0, none⟩ = some p0 := cell_at g2
  have f4 : W0.cell? ⟨w.heap.size + 1, 1, none⟩ = some p1 := cell_at g2
  have f5 : W0.cell? ⟨w.heap.size + 1 + 1, 0, none⟩ = some (.int .i64 0) := cell_at g3
  have f6 : W0.cell? ⟨w.heap.size + 1 + 1, 1, none⟩ = some (.int .i64 0) := cell_at g3
  have f7 : W0.frozen? ⟨w.heap.size + 1 + 1, 0, none⟩ = false := froz_at g3
  have f8 : W0.frozen? ⟨w.heap.size + 1 + 1, 1, none⟩ = false := froz_at g3
  have hc0 : ∀ j, j < len → Box9 (fun x => .string (s0 x)) (fun x => .string (s1 x)) (fun x => .slice (a2 x) (n2 x) (k2 x)) (fun x => .slice (a3 x) (n3 x) (k3 x)) bl (fun x => .bool (b5 x)) (fun x => .int .i64 (i6 x)) (fun x => .string (s7 x)) (fun x => .int .i64 (i8 x)) W0 b (off + j * 9) j := fun j hj => by
    obtain ⟨d0, d1, d2, d3, d4, d5, d6, d7, d8⟩ := hc j hj
    exact ⟨(hB0.cell (p := ⟨b, _, none⟩) hb).trans d0, (hB0.cell (p := ⟨b, _, none⟩) hb).trans d1, (hB0.cell (p := ⟨b, _, none⟩) hb).trans d2, (hB0.cell (p := ⟨b, _, none⟩) hb).trans d3, (hB0.cell (p := ⟨b, _, none⟩) hb).trans d4, (hB0.cell (p := ⟨b, _, none⟩) hb).trans d5, (hB0.cell (p := ⟨b, _, none⟩) hb).trans d6, (hB0.cell (p := ⟨b, _, none⟩) hb).trans d7, (hB0.cell (p := ⟨b, _, none⟩) hb).trans d8⟩
  refine wpIn_rangeFunc_ownH rfl (by decide) (gf := 79) (lb := #[.pointer (some ⟨w.heap.size + 1 + 1 + 1 + 1, 0, none⟩), .pointer (some ⟨w.heap.size + 1 + 1 + 1, 0, none⟩)]) rfl trivial (enters_of Tryz.func79 (by kernel_rfl) rfl)
    (back_stops Fence.wide _ trivial rfl (by decide) (w.heap.size + 1 + 1 + 1 + 1) (w.heap.size + 1 + 1 + 1) W0.heap.size b off len cap a (fun x => .string (s0 x)) (fun x => .string (s1 x)) (fun x => .slice (a2 x) (n2 x) (k2 x)) (fun x => .slice (a3 x) (n3 x) (k3 x)) (fun x => .bool (b5 x)) (fun x => .int .i64 (i6 x)) (fun x => .string (s7 x)) (fun x => .int .i64 (i8 x)) bl hlen (by omega) ha W0 (Nat.le_refl _) f0 (by omega) f1 (by omega) hc0)
    belowK_t (belowK_b (Nat.le_refl _)) (Below.refl _ _) (fun _ => rfl)
    (fun pre W => (∀ x ∈ pre, ok x = false) ∧ Below W0.heap.size W0 W)
    (fun c pre W => (c = .ret ∧ ∃ ini last, pre = ini ++ [last] ∧ (∀ x ∈ ini, ok x = false) ∧ ok last = true ∧ W.cell? ⟨w.heap.size + 1 + 1, 0, none⟩ = some (.int .i64 (m1 last)) ∧ W.cell? ⟨w.heap.size + 1 + 1, 1, none⟩ = some (.int .i64 (m2 last))) ∧ Below w.heap.size w W)
    (OwnFrom.and (Own.from (fun s A B row hs hg hr => hs) _) (ownFrom_below (Nat.le_refl _) (Nat.le_refl _)))
    (fun c => OwnFrom.and (Own.from (fun s A B row hs hg hr => by obtain ⟨hc, ini, last, e1, e2, e3, e4, e5⟩ := hs; exact ⟨hc, ini, last, e1, e2, e3, cell_kept e4 hg hr, cell_kept e5 hg hr⟩) _) (ownFrom_below (Nat.le_refl _) (by omega)))
    ⟨by simp, Below.refl _ _⟩
    (fun x a' W => ∃ Bx, w.heap.size + 1 + 1 + 1 + 1 + 1 ≤ Bx ∧ Box9 (fun x => .string (s0 x)) (fun x => .string (s1 x)) (fun x => .slice (a2 x) (n2 x) (k2 x)) (fun x => .slice (a3 x) (n3 x) (k3 x)) bl (fun x => .bool (b5 x)) (fun x => .int .i64 (i6 x)) (fun x => .string (s7 x)) (fun x => .int .i64 (i8 x)) W Bx 0 x ∧ a' = { tmps := #[.agg #[v0, v1, .slice (some ⟨b, off, none⟩) len cap], .int .i64 a, .agg #[p0, p1], .pointer (some ⟨w.heap.size, 0, none⟩), undef, .pointer (some ⟨w.heap.size + 1, 0, none⟩), .pointer (some ⟨w.heap.size + 1 + 1, 0, none⟩), .pointer (some ⟨Bx, 0, none⟩), undef, undef, .agg #[v0, v1, .slice (some ⟨b, off, none⟩) len cap], .int .i64 a, .func (.func 79) #[] #[.pointer (some ⟨w.heap.size + 1 + 1 + 1 + 1, 0, none⟩), .pointer (some ⟨w.heap.size + 1 + 1 + 1, 0, none⟩)], .agg #[.string (s0 x), .string (s1 x), .slice (a2 x) (n2 x) (k2 x), .slice (a3 x) (n3 x) (k3 x), .bool (bl x), .bool (b5 x), .int .i64 (i6 x), .string (s7 x), .int .i64 (i8 x)], undef, undef, undef, undef, undef, undef, undef, undef, undef], defers := [] })
    (fun x a' => Own.from (fun s A B row hs hg hr => by
      obtain ⟨Bx, h1, ⟨d0, d1, d2, d3, d4, d5, d6, d7, d8⟩, h3⟩ := hs
      exact ⟨Bx, h1, ⟨cell_kept d0 hg hr, cell_kept d1 hg hr, cell_kept d2 hg hr, cell_kept d3 hg hr, cell_kept d4 hg hr, cell_kept d5 hg hr, cell_kept d6 hg hr, cell_kept d7 hg hr, cell_kept d8 hg hr⟩, h3⟩) _) ?assign ?body ?done ?stop
  case assign =>
    rintro l pre x W K hi hK
    gi_wp2
    refine hK _ _ ((KeepsOthers.alloc _ _).from _) ((Below.refl _ W).alloc hi.2.size _) ⟨hi.1, hi.2.alloc hi.2.size _⟩ ⟨W.heap.size, by have := hi.2.size; omega, ?_, rfl⟩
    have hn := World.alloc_heap_new W (.cells #[.string (s0 x), .string (s1 x), .slice (a2 x) (n2 x) (k2 x), .slice (a3 x) (n3 x) (k3 x), .bool (bl x), .bool (b5 x), .int .i64 (i6 x), .string (s7 x), .int .i64 (i8 x)] 30)
    exact ⟨cell_at hn, cell_at hn, cell_at hn, cell_at hn, cell_at hn, cell_at hn, cell_at hn, cell_at hn, cell_at hn⟩
  case body =>
    rintro l pre x a' W hl ⟨r, hr⟩ ⟨hp, hB⟩ ⟨Bx, hBx, ⟨d0, d1, d2, d3, d4, d5, d6, d7, d8⟩, rfl⟩ hlt
    simp only [Nat.zero_add] at d1 d2 d3 d4 d5 d6 d7 d8
    have hBw : Below w.heap.size w W := hB0.trans (hB.mono (by omega))
    have q3 := (hB.cell (p := ⟨w.heap.size + 1, 0, none⟩) (by show w.heap.size + 1 < _; omega)).trans f3
    have q4 := (hB.cell (p := ⟨w.heap.size + 1, 1, none⟩) (by show w.heap.size + 1 < _; omega)).trans f4
    gi_wp2_with (refine ⟨trivial, ?_⟩; gi_at_call 41; refine (CallsIn.inRound l (callsIn_wide.2 (hmove x W hBw))).mono ?_; rintro e w' ⟨rfl, hBm⟩; have hs3 := hB.size; have hs4 := hBm.size; have hB3 : Below W0.heap.size W0 w' := hB.trans (hBm.mono hs3); have q5 : ∀ o, (w'.alloc o).cell? ⟨w.heap.size + 1 + 1, 0, none⟩ = some (.int .i64 0) := fun o => ((hB3.alloc (by omega) o).cell (p := ⟨w.heap.size + 1 + 1, 0, none⟩) (by show w.heap.size + 1 + 1 < _; omega)).trans f5; have q6 : ∀ o, (w'.alloc o).cell? ⟨w.heap.size + 1 + 1, 1, none⟩ = some (.int .i64 0) := fun o => ((hB3.alloc (by omega) o).cell (p := ⟨w.heap.size + 1 + 1, 1, none⟩) (by show w.heap.size + 1 + 1 < _; omega)).trans f6; have q7 : ∀ o, (w'.alloc o).frozen? ⟨w.heap.size + 1 + 1, 0, none⟩ = false := fun o => (froz_below (hB3.alloc (by omega) o) (by show w.heap.size + 1 + 1 < _; omega)).trans f7; have q8 : ∀ o, (w'.alloc o).frozen? ⟨w.heap.size + 1 + 1, 1, none⟩ = false := fun o => (froz_below (hB3.alloc (by omega) o) (by show w.heap.size + 1 + 1 < _; omega)).trans f8)
    all_goals first
      | (have hx : ok x = false := by first | assumption | simpa using (by assumption : ¬ ok x = true)
         exact ⟨((keeps_below hBm).trans (KeepsOthers.alloc _ _)).from _, (hBm.mono hs3).alloc (by omega) _, ⟨fun y hy => (List.mem_append.1 hy).elim (hp y) (fun e => by rw [List.mem_singleton.1 e]; exact hx), hB3.alloc (by omega) _⟩⟩)
      | skip
    have hx : ok x = true := by first | assumption | simpa using (by assumption : ¬ ok x = false)
    refine ⟨(((keeps_below hBm).trans (KeepsOthers.alloc _ _)).trans ((KeepsOthers.setCell _ _ _).trans (KeepsOthers.setCell _ _ _))).from _, ⟨rfl, pre, x, rfl, hp, hx, ?_, ?_⟩, ?_⟩
    · exact (World.cell?_setCell_other _ _ _ _ (by simp)).trans (World.cell?_setCell_same' _ _ _ (by rw [q5]; rfl))
    · exact World.cell?_setCell_same' _ _ _ (by rw [World.cell?_setCell_other _ _ _ _ (by simp), q6]; rfl)
    · exact (((hBw.trans (hBm.mono hBw.size)).alloc (by omega) _).setCell (p := ⟨w.heap.size + 1 + 1, 0, none⟩) (by show _ ≤ w.heap.size + 1 + 1; omega) _).setCell (p := ⟨w.heap.size + 1 + 1, 1, none⟩) (by show _ ≤ w.heap.size + 1 + 1; omega) _
  case done =>
    rintro D ys W hD ⟨k, h1, rfl, h2, h3⟩ ⟨hp, hB⟩ hK
    gi_wp2_with (refine ⟨trivial, ?_⟩; gi_at_call 83; refine (callsIn_wide.2 (hhome W)).mono ?_; rintro e w' ⟨rfl, hBh⟩; have hs3 := hB.size; have hs4 := hBh.size; have hB3 : Below W0.heap.size W0 w' := hB.trans (hBh.mono hs3); have q5 : w'.cell? ⟨w.heap.size + 1 + 1, 0, none⟩ = some (.int .i64 0) := (hB3.cell (p := ⟨w.heap.size + 1 + 1, 0, none⟩) (by show w.heap.size + 1 + 1 < _; omega)).trans f5; have q6 : w'.cell? ⟨w.heap.size + 1 + 1, 1, none⟩ = some (.int .i64 0) := (hB3.cell (p := ⟨w.heap.size + 1 + 1, 1, none⟩) (by show w.heap.size + 1 + 1 < _; omega)).trans f6; have q7 : w'.frozen? ⟨w.heap.size + 1 + 1, 0, none⟩ = false := (froz_below hB3 (by show w.heap.size + 1 + 1 < _; omega)).trans f7; have q8 : w'.frozen? ⟨w.heap.size + 1 + 1, 1, none⟩ = false := (froz_below hB3 (by show w.heap.size + 1 + 1 < _; omega)).trans f8)
    have hKh : w'.heap[D]? = some (.deferred (some [])) := (hBh.block D (Array.getElem?_eq_some_iff.1 hK).1).trans hK
    have hK' := (KeepsOthers.setCell (w'.setCell ⟨w.heap.size + 1 + 1, 0, none⟩ (.int .i64 (-1))) ⟨w.heap.size + 1 + 1, 1, none⟩ (.int .i64 0)).same D _ ((KeepsOthers.setCell w' ⟨w.heap.size + 1 + 1, 0, none⟩ (.int .i64 (-1))).same D _ hKh rfl) rfl
    refine ⟨by simp, .inl ⟨_, _, rfl, run_takeDeferred hK', ?_⟩⟩
    have k0 : ((w'.setCell ⟨w.heap.size + 1 + 1, 0, none⟩ (.int .i64 (-1))).setCell ⟨w.heap.size + 1 + 1, 1, none⟩ (.int .i64 0)).cell? ⟨w.heap.size + 1 + 1, 0, none⟩ = some (.int .i64 (-1)) :=
      (World.cell?_setCell_other _ _ _ _ (by simp)).trans (World.cell?_setCell_same' _ _ _ (by rw [q5]; rfl))
    have k1 : ((w'.setCell ⟨w.heap.size + 1 + 1, 0, none⟩ (.int .i64 (-1))).setCell ⟨w.heap.size + 1 + 1, 1, none⟩ (.int .i64 0)).cell? ⟨w.heap.size + 1 + 1, 1, none⟩ = some (.int .i64 0) :=
      World.cell?_setCell_same' _ _ _ (by rw [World.cell?_setCell_other _ _ _ _ (by simp), q6]; rfl)
    have hc5 := cell_kept k0 (grownBy_putObj' _ D (.deferred none)) (fun r e => by cases e; exact ⟨_, hK', rfl⟩)
    have hc6 := cell_kept k1 (grownBy_putObj' _ D (.deferred none)) (fun r e => by cases e; exact ⟨_, hK', rfl⟩)
    refine ⟨.agg #[.int .i64 (-1), .int .i64 0], ?_, .inl ⟨k, h1, hp, h2, h3, rfl⟩, (((hB0.trans (hB3.mono (by omega))).setCell (p := ⟨w.heap.size + 1 + 1, 0, none⟩) (by show _ ≤ w.heap.size + 1 + 1; omega) _).setCell (p := ⟨w.heap.size + 1 + 1, 1, none⟩) (by show _ ≤ w.heap.size + 1 + 1; omega) _).trans (belowK_b (w := w) (Nat.le_refl _) _ D _ _ (by omega) hK' rfl rfl)⟩
    simp [results, Tryz.f69, go_sem, hc5, hc6]
  case stop =>
    rintro D c pre W hD ⟨k, h1, rfl, h2⟩ ⟨⟨rfl, ini, last, e1, e2, e3, e4, e5⟩, hB⟩ hK
    gi_wp2
    obtain ⟨k', rfl⟩ : ∃ k', k = k' + 1 := by
      cases k with
      | zero => simp [dnL] at e1
      | succ k' => exact ⟨k', rfl⟩
    rw [dnL_succ] at e1
    obtain ⟨rfl, e6⟩ := List.append_inj' e1 rfl
    obtain rfl : a - k' = last := by simpa using e6
    refine ⟨by simp, .inl ⟨_, _, rfl, run_takeDeferred hK, ?_⟩⟩
    have hc5 := cell_kept e4 (grownBy_putObj' _ D (.deferred none)) (fun r e => by cases e; exact ⟨_, hK, rfl⟩)
    have hc6 := cell_kept e5 (grownBy_putObj' _ D (.deferred none)) (fun r e => by cases e; exact ⟨_, hK, rfl⟩)
    refine ⟨.agg #[.int .i64 (m1 (a - k')), .int .i64 (m2 (a - k'))], ?_, .inr ⟨k', by omega, e2, e3, fun j h3 h4 => h2 j h3 (by omega), rfl⟩, hB.trans (belowK_b (w := w) (Nat.le_refl _) W D _ _ (by omega) hK rfl rfl)⟩
    simp [results, Tryz.f69, go_sem, hc5, hc6]
end Go.Proofs.YtdnpaifeoinjoaaGreatDoor

namespace Go.Proofs.YtdnpaifeoinjoaaGreatDoor
open Go.Sha Go.RowKit
set_option maxRecDepth 100000
theorem calls_of {P:Program}{f:FuncId}{fn:Func}(hf:P.funcs[f]?=some fn)(hname:(fn.name == "runtime.NumGoroutine")=false)(hb:fn.body.isNone=false){ds:List V}{st':St}{r:V}(h:VRet P f ds st0 r st'){w:World}{vs:List Value}(ha:Reps w (abs0 w) vs ds) :
  Calls P f vs.toArray w fun e w'=>(∃v A',e=.returned v∧Rep w' A' v r)∧Below w.heap.size w w':=by
 refine(VCalls.calls hf hname hb h (sim0 w) ha).mono fun e w' ⟨r',A',s,⟨hr,_⟩,he,_,hx⟩=>?_
 subst hr
 cases e with
 |returned v=>exact⟨⟨v,A',rfl,he⟩,⟨hx.os,hx.tape,hx.output,hx.size,fun i hi=>hx.fr i hi rfl⟩⟩
 |panicked ch=>exact he.elim
 |outgrown=>exact he.elim
theorem rdL_map {α:Type}{f:V→Option α}{g:α→V}(h:∀v x,f v=some x→v=g x):∀{l:List V}{xs:List α},rdL f l=some xs→l=xs.map g
 |[],xs,e=>by cases e;rfl
 |v::r,xs,e=>by
  rw[rdL]at e
  split at e
  ·rename_i x l h1 h2
   cases e
   rw[List.map_cons,←rdL_map h h2,←h v x h1]
  ·cases e
theorem rdMov_v (v:V)(x:Mov)(h:rdMov v=some x):v=x.v:=by
 unfold rdMov at h;split at h
 ·cases h;rfl
 ·cases h
theorem rdTim_v (v:V)(x:Tim)(h:rdTim v=some x):v=x.v:=by
 unfold rdTim at h;split at h
 ·cases h;rfl
 ·cases h
theorem rdCu_v (v:V)(x:Cu)(h:rdCu v=some x):v=x.v:=by
 unfold rdCu at h;split at h
 ·split at h
  ·rename_i h1 h2
   cases h
   rw[rdL_map rdMov_v h1,rdL_map rdTim_v h2]
  ·cases h
 ·cases h
theorem rep_sl {w:World}{A:Abs}{v:Value}{l:List V}(h:Rep w A v (.sl l)):∃a n k,v=.slice a n k:=by
 cases h with
 |sl=>exact⟨_,_,_,rfl⟩
 |slnil a=>exact⟨_,_,_,rfl⟩
theorem cues_at {w:World}{A:Abs}{v:Value}{l:List Cu}(h:Rep w A v (.sl (l.map Cu.v)))(hne:l≠[]) :
  ∃b o cap,∃cell:Nat→Nat→Value,v=.slice (some ⟨b,o,none⟩) l.length cap∧∀j x,l[j]?=some x→∀k c,x.v.cells[k]?=some c→A.C b (o+(j*9+k))∧w.cell? ⟨b,o+(j*9+k),none⟩=some (cell j k)∧Rep w A (cell j k) c:=by
 generalize hd:V.sl (l.map Cu.v)=d at h
 cases h with
 |sl ys b o cap es cell hes hcap hm hC hr =>
  cases hd
  have e1:es=9:=by
   obtain⟨x,hx⟩:=List.exists_mem_of_ne_nil _ hne
   exact(hes x.v (List.mem_map.2 ⟨x,hx,rfl⟩)).symm.trans rfl
  subst e1
  refine⟨b,o,cap,cell,by rw[List.length_map],fun j x hj k c hk=>?_⟩
  have hj':(l.map Cu.v)[j]?=some x.v:=by rw[List.getElem?_map,hj];rfl
  obtain⟨g1,g2,_⟩:=hC j k _ c hj' hk
  exact⟨g1,g2,hr j k _ c hj' hk⟩
 |slnil a=>cases l with|nil=>exact absurd rfl hne|cons x l=>cases hd
 |_=>cases hd
theorem agg9 {w:World}{A:Abs}{c:Cu}{a2 a3:Option Addr}{n2 k2 n3 k3:Nat}(h2:Rep w A (.slice a2 n2 k2) (.sl (c.moves.map Mov.v)))(h3:Rep w A (.slice a3 n3 k3) (.sl (c.parts.map Tim.v))) :
  Rep w A (.agg #[.string ⟨c.num.toArray⟩,.string ⟨c.label.toArray⟩,.slice a2 n2 k2,.slice a3 n3 k3,.bool c.block,.bool c.mark,.int .i64 c.follow,.string ⟨c.link.toArray⟩,.int .i64 c.loops]) c.v:=by
 refine Rep.agg [.string ⟨c.num.toArray⟩,.string ⟨c.label.toArray⟩,.slice a2 n2 k2,.slice a3 n3 k3,.bool c.block,.bool c.mark,.int .i64 c.follow,.string ⟨c.link.toArray⟩,.int .i64 c.loops] _ rfl (fun v hv=>?_) (fun i v d h4 h5=>?_)
 ·simp at hv;rcases hv with rfl|rfl|rfl|rfl|rfl|rfl|rfl|rfl|rfl<;>rfl
 ·match i,h4,h5 with
  |0,h4,h5=>simp at h4 h5;subst h4 h5;exact .str _
  |1,h4,h5=>simp at h4 h5;subst h4 h5;exact .str _
  |2,h4,h5=>simp at h4 h5;subst h4 h5;exact h2
  |3,h4,h5=>simp at h4 h5;subst h4 h5;exact h3
  |4,h4,h5=>simp at h4 h5;subst h4 h5;exact .bool _
  |5,h4,h5=>simp at h4 h5;subst h4 h5;exact .bool _
  |6,h4,h5=>simp at h4 h5;subst h4 h5;exact .int _ _
  |7,h4,h5=>simp at h4 h5;subst h4 h5;exact .str _
  |8,h4,h5=>simp at h4 h5;subst h4 h5;exact .int _ _
  |n+9,h4,h5=>simp at h4
theorem prm_inv {w:World}{A:Abs}{v:Value}{a b:Int}(h:Rep w A v (.agg [.int .i64 a,.int .i64 b])):v=.agg #[.int .i64 a,.int .i64 b]:=by
 obtain⟨vs,rfl,hl,_,hr⟩:=h.agg_inv
 match vs,hl,hr with
 |[x,y],_,hr =>
  have e1:=(hr 0 x _ rfl rfl).int_inv
  have e2:=(hr 1 y _ rfl rfl).int_inv
  subst e1 e2;rfl
theorem prm_rep {w:World}{A:Abs}{a b:Int}:Rep w A (.agg #[.int .i64 a,.int .i64 b]) (.agg [.int .i64 a,.int .i64 b]):=by
 refine Rep.agg [.int .i64 a,.int .i64 b] _ rfl (fun v hv=>?_) (fun i v d h4 h5=>?_)
 ·simp at hv;rcases hv with rfl|rfl<;>rfl
 ·match i,h4,h5 with
  |0,h4,h5=>simp at h4 h5;subst h4 h5;exact .int _ _
  |1,h4,h5=>simp at h4 h5;subst h4 h5;exact .int _ _
  |n+2,h4,h5=>simp at h4
theorem valF_at {l:List Cu}{q:Prm}:∀{a k:Nat},k≤a→(∀j,j<k→movF (l.getD (a-j) default).moves q=none∧(l.getD (a-j) default).block=false)→valF l q a=valF l q (a-k)
 |a,0,_,_=>rfl
 |0,k+1,h,_=>by omega
 |a+1,k+1,h,hj=>by
  obtain⟨h1,h2⟩:=hj 0 (by omega)
  simp only[Nat.sub_zero]at h1 h2
  rw[valF,h1,h2]
  simp only[Bool.false_eq_true,if_false]
  rw[valF_at (a:=a) (k:=k) (by omega) (fun j hjk=>by have:=hj (j+1) (by omega);rwa [show a+1-(j+1)=a-j by omega]at this)]
  congr 1;omega
theorem callable69:Callable Tryz.prog 69:=⟨_,Tryz.func69,by kernel_rfl,by kernel_rfl⟩
theorem v69 (x y:Int)(l:List Cu)(a:Nat)(q:Prm)(st:St)(ha:a<l.length)(hl:l.length≤1000000)(hq:okP q=true)(hm:∀c∈l,okMs c.moves=true)(hml:∀c∈l,c.moves.length<140737488355328) :
  VRet Tryz.prog 69 [.agg [.int .i64 x,.int .i64 y,.sl (l.map Cu.v)],.int .i64 a,.agg [.int .i64 q.chan,.int .i64 q.attr]] st (valF l q a).v st:=by
 refine VRet_of_below callable69 (fun w A vs hw hv=>?_)
 obtain⟨u0,u1,u2,rfl,r0,r1,r2⟩:∃u0 u1 u2,vs=[u0,u1,u2]∧Rep w A u0 (.agg [.int .i64 x,.int .i64 y,.sl (l.map Cu.v)])∧Rep w A u1 (.int .i64 a)∧Rep w A u2 (.agg [.int .i64 q.chan,.int .i64 q.attr]):=by
  obtain⟨hlen,hr⟩:=hv
  match vs,hlen,hr with
  |[u0,u1,u2],_,hr=>exact⟨u0,u1,u2,rfl,hr 0 _ _ rfl rfl,hr 1 _ _ rfl rfl,hr 2 _ _ rfl rfl⟩
 obtain rfl:=r1.int_inv
 obtain rfl:=prm_inv r2
 obtain⟨us,rfl,hus,_,hur⟩:=r0.agg_inv
 obtain⟨t0,t1,t2,rfl⟩:∃t0 t1 t2,us=[t0,t1,t2]:=by
  match us,hus with
  |[t0,t1,t2],_=>exact⟨t0,t1,t2,rfl⟩
 have hne:l≠[]:=by intro e;rw[e]at ha;simp at ha
 obtain⟨b,o,cap,cell,rfl,hc⟩:=cues_at (hur 2 _ _ rfl rfl) hne
 have hget:∀j,j<l.length→l[j]?=some (l.getD j default):=fun j hj=>by rw[List.getD_eq_getElem?_getD,List.getElem?_eq_getElem hj];rfl
 have hb:b<w.heap.size:=hw.Clt _ _ (hc a _ (hget a ha) 0 _ rfl).1
 have hs:∀j,∃a2:Option Addr,∃n2 k2:Nat,∃a3:Option Addr,∃n3 k3:Nat,(j<l.length→w.cell? ⟨b,o+j*9+2,none⟩=some (.slice a2 n2 k2)∧w.cell? ⟨b,o+j*9+3,none⟩=some (.slice a3 n3 k3))∧Rep w A (.slice a2 n2 k2) (.sl ((l.getD j default).moves.map Mov.v))∧Rep w A (.slice a3 n3 k3) (.sl ((l.getD j default).parts.map Tim.v)):=fun j=>by
  by_cases hj:j<l.length
  ·obtain⟨_,g2,g3⟩:=hc j _ (hget j hj) 2 _ rfl
   obtain⟨_,g4,g5⟩:=hc j _ (hget j hj) 3 _ rfl
   obtain⟨a2,n2,k2,e2⟩:=rep_sl g3
   obtain⟨a3,n3,k3,e3⟩:=rep_sl g5
   rw[e2]at g2 g3
   rw[e3]at g4 g5
   exact⟨a2,n2,k2,a3,n3,k3,fun _=>⟨by rw[Nat.add_assoc];exact g2,by rw[Nat.add_assoc];exact g4⟩,g3,g5⟩
  ·have e:l.getD j default=default:=by rw[List.getD_eq_getElem?_getD,List.getElem?_eq_none (by omega)];rfl
   rw[e]
   exact⟨none,0,0,none,0,0,fun h=>absurd h hj,.slnil _,.slnil _⟩
 obtain⟨a2,hs⟩:=Classical.axiomOfChoice hs
 obtain⟨n2,hs⟩:=Classical.axiomOfChoice hs
 obtain⟨k2,hs⟩:=Classical.axiomOfChoice hs
 obtain⟨a3,hs⟩:=Classical.axiomOfChoice hs
 obtain⟨n3,hs⟩:=Classical.axiomOfChoice hs
 obtain⟨k3,hs⟩:=Classical.axiomOfChoice hs
 have hok:∀j,okMs (l.getD j default).moves=true∧(l.getD j default).moves.length<140737488355328:=fun j=>by
  by_cases hj:j<l.length
  ·have:=List.mem_of_getElem? (hget j hj)
   exact⟨hm _ this,hml _ this⟩
  ·have e:l.getD j default=default:=by rw[List.getD_eq_getElem?_getD,List.getElem?_eq_none (by omega)];rfl
   rw[e];exact⟨rfl,by decide⟩
 have hmove:∀j W,Below w.heap.size w W→Calls Tryz.prog 41 #[.agg #[.string ⟨(l.getD j default).num.toArray⟩,.string ⟨(l.getD j default).label.toArray⟩,.slice (a2 j) (n2 j) (k2 j),.slice (a3 j) (n3 j) (k3 j),.bool (l.getD j default).block,.bool (l.getD j default).mark,.int .i64 (l.getD j default).follow,.string ⟨(l.getD j default).link.toArray⟩,.int .i64 (l.getD j default).loops],.agg #[.int .i64 q.chan,.int .i64 q.attr]] W fun e W' =>
   e=.returned (.tuple #[.agg #[.int .i64 ((movF (l.getD j default).moves q).getD ⟨-1,0⟩).pal,.int .i64 ((movF (l.getD j default).moves q).getD ⟨-1,0⟩).lev],.bool (movF (l.getD j default).moves q).isSome])∧Below W.heap.size W W':=fun j W hB=>by
  obtain⟨_,g2,g3⟩:=hs j
  have hx:=Ext.below hw hB
  have hwW:=hw.below hB
  have h0:Reps W A [.agg #[.string ⟨(l.getD j default).num.toArray⟩,.string ⟨(l.getD j default).label.toArray⟩,.slice (a2 j) (n2 j) (k2 j),.slice (a3 j) (n3 j) (k3 j),.bool (l.getD j default).block,.bool (l.getD j default).mark,.int .i64 (l.getD j default).follow,.string ⟨(l.getD j default).link.toArray⟩,.int .i64 (l.getD j default).loops],.agg #[.int .i64 q.chan,.int .i64 q.attr]] [(l.getD j default).v,q.v] :=
   ⟨rfl,fun i v c h1 h2=>by
    match i,h1,h2 with
    |0,h1,h2=>simp at h1 h2;subst h1 h2;exact agg9 (g2.mono hx) (g3.mono hx)
    |1,h1,h2=>simp at h1 h2;subst h1 h2;exact prm_rep
    |n+2,h1,h2=>simp at h1⟩
  have h1:=h0.data (B:=abs0 W) (fun b o h=>hwW.Clt b o h) (by simp[V.bdL,Cu.bd,Prm.bd])
  have hV:VRet Tryz.prog 41 [(l.getD j default).v,q.v] st0 (.tup [((movF (l.getD j default).moves q).getD ⟨-1,0⟩).v,.bool (movF (l.getD j default).moves q).isSome]) st0:=run_sound mixed HN0_ok _ _ _ _ _ (f41 (hok j).1 hq (hok j).2)
  refine(calls_of Tryz.func41 (by kernel_rfl) (by kernel_rfl) hV h1).mono fun e W' ⟨⟨v,A',he,hr⟩,hb⟩=>⟨?_,hb⟩
  obtain⟨ws,rfl,hws,hwr⟩:=hr.tup_inv
  obtain⟨y0,y1,rfl⟩:∃y0 y1,ws=[y0,y1]:=by
   match ws,hws with
   |[y0,y1],_=>exact⟨y0,y1,rfl⟩
  obtain rfl:=prm_inv (hwr 0 _ _ rfl rfl)
  obtain rfl:=(hwr 1 _ _ rfl rfl).bool_inv
  exact he
 have hhome:∀W,Calls Tryz.prog 83 #[] W fun e W'=>e=.returned (.agg #[.int .i64 (-1),.int .i64 0])∧Below W.heap.size W W':=fun W=>by
  have hV:VRet Tryz.prog 83 [] st0 (.agg [.int .i64 (-1),.int .i64 0]) st0:=run_sound mixed HN0_ok _ _ _ _ _ f83
  refine(calls_of (vs:=[]) (w:=W) Tryz.func83 (by kernel_rfl) (by kernel_rfl) hV ⟨rfl,fun i v c h1 h2=>by simp at h1⟩).mono fun e W' ⟨⟨v,A',he,hr⟩,hb⟩=>⟨?_,hb⟩
  rw[prm_inv hr]at he;exact he
 have hbox:∀j,j<l.length→Box9 (fun x=>.string ⟨(l.getD x default).num.toArray⟩) (fun x=>.string ⟨(l.getD x default).label.toArray⟩) (fun x=>.slice (a2 x) (n2 x) (k2 x)) (fun x=>.slice (a3 x) (n3 x) (k3 x)) (fun x=>(l.getD x default).block) (fun x=>.bool (l.getD x default).mark) (fun x=>.int .i64 (l.getD x default).follow) (fun x=>.string ⟨(l.getD x default).link.toArray⟩) (fun x=>.int .i64 (l.getD x default).loops) w b (o+j*9) j:=fun j hj=>by
  have hg:=hget j hj
  obtain⟨_,e0,d0⟩:=hc j _ hg 0 _ rfl
  obtain⟨_,e1,d1⟩:=hc j _ hg 1 _ rfl
  obtain⟨_,e4,d4⟩:=hc j _ hg 4 _ rfl
  obtain⟨_,e5,d5⟩:=hc j _ hg 5 _ rfl
  obtain⟨_,e6,d6⟩:=hc j _ hg 6 _ rfl
  obtain⟨_,e7,d7⟩:=hc j _ hg 7 _ rfl
  obtain⟨_,e8,d8⟩:=hc j _ hg 8 _ rfl
  rw[d0.str_inv]at e0
  rw[d1.str_inv]at e1
  rw[d4.bool_inv]at e4
  rw[d5.bool_inv]at e5
  rw[d6.int_inv]at e6
  rw[d7.str_inv]at e7
  rw[d8.int_inv]at e8
  obtain⟨e2,e3⟩:=(hs j).1 hj
  simp only[←Nat.add_assoc,Nat.add_zero]at e0 e1 e4 e5 e6 e7 e8
  exact⟨e0,e1,e2,e3,e4,e5,e6,e7,e8⟩
 refine(value_calls w b o l.length cap a (fun x=>⟨(l.getD x default).num.toArray⟩) (fun x=>⟨(l.getD x default).label.toArray⟩) (fun x=>⟨(l.getD x default).link.toArray⟩) a2 a3 n2 k2 n3 k3 (fun x=>(l.getD x default).mark) (fun x=>(l.getD x default).follow) (fun x=>(l.getD x default).loops) (fun x=>(l.getD x default).block) t0 t1 (.int .i64 q.chan) (.int .i64 q.attr)
  (fun x=>((movF (l.getD x default).moves q).getD ⟨-1,0⟩).pal) (fun x=>((movF (l.getD x default).moves q).getD ⟨-1,0⟩).lev) (fun x=>(movF (l.getD x default).moves q).isSome) (by omega) hb ha hbox hmove hhome).mono fun e W' ⟨he,hB⟩=>?_
 have hmem:∀{k j:Nat},j<k→(a-j)∈dnL a k:=fun {k j} hj=>by unfold dnL;exact List.mem_map.2 ⟨j,List.mem_range.2 hj,rfl⟩
 rcases he with⟨k,h1,h2,h3,h4,rfl⟩|⟨k,h1,h2,h3,h4,rfl⟩
 ·refine⟨_,rfl,fun w' A'=>?_,hB⟩
  have hk0:0<k:=by rcases h3 with h3|h3<;>omega
  have hn:∀j,j<k→movF (l.getD (a-j) default).moves q=none:=fun j hj=>by
   have:=h2 _ (hmem hj)
   cases hx:movF (l.getD (a-j) default).moves q with
   |none=>rfl
   |some v=>rw[hx]at this;simp at this
  have e1:=valF_at (l:=l) (q:=q) (a:=a) (k:=k-1) (by omega) (fun j hj=>⟨hn j (by omega),by have:=h4 (j+1) (by omega) (by omega);rwa [show a+1-(j+1)=a-j by omega]at this⟩)
  have e2:valF l q (a-(k-1))=⟨-1,0⟩:=by
   have hz:=hn (k-1) (by omega)
   cases hy:a-(k-1) with
   |zero=>rw[valF];rw[hy]at hz;rw[hz];rfl
   |succ y =>
    rw[hy]at hz
    rw[valF,hz]
    rcases h3 with h3|⟨_,h3⟩
    ·omega
    ·rw[show a+1-k=y+1 by omega]at h3
     simp only[h3,if_true]
  rw[e1,e2]
  exact prm_rep
 ·refine⟨_,rfl,fun w' A'=>?_,hB⟩
  have hn:∀j,j<k→movF (l.getD (a-j) default).moves q=none:=fun j hj=>by
   have:=h2 _ (hmem hj)
   cases hx:movF (l.getD (a-j) default).moves q with
   |none=>rfl
   |some v=>rw[hx]at this;simp at this
  have e1:=valF_at (l:=l) (q:=q) (a:=a) (k:=k) (by omega) (fun j hj=>⟨hn j hj,by have:=h4 (j+1) (by omega) (by omega);rwa [show a+1-(j+1)=a-j by omega]at this⟩)
  rw[e1]
  obtain⟨v,hv⟩:=Option.isSome_iff_exists.1 h3
  have e2:valF l q (a-k)=v:=by
   cases hy:a-k with
   |zero=>rw[valF];rw[hy]at hv;rw[hv];rfl
   |succ y=>rw[hy]at hv;rw[valF,hv]
  rw[e2]
  simp only[hv,Option.getD_some]
  exact prm_rep
end Go.Proofs.YtdnpaifeoinjoaaGreatDoor

namespace Go.Proofs.YtdnpaifeoinjoaaGreatDoor
open Go.Sha
set_option maxRecDepth 100000
variable {g:List (Nat×Obj)}{n:Nat}{x:Lst}
theorem rdL_v {α:Type}{f:V→Option α}{v:α→V}(h:∀x,f (v x)=some x):∀{l:List α},rdL f (l.map v)=some l
 |[]=>rfl
 |x::r=>by rw[List.map_cons,rdL,h,rdL_v h]
theorem rdCu_of {c:Cu}:rdCu c.v=some c:=by
 unfold rdCu
 simp only[Cu.v]
 rw[rdL_v (f:=rdMov) (v:=Mov.v) (fun _=>rfl),rdL_v (f:=rdTim) (v:=Tim.v) (fun _=>rfl)]
theorem ftpOk_of (h:lstP x=0):ftpOk x.cues=true:=by
 have hm:=lst_mov h
 have h64:=(lst_parts h).2.2.1
 simp only[ftpOk,Bool.and_eq_true,decide_eq_true_eq,List.all_eq_true]
 exact⟨h64,fun c hc=>⟨(hm c hc).1,fun q hq=>ok_prm (prm_rng ((hm c hc).2.1 q hq))⟩⟩
theorem f68 (h:lstP x=0){st:St}:run Tryz.prog HH 68 [x.v] st=some (.ret (.sl ((ftpL x).map Prm.v)),st):=run_H (by
 show(hFtp [x.v]).map (fun r=>(r,st))=_
 simp only[Lst.v,hFtp]
 rw[rdL_v (f:=rdCu) (v:=Cu.v) (fun _=>rdCu_of)]
 dsimp only
 rw[if_pos (ftpOk_of h)];rfl)
theorem f69 {p:Prm}{k:Nat}(h:lstP x=0)(hk:k<x.cues.length)(hp:prmC 1 p=0){st:St}:run Tryz.prog HH 69 [x.v,.int .i64 k,p.v] st=some (.ret (valF x.cues p k).v,st):=run_H (by
 have hm:=lst_mov h
 have h64:=(lst_parts h).2.2.1
 show(hVal [x.v,.int .i64 k,p.v]).map (fun r=>(r,st))=_
 simp only[Lst.v,Prm.v,hVal]
 rw[rdL_v (f:=rdCu) (v:=Cu.v) (fun _=>rdCu_of)]
 have c1:(decide (0≤(k:Int))&&decide ((k:Int)<x.cues.length)&&decide (x.cues.length≤1000000)&&okP ⟨p.chan,p.attr⟩&&x.cues.all (fun c=>okMs c.moves&&decide (c.moves.length≤1000000)))=true:=by
  simp only[Bool.and_eq_true,decide_eq_true_eq,List.all_eq_true]
  refine⟨⟨⟨⟨by omega,by omega⟩,by omega⟩,okP_of (prm_rng hp)⟩,fun c hc=>⟨okMs_of (hm c hc).2.1 (hm c hc).2.2,by have:=(hm c hc).1;omega⟩⟩
 dsimp only
 rw[if_pos c1,Int.toNat_natCast];rfl)
theorem ftpL_rng (h:lstP x=0):∀p∈ftpL x,prmC 1 p=0:=fun p hp=>by
 have hm:=lst_mov h
 rw[ftpL,sortO_perm.mem_iff]at hp
 exact keyL_rng (R:=fun p=>prmC 1 p=0) (cs:=x.cues) (a:=[]) (fun c hc=>(hm c hc).2.1) (by simp) p hp
theorem ftpL_len (h:lstP x=0):(ftpL x).length≤8192:=by
 have hm:=lst_mov h
 have h64:=(lst_parts h).2.2.1
 have hln:=keyL_len (cs:=x.cues) (a:=[]) (fun c hc=>(hm c hc).1)
 rw[ftpL,sortO_perm.length_eq]
 rw[List.length_nil]at hln;omega
@[reducible] def entV (y:Prm×Val):V:=.agg [.int .i64 y.1.chan,.int .i64 y.1.attr,.int .i64 y.2.pal,.int .i64 y.2.lev]
def entF (x:Lst)(k:Nat)(p:Prm):Prm×Val:=(p,valF x.cues p k)
def entL (x:Lst)(k:Nat):List (Prm×Val):=(ftpL x).map (entF x k)
def stLk (g:List (Nat×Obj))(n:Nat)(a:List (Prm×Val)):St:=⟨n+1,[],[(n,⟨42,4,a.map entV,false,false⟩)],⟨[],g,[]⟩⟩
@[push_cast]theorem stLk_eq {a:List (Prm×Val)}:stLk g n a=⟨n+1,[],[(n,⟨42,4,a.map entV,false,false⟩)],⟨[],g,[]⟩⟩:=idq rfl
theorem L33 {k:Nat}(h:lstP x=0)(hk:k<x.cues.length):∀r j,(ftpL x).drop j=r→∀a,a.length≤j →
  runL Tryz.prog HH [1,2,5,9,10,11] (n+1) B33_0 [(1,.int .i64 k),(2,.ep x.v 0),(5,.osl n a.length),(9,.sl ((ftpL x).map Prm.v)),(10,.int .i64 (ftpL x).length),(11,.int .i64 j)] (stLk g n a)
   = some (.exit 0,[(5,.osl n (a++r.map (entF x k)).length)],stLk g n (a++r.map (entF x k))):=by
 have hln:=ftpL_len h
 have hrg:=ftpL_rng h
 generalize ftpL x=l at *
 refine drop_ind (fun j hj a ha=>?_) (fun q r j hj hx hd ih a ha=>?_)
 all_goals rw[runL_of B33_0.eq_1]
 ·have h1:¬(j:Int)<l.length:=by omega
  push_cast[h1,List.map_nil,List.append_nil]
 ·have h1:(j:Int)<l.length:=by omega
  have hw:=iw1 (j:=j) (by omega)
  have e1:=fun(st:St)=>f69 (x:=x) (p:=q) (k:=k) (st:=st) h hk (hrg q (mem_at hd))
  have hro:roomV (a.length+1) 32=true:=roomV_lit (by omega) (by omega)
  have ih:=ih (a++[entF x k q]) (by simp;omega)
  rw[List.map_cons]
  have hE:entV (entF x k q)=.agg [.int .i64 q.chan,.int .i64 q.attr,.int .i64 (valF x.cues q k).pal,.int .i64 (valF x.cues q k).lev]:=rfl
  generalize entF x k=F at *
  push_cast[Lst.v,Prm.v,Val.v]at ih e1
  push_cast[h1,hw,hx,e1,hro,hE,Lst.v,Prm.v,Val.v,List.map_append,List.map_cons,List.map_nil,List.append_assoc,List.singleton_append]at ih ⊢
  first|exact ih|exact dn_eq (by omega) ih
theorem f33 {k:Nat}(h:lstP x=0)(hk:k<x.cues.length){st:St}:run Tryz.prog HH 33 [x.v,.int .i64 k] st=some (.ret (.sl ((entL x k).map entV)),st):=by
 have e1:=fun(st:St)=>f68 h (st:=st)
 have hL:=L33 (g:=st.x.gl) (n:=1) h hk _ 0 rfl [] (Nat.le_refl _)
 rw[List.drop_zero,List.nil_append]at hL
 rw[entL]
 generalize (ftpL x).map (entF x k)=z at *
 generalize ftpL x=l at *
 rw[run_shut F33 rfl rfl (by simp)]
 push_cast[Lst.v,Prm.v,List.map_nil,List.length_nil]at hL e1
 push_cast[Lst.v,Prm.v,e1,hL]
theorem f10 {s:List UInt8}(h:x.ok)(hx:lstP x=0)(hs:s.length<140737488355328){st:St}:run Tryz.prog HH 10 [x.v,.str s] st=some (.ret (if plcE x s=0 then .tup [.sl ((entL x (plcV x s).toNat).map entV),.int .i64 0] else .tup [.sl [],.int .i64 (plcE x s)]),st):=by
 have e0:=fun(st:St)=>f32 (st:=st) h hs
 rw[run_shut F10 rfl rfl (by simp)]
 by_cases hp:plcE x s=0
 ·obtain⟨p1,p2⟩:=plc_at hp
  have e1:=fun(st:St)=>f33 (k:=(plcV x s).toNat) (st:=st) hx p2
  rw[Int.toNat_of_nonneg p1]at e1
  push_cast[Lst.v]at e0 e1
  push_cast[Lst.v,e0,e1,hp]
 ·push_cast[Lst.v]at e0
  push_cast[Lst.v,e0,hp]
end Go.Proofs.YtdnpaifeoinjoaaGreatDoor

namespace Go.Proofs.YtdnpaifeoinjoaaGreatDoor
open Go.Sha
def bsR {α:Type}[Inhabited α](c:α→Int)(l:List α):Nat:=bsI (fun k=>c (l.getD k default)) 0 l.length
def bsF {α:Type}[Inhabited α](c:α→Int)(l:List α):Bool:=decide ((bsR c l:Int)<l.length)&&c (l.getD (bsR c l) default) == 0
section
set_option linter.unusedSectionVars false
variable {α:Type} [Inhabited α] {key:α→Int}{l:List α}{x:α}{v:Int}{c:α→Int}
def insT (key:α→Int)(x:α)(l:List α):List α:=l.filter (fun y=>decide (key y<key x))++x::l.filter (fun y=>decide (key x<key y))
def delT (key:α→Int)(v:Int)(l:List α):List α:=l.filter (fun y=>decide (¬key y=v))
theorem filter_id {p:α→Bool}(h:∀x∈l,p x=true):l.filter p=l:=List.filter_eq_self.2 h
theorem filter_no {p:α→Bool}(h:∀x∈l,p x=false):l.filter p=[]:=List.filter_eq_nil_iff.2 fun x hx=>by rw[h x hx];simp
theorem bs_split (hs:l.Pairwise fun a b=>c b≤0→c a<0) :
  bsR c l≤l.length∧l.take (bsR c l)=l.filter (fun y=>decide (c y<0))∧(bsF c l=true→bsR c l<l.length∧l.drop (bsR c l+1)=l.filter (fun y=>decide (0<c y))∧l.any (fun y=>decide (c y=0))=true) ∧
   (bsF c l=false→l.drop (bsR c l)=l.filter (fun y=>decide (0<c y))∧l.any (fun y=>decide (c y=0))=false):=by
 have hg:∀k d,k<l.length→l.getD k d∈l∧l[k]?=some (l.getD k d):=fun k d hk=>by
  rw[List.getD_eq_getElem?_getD,List.getElem?_eq_getElem hk];exact⟨List.getElem_mem hk,rfl⟩
 have hp:∀a b,a<b→b<l.length→c (l.getD b default)≤0→c (l.getD a default)<0:=fun a b hab hb h=>by
  have h1:=(hg a default (by omega)).2
  have h2:=(hg b default hb).2
  rw[List.getElem?_eq_getElem (by omega)]at h1 h2
  have:=List.pairwise_iff_getElem.1 hs a b (by omega) hb hab
  rw[Option.some.inj h1,Option.some.inj h2]at this
  exact this h
 obtain⟨_,r1,r2,r3⟩:=bsI_ok (c:=fun k=>c (l.getD k default)) hp (i:=0) (j:=l.length) (by omega) (Nat.le_refl _) (fun k hk=>by omega) (fun k h1 h2=>by omega)
 rw[show bsI (fun k=>c (l.getD k default)) 0 l.length=bsR c l from rfl]at r1 r2 r3
 have gD:∀(k:Nat) y,l[k]?=some y→l.getD k default=y:=fun k y h=>by rw[List.getD_eq_getElem?_getD,h];rfl
 have t1:∀y∈l.take (bsR c l),c y<0:=fun y hy=>by
  obtain⟨k,hk⟩:=List.mem_iff_getElem?.1 hy
  have hkl:k<bsR c l:=by have:=(List.getElem?_eq_some_iff.1 hk).1;simp at this;omega
  rw[List.getElem?_take_of_lt hkl]at hk
  have:=r2 k hkl
  rwa [gD k y hk]at this
 have t2:∀y∈l.drop (bsR c l),0≤c y:=fun y hy=>by
  obtain⟨k,hk⟩:=List.mem_iff_getElem?.1 hy
  rw[List.getElem?_drop]at hk
  have:=r3 (bsR c l+k) (by omega) (List.getElem?_eq_some_iff.1 hk).1
  rwa [gD _ y hk]at this
 have hl:l=l.take (bsR c l)++l.drop (bsR c l):=(List.take_append_drop _ _).symm
 refine⟨r1,?_,fun hf=>?_,fun hf=>?_⟩
 ·rw[show l.filter (fun y=>decide (c y<0))=(l.take (bsR c l)++l.drop (bsR c l)).filter (fun y=>decide (c y<0)) by rw[←hl],List.filter_append,filter_id (fun y hy=>by simpa using t1 y hy),filter_no (fun y hy=>by have:=t2 y hy;simp;omega),List.append_nil]
 ·simp only[bsF,Bool.and_eq_true,decide_eq_true_eq,beq_iff_eq]at hf
  have hr:bsR c l<l.length:=by omega
  have hd:l.drop (bsR c l)=l.getD (bsR c l) default::l.drop (bsR c l+1):=by
   rw[List.drop_eq_getElem_cons hr,List.getD_eq_getElem?_getD,List.getElem?_eq_getElem hr];rfl
  have t3:∀y∈l.drop (bsR c l+1),0<c y:=fun y hy=>by
   obtain⟨k,hk⟩:=List.mem_iff_getElem?.1 hy
   rw[List.getElem?_drop]at hk
   apply Classical.byContradiction;intro h
   have:=hp (bsR c l) (bsR c l+1+k) (by omega) (List.getElem?_eq_some_iff.1 hk).1 (by rw[gD _ y hk];omega)
   omega
  refine⟨hr,?_,?_⟩
  ·rw[show l.filter (fun y=>decide (0<c y))=(l.take (bsR c l)++l.drop (bsR c l)).filter (fun y=>decide (0<c y)) by rw[←hl],List.filter_append,hd,List.filter_cons,filter_id (l:=l.drop (bsR c l+1)) (fun y hy=>by simpa using t3 y hy),filter_no (l:=l.take (bsR c l)) (fun y hy=>by have:=t1 y hy;simp;omega),hf.2]
   simp
  ·rw[List.any_eq_true];exact⟨_,(hg _ default hr).1,by simpa using hf.2⟩
 ·have t4:∀y∈l.drop (bsR c l),0<c y:=fun y hy=>by
   obtain⟨k,hk⟩:=List.mem_iff_getElem?.1 hy
   have h0:=t2 y hy
   rw[List.getElem?_drop]at hk
   have hkl:=(List.getElem?_eq_some_iff.1 hk).1
   apply Classical.byContradiction;intro h
   have hy0:c y=0:=by omega
   rcases Nat.eq_zero_or_pos k with e|e
   ·subst e
    simp only[bsF,Bool.and_eq_false_iff,decide_eq_false_iff_not,beq_eq_false_iff_ne]at hf
    rw[Nat.add_zero]at hk hkl
    rcases hf with hf|hf
    ·omega
    ·rw[gD _ y hk]at hf;exact hf hy0
   ·have:=hp (bsR c l) (bsR c l+k) (by omega) hkl (by rw[gD _ y hk];omega)
    have:=r3 (bsR c l) (Nat.le_refl _) (by omega)
    omega
  refine⟨?_,?_⟩
  ·rw[show l.filter (fun y=>decide (0<c y))=(l.take (bsR c l)++l.drop (bsR c l)).filter (fun y=>decide (0<c y)) by rw[←hl],List.filter_append,filter_no (l:=l.take (bsR c l)) (fun y hy=>by have:=t1 y hy;simp;omega),List.nil_append,filter_id fun y hy=>by simpa using t4 y hy]
  ·rw[List.any_eq_false]
   intro y hy
   rw[hl]at hy
   rcases List.mem_append.1 hy with hy|hy
   ·have:=t1 y hy;simp;omega
   ·have:=t4 y hy;simp;omega
def Asc (key:α→Int)(l:List α):Prop:=l.Pairwise fun a b=>key a<key b
def CmpK (key:α→Int)(v:Int)(c:α→Int)(l:List α):Prop:=∀y∈l,(c y<0↔key y<v)∧(c y=0↔key y=v)
theorem asc_cmp (ha:Asc key l)(hc:CmpK key v c l):l.Pairwise fun a b=>c b≤0→c a<0:=by
 refine List.Pairwise.imp_of_mem ?_ ha
 intro a b h1 h2 hab hb
 have ca:=hc a h1
 have cb:=hc b h2
 rw[ca.1]
 have:key b≤v:=by
  rcases Int.lt_or_eq_of_le hb with h|h
  ·have:=cb.1.1 h;omega
  ·have:=cb.2.1 h;omega
 omega
theorem fil_congr {p q:α→Bool}(h:∀y∈l,p y=q y):l.filter p=l.filter q:=List.filter_congr h
theorem bs_tab (ha:Asc key l)(hc:CmpK key v c l):bsR c l≤l.length∧l.take (bsR c l)=l.filter (fun y=>decide (key y<v))∧bsF c l=l.any (fun y=>decide (key y=v)) ∧
  (bsF c l=true→bsR c l<l.length∧l.drop (bsR c l+1)=l.filter (fun y=>decide (v<key y)))∧(bsF c l=false→l.drop (bsR c l)=l.filter (fun y=>decide (v<key y))):=by
 obtain⟨a1,a2,a3,a4⟩:=bs_split (asc_cmp ha hc)
 have e1:l.filter (fun y=>decide (c y<0))=l.filter (fun y=>decide (key y<v)):=fil_congr fun y hy=>by simp only[(hc y hy).1]
 have e2:l.filter (fun y=>decide (0<c y))=l.filter (fun y=>decide (v<key y)):=fil_congr fun y hy=>by
  have:=hc y hy
  rw[decide_eq_decide]
  constructor
  ·intro h
   have h1:¬key y<v:=fun e=>by have:=this.1.2 e;omega
   have h2:¬key y=v:=fun e=>by have:=this.2.2 e;omega
   omega
  ·intro h
   have h1:¬c y<0:=fun e=>by have:=this.1.1 e;omega
   have h2:¬c y=0:=fun e=>by have:=this.2.1 e;omega
   omega
 have e3:l.any (fun y=>decide (c y=0))=l.any (fun y=>decide (key y=v)):=by
  rw[Bool.eq_iff_iff];simp only[List.any_eq_true,decide_eq_true_eq]
  exact⟨fun⟨y,hy,h⟩=>⟨y,hy,(hc y hy).2.1 h⟩,fun⟨y,hy,h⟩=>⟨y,hy,(hc y hy).2.2 h⟩⟩
 refine⟨a1,a2.trans e1,?_,fun h=>⟨(a3 h).1,(a3 h).2.1.trans e2⟩,fun h=>(a4 h).1.trans e2⟩
 cases h:bsF c l with
 |true=>rw[←e3,(a3 h).2.2]
 |false=>rw[←e3,(a4 h).2]
theorem put_hit (ha:Asc key l)(hc:CmpK key (key x) c l)(hf:bsF c l=true):l.set (bsR c l) x=insT key x l:=by
 obtain⟨a1,a2,_,a4,_⟩:=bs_tab ha hc
 obtain⟨b1,b2⟩:=a4 hf
 rw[insT,←a2,←b2,List.set_eq_take_append_cons_drop,if_pos b1]
theorem put_miss (ha:Asc key l)(hc:CmpK key (key x) c l)(hf:bsF c l=false):l.take (bsR c l)++[x]++l.drop (bsR c l)=insT key x l:=by
 obtain⟨a1,a2,_,_,a5⟩:=bs_tab ha hc
 rw[insT,←a2,←a5 hf];simp
theorem fil_split:∀{l:List α},Asc key l→l.filter (fun y=>decide (key y<v))++l.filter (fun y=>decide (v<key y))=delT key v l
 |[],_=>rfl
 |y::r,ha=>by
  have ha':=List.pairwise_cons.1 ha
  have ih:=fil_split (l:=r) ha'.2
  simp only[delT]at ih ⊢
  simp only[List.filter_cons]
  by_cases h1:key y<v
  ·simp only[h1,decide_true,if_true,show ¬v<key y by omega,decide_false,Bool.false_eq_true,if_false,show ¬key y=v by omega,not_false_eq_true,List.cons_append,ih]
  ·have e:r.filter (fun y=>decide (key y<v))=[]:=filter_no fun z hz=>by have:=ha'.1 z hz;simp;omega
   rw[e,List.nil_append]at ih
   simp only[h1,decide_false,Bool.false_eq_true,if_false,e,List.nil_append]
   by_cases h2:v<key y
   ·simp only[h2,decide_true,if_true,show ¬key y=v by omega,not_false_eq_true,ih]
   ·rw[decide_eq_false h2,if_neg (by simp),ih];simp[show key y=v by omega]
theorem fil_len:∀{l:List α},Asc key l→(l.filter (fun y=>decide (key y<v))).length+(l.filter (fun y=>decide (v<key y))).length+(if l.any (fun y=>decide (key y=v))=true then 1 else 0)=l.length
 |[],_=>rfl
 |y::r,ha=>by
  have ha':=List.pairwise_cons.1 ha
  have ih:=fil_len (l:=r) ha'.2
  simp only[List.filter_cons,List.any_cons,List.length_cons]
  by_cases h1:key y<v
  ·simp only[h1,show ¬v<key y by omega,show ¬key y=v by omega,decide_true,decide_false,Bool.false_or,if_true,Bool.false_eq_true,if_false,List.length_cons];omega
  ·by_cases h2:v<key y
   ·simp only[h1,h2,show ¬key y=v by omega,decide_true,decide_false,Bool.false_or,if_true,Bool.false_eq_true,if_false,List.length_cons];omega
   ·obtain rfl:v=key y:=by omega
    have e:r.any (fun z=>decide (key z=key y))=false:=by
     rw[List.any_eq_false];intro z hz;have:=ha'.1 z hz;simp;omega
    rw[e]at ih
    simp only[Int.lt_irrefl,decide_true,decide_false,Bool.true_or,if_true,Bool.false_eq_true,if_false]at ih ⊢
    omega
theorem insT_len (ha:Asc key l):(insT key x l).length=if l.any (fun y=>decide (key y=key x))=true then l.length else l.length+1:=by
 have:=fil_len (v:=key x) ha
 simp only[insT,List.length_append,List.length_cons]
 by_cases h:l.any (fun y=>decide (key y=key x))=true
 ·rw[if_pos h]at this ⊢;omega
 ·rw[if_neg h]at this ⊢;omega
end
end Go.Proofs.YtdnpaifeoinjoaaGreatDoor

namespace Go.Proofs.YtdnpaifeoinjoaaGreatDoor
open Go.Sha
set_option maxRecDepth 10000
def B5_0:Cd:=(.g [.b 82 .lss 81 80] (.join [1,3,5,7,8,10,79,80,81] (.i 82 .skip (.exit [1,3,5] 0)) (.join [1,3,5,7,8,10,79,80,81] (.block 1 (.g [.r 83 9 79 81,.d 84 9 83,.s 13 (.alloc 30 [(.str []),(.str []),.nils,.nils,(.bool false),(.bool false),.i 0,(.str []),.i 0]),.w 9 13 84] (.z [13] (.g [.d 86 3 3,.a 87 0 13,.l 88 87,.a 89 0 5,.d 90 2 89,.s 91 (.f 20 [.t 86,.t 88,.t 90]),.m 85 91,.j 92 0 85,.j 93 1 85,.j 94 2 85,.m 14 92,.m 15 93,.m 16 94] (.g [.d 96 3 3,.a 97 0 13,.l 98 97,.g' 99 10 96 98,.m 95 99,.j 100 0 95,.j 101 1 95,.m 17 100,.m 18 101] (.g [.d 103 3 10,.a 104 0 13,.l 105 104,.g' 106 10 103 105,.m 102 106,.j 107 0 102,.j 108 1 102,.m 19 107,.m 20 108] (.join [1,3,5,7,8,10,14,15,17,19,79,80,81] (.g [.m 109 16,.m 110 18,.b 111 .add 109 110,.m 112 20,.b 113 .add 111 112,.v 114 .neq 113 0] (.i 114 (.g [.k 6 false] (.ret [6])) .skip)) (.q (.dreg 10 [.m 115 17,.a 116 0 5,.d 117 2 116,.g' 118 22 115 117,.m 119 19,.a 120 0 5,.d 121 2 120,.g' 122 22 119 121,.s 123 (.eqs false [.i,.i] (.t 118) (.t 122)),.m 21 123]) (.join [1,3,5,7,8,10,79,80,81,157] (.dreg 34 [.m 124 8,.m 125 124,.my 126 15 125,.e 127 125 126,.m 128 127,.my 129 14 128,.my 130 7 128,.by' 131 .eql 129 130 128,.e 132 128 131,.m 133 132,.my 134 19 133,.ay 135 0 5 133,.y 136 (.load (some 2) (.t 135)) 133,.y 137 (.f 22 [.t 134,.t 136]) 133,.ay 138 2 5 133,.y 139 (.load (some 2) (.t 138)) 133,.y 140 (.eqs true [.i,.i] (.t 137) (.t 139)) 133,.e 141 133 140,.m 142 141,.mx 143 8 142,.mx 144 143 142,.my 145 15 144,.y 146 (.un .not (.t 145)) 144,.my 147 146 144,.mx 148 14 147,.mx 149 7 147,.bx 150 .neq 148 149 147,.y 151 (.pick (.t 147) (.c (.bool true)) (.t 150)) 144,.x 152 (.pick (.t 144) (.t 151) (.c (.bool false))) 142,.mx 153 152 142,.my 154 21 153,.y 155 (.un .not (.t 154)) 153,.x 156 (.pick (.t 153) (.t 155) (.c (.bool false))) 142,.o 157 142 156]) (.i 157 (.g [.k 6 false] (.ret [6])) .skip)))))))))) (.reg [.v 158 .add 81 1,.m 81 158]))))
def B5_1:Cd:=(.g [.b 189 .lss 188 187] (.join [3,23,186,187,188] (.i 189 .skip (.exit [] 2)) (.join [3,23,186,187,188] (.block 3 (.g [.r 190 9 186 188,.d 191 9 190,.s 25 (.alloc 30 [(.str []),(.str []),.nils,.nils,(.bool false),(.bool false),.i 0,(.str []),.i 0]),.w 9 25 191] (.z [25] (.g [.d 193 3 3,.a 194 0 25,.l 195 194,.g' 196 10 193 195,.m 192 196,.j 197 0 192,.j 198 1 192,.m 26 197,.m 27 198] (.g [.d 200 3 23,.a 201 0 25,.l 202 201,.g' 203 10 200 202,.m 199 203,.j 204 0 199,.j 205 1 199,.m 28 204,.m 29 205] (.join [3,23,186,187,188,217] (.reg [.m 206 27,.v 207 .neq 206 0,.m 208 207,.mx 209 29 208,.vx 210 .neq 209 0 208,.o 211 208 210,.m 212 211,.mx 213 26 212,.mx 214 28 212,.x 215 (.f 24 [.t 213,.t 214]) 212,.x 216 (.un .not (.t 215)) 212,.o 217 212 216]) (.i 217 (.g [.k 6 false] (.ret [6])) .skip))))))) (.reg [.v 218 .add 188 1,.m 188 218]))))
theorem F5:compF Tryz.prog 5=some ⟨219,[.tmp 6],(.g [.q 3 24 0,.q 5 42 2,.k 6 false] (.z [3,5] (.join [1,3,5] (.g [.s 30 (.f 14 []),.z 31 30] (.i 31 (.g [.k 6 false] (.ret [6])) .skip)) (.join [1,3,5] (.join [1,3,5,52] (.reg [.d 32 3 3,.f 33 15 32,.z 34 33,.m 35 34,.x 36 (.load (some 3) (.t 3)) 35,.mx 37 1 35,.x 38 (.f 18 [.t 36,.t 37]) 35,.vx 39 .lss 38 0 35,.o 40 35 39,.m 41 40,.x 42 (.load (some 4) (.t 5)) 41,.x 43 (.bslice 42 4 [.t 42]) 41,.x 44 (.f 19 [.t 43]) 41,.vx 45 .neq 44 0 41,.o 46 41 45,.m 47 46,.ax 48 2 5 47,.ax 49 0 48 47,.lx 50 49 47,.vx 51 .lss 50 0 47,.o 52 47 51]) (.i 52 (.g [.k 6 true] (.ret [6])) .skip)) (.g [.d 54 3 3,.m 55 1,.a 56 0 5,.d 57 2 56,.s 58 (.f 20 [.t 54,.t 55,.t 57]),.m 53 58,.j 59 0 53,.j 60 1 53,.j 61 2 53,.m 7 59,.m 8 60,.m 9 61] (.g [.d 63 3 3,.m 64 1,.d 65 4 5,.s 66 (.bslice 42 4 [.t 65]),.s 67 (.f 21 [.t 63,.t 64,.t 66]),.m 62 67,.j 68 0 62,.j 69 1 62,.s 10 (.alloc 24 [.i 0,.i 0,.nils]),.w 3 10 68,.m 11 69] (.z [10] (.join [1,3,5,7,8,10] (.join [1,3,5,7,8,10,11,75] (.reg [.m 70 9,.v 71 .neq 70 0,.m 72 71,.mx 73 11 72,.vx 74 .neq 73 0 72,.o 75 72 74]) (.i 75 (.g [.m 76 11,.v 77 .eql 76 5,.m 6 77] (.ret [6])) .skip)) (.join [1,3,5] (.g [.a 78 2 3,.l 79 78,.u 80 79,.c 81 0] (.block 0 (.loop [1,3,5,7,8,10,79,80,81] [] B5_0))) (.g [.d 160 3 3,.m 161 1,.g' 162 23 160 161,.m 159 162,.j 163 0 159,.j 164 1 159,.s 22 (.alloc 24 [.i 0,.i 0,.nils]),.w 3 22 163,.m 9 164] (.z [22] (.join [1,3,5,22] (.g [.m 165 9,.v 166 .neq 165 0] (.i 166 (.g [.m 167 9,.v 168 .eql 167 5,.m 6 168] (.ret [6])) .skip)) (.g [.d 170 3 22,.m 171 1,.d 172 4 5,.s 173 (.bslice 42 4 [.t 172]),.s 174 (.f 21 [.t 170,.t 171,.t 173]),.m 169 174,.j 175 0 169,.j 176 1 169,.s 23 (.alloc 24 [.i 0,.i 0,.nils]),.w 3 23 175,.m 9 176] (.z [23] (.join [1,3,23] (.g [.m 177 9,.v 178 .neq 177 0] (.i 178 (.g [.m 179 9,.v 180 .eql 179 5,.m 6 180] (.ret [6])) .skip)) (.join [] (.q (.dreg 8 [.a 181 2 3,.l 182 181,.d 183 3 3,.m 184 1,.g' 185 18 183 184,.s 186 (.slice 9 (.t 182) none (some (.t 185)) none),.u 187 186,.c 188 0]) (.block 2 (.loop [3,23,186,187,188] [] B5_1))) (.g [.k 6 true] (.ret [6]))))))))))))))))))⟩:=by kernel_rfl
theorem F15:compF Tryz.prog 15=some ⟨16,[.tmp 2],(.g [.q 1 24 0,.k 2 false] (.z [1] (.join [2] (.reg [.d 3 3 1,.f 4 26 3,.m 5 4,.y 6 (.load (some 3) (.t 1)) 5,.y 7 (.f 27 [.t 6]) 5,.vy 8 .eql 7 0 5,.e 9 5 8,.m 10 9,.ay 11 2 1 10,.ly 12 11 10,.y 13 (.len (.t 12)) 10,.vy 14 .leq 13 8 10,.e 15 10 14,.m 2 15]) (.ret [2]))))⟩:=by kernel_rfl
def B18_0:Cd:=(.join [1,2,5] (.g [.m 6 5,.a 7 2 2,.l 8 7,.u 9 8,.b 10 .lss 6 9] (.i 10 .skip (.exit [] 0))) (.join [1,2,5] (.block 1 (.g [.a 13 2 2,.l 14 13,.m 15 5,.r 16 9 14 15,.a 17 0 16,.l 18 17,.m 19 1,.b 20 .eql 18 19] (.i 20 (.g [.m 21 5,.m 4 21] (.ret [4])) .skip))) (.reg [.m 11 5,.v 12 .add 11 1,.m 5 12])))
theorem F18:compF Tryz.prog 18=some ⟨22,[.tmp 4],(.g [.q 2 24 0,.c 4 0] (.z [2] (.join [] (.g [.c 5 0] (.block 0 (.loop [1,2,5] [] B18_0))) (.g [.c 4 (-1)] (.ret [4])))))⟩:=by kernel_rfl
end Go.Proofs.YtdnpaifeoinjoaaGreatDoor

namespace Go.Proofs.YtdnpaifeoinjoaaGreatDoor
open Go.Sha
set_option maxRecDepth 10000
def B19_0:Cd:=(.join [0,3] (.g [.m 9 3,.m 10 0,.u 11 10,.b 12 .lss 9 11] (.i 12 .skip (.exit [] 0))) (.join [0,3] (.block 1 (.join [0,3] (.g [.m 15 0,.m 16 3,.r 17 4 15 16,.a 18 0 17,.d 19 2 18,.f 20 37 19,.m 4 20] (.g [.m 21 4,.v 22 .neq 21 0] (.i 22 (.g [.m 23 4,.m 2 23] (.ret [2])) .skip))) (.join [0,3] (.g [.m 24 0,.m 25 3,.r 26 4 24 25,.a 27 2 26,.d 28 2 27,.f 29 38 28,.m 5 29] (.g [.m 30 5,.v 31 .neq 30 0] (.i 31 (.g [.m 32 5,.m 2 32] (.ret [2])) .skip))) (.join [0,3,49] (.dreg 17 [.m 33 3,.v 34 .gtr 33 0,.m 35 34,.my 36 0 35,.my 37 3 35,.vy 38 .sub 37 1 35,.ry 39 4 36 38 35,.ay 40 0 39 35,.y 41 (.load (some 2) (.t 40)) 35,.my 42 0 35,.my 43 3 35,.ry 44 4 42 43 35,.ay 45 0 44 35,.y 46 (.load (some 2) (.t 45)) 35,.y 47 (.f 39 [.t 41,.t 46]) 35,.y 48 (.un .not (.t 47)) 35,.e 49 35 48]) (.i 49 (.g [.c 2 9] (.ret [2])) .skip))))) (.reg [.m 13 3,.v 14 .add 13 1,.m 3 14])))
theorem F19:compF Tryz.prog 19=some ⟨50,[.tmp 2],(.g [.c 2 0] (.join [0] (.g [.m 6 0,.u 7 6,.v 8 .gtr 7 4096] (.i 8 (.g [.c 2 5] (.ret [2])) .skip)) (.join [] (.g [.c 3 0] (.block 0 (.loop [0,3] [] B19_0))) (.g [.c 2 0] (.ret [2])))))⟩:=by kernel_rfl
-- 20 is not covered
def B21_0:Cd:=(.g [.b 43 .lss 42 41] (.join [1,3,6,8,9,12,40,41,42] (.i 43 .skip (.exit [6,8,9,12] 0)) (.join [1,3,6,8,9,12,40,41,42] (.block 1 (.g [.r 44 4 40 42,.d 45 4 44,.s 14 (.alloc 42 [.i 0,.i 0,.i 0,.i 0]),.w 4 14 45] (.z [14] (.g [.d 47 3 3,.m 48 1,.a 49 0 14,.d 50 2 49,.s 51 (.f 20 [.t 47,.t 48,.t 50]),.m 46 51,.j 52 0 46,.j 53 1 46,.j 54 2 46,.m 15 52,.m 16 53,.m 17 54] (.join [1,3,6,8,9,12,14,15,40,41,42] (.g [.m 55 16,.z 56 55] (.i 56 (.g [.m 57 12,.d 58 4 14,.s 59 (.bslice 42 4 [.t 58]),.s 60 (.append 42 4 32 (.t 57) (.t 59)),.m 12 60] (.exit [1,3,6,8,9,12,40,41,42] 1)) .skip)) (.g [.d 61 3 8,.m 62 15,.g' 63 44 61 62,.m 18 63] (.g [.a 64 0 8,.a 65 2 64,.l 66 65,.m 67 18,.r 68 9 66 67,.d 69 9 68,.s 19 (.alloc 30 [(.str []),(.str []),.nils,.nils,(.bool false),(.bool false),.i 0,(.str []),.i 0]),.w 9 19 69] (.g [.a 70 2 19,.l 71 70,.f 72 45 71,.a 73 2 19,.w 1 73 72] (.g [.d 75 9 19,.a 76 0 14,.d 77 2 76,.g' 78 46 75 77,.m 74 78,.j 79 0 74,.j 80 1 74,.j 81 2 74,.m 20 79,.m 21 80,.m 22 81] (.g [.a 82 2 19,.l 83 82,.m 84 20,.a 85 2 14,.d 86 2 85,.r 87 5 83 84,.a 88 2 87,.w 2 88 86] (.reg [.d 89 3 8,.m 90 18,.d 91 9 19,.s 92 (.f 47 [.t 89,.t 90,.t 91]),.w 3 8 92]))))))))))) (.reg [.v 93 .add 42 1,.m 42 93]))))
theorem F21:compF Tryz.prog 21=some ⟨103,[.cell 6 (some 3),.tmp 7],(.g [.q 3 24 0,.s 6 (.alloc 24 [.i 0,.i 0,.nils]),.c 7 0] (.z [3] (.g [.d 24 3 3,.m 25 1,.g' 26 42 24 25,.m 23 26,.j 27 0 23,.j 28 1 23,.j 29 2 23,.s 8 (.alloc 84 [.i 0,.i 0,.nils]),.w 3 8 27,.m 9 28,.m 10 29] (.join [1,2,3,6,8,9] (.g [.m 30 10,.v 31 .neq 30 0] (.i 31 (.g [.s 32 (.build [.i 0,.i 0,.nils] []),.m 33 10,.w 3 6 32,.m 7 33] (.ret [6,7])) .skip)) (.join [1,2,3,6,8,9] (.g [.m 34 2,.f 35 43 34,.m 11 35] (.g [.m 36 11,.v 37 .neq 36 0] (.i 37 (.g [.s 38 (.build [.i 0,.i 0,.nils] []),.m 39 11,.w 3 6 38,.m 7 39] (.ret [6,7])) .skip))) (.g [.s 12 (.mv (.c .nils))] (.join [6,8,9,12] (.g [.m 40 2,.u 41 40,.c 42 0] (.block 0 (.loop [1,3,6,8,9,12,40,41,42] [(12,(42,4))] B21_0))) (.g [.d 94 3 8,.m 95 9,.m 96 12,.s 97 (.f 49 [.t 94,.t 95,.t 96]),.j 98 0 97,.j 99 1 97,.g' 100 48 98 99,.j 101 0 100,.j 102 1 100,.w 3 6 101,.m 7 102] (.ret [6,7])))))))))⟩:=by kernel_rfl
theorem F22:compF Tryz.prog 22=some ⟨17,[.cell 4 (some 2)],(.g [.q 3 38 1,.s 4 (.alloc 40 [.i 0,.i 0])] (.z [3] (.g [.m 6 0,.s 7 (.mkfn (.func 51) [] [.t 3]),.g' 8 50 6 7,.m 5 8] (.join [0,4,5] (.g [.m 9 5,.v 10 .lss 9 0] (.i 10 (.g [.s 11 (.build [.i 0,.i 0] [(0,1,(.i (-1)))]),.w 2 4 11] (.ret [4])) .skip)) (.g [.m 12 0,.m 13 5,.r 14 4 12 13,.a 15 2 14,.d 16 2 15,.w 2 4 16] (.ret [4]))))))⟩:=by kernel_rfl
theorem F23:compF Tryz.prog 23=some ⟨55,[.cell 4 (some 3),.tmp 5],(.g [.q 2 24 0,.s 4 (.alloc 24 [.i 0,.i 0,.nils]),.c 5 0] (.z [2] (.g [.d 14 3 2,.m 15 1,.g' 16 42 14 15,.m 13 16,.j 17 0 13,.j 18 1 13,.j 19 2 13,.s 6 (.alloc 84 [.i 0,.i 0,.nils]),.s 7 (.alloc 3 [.i 0]),.w 3 6 17,.w 1 7 18,.m 8 19] (.z [6,7] (.join [1,2,4,6,7] (.g [.m 20 8,.v 21 .neq 20 0] (.i 21 (.g [.s 22 (.build [.i 0,.i 0,.nils] []),.m 23 8,.w 3 4 22,.m 5 23] (.ret [4,5])) .skip)) (.g [.d 25 3 2,.m 26 1,.g' 27 10 25 26,.m 24 27,.j 28 0 24,.j 29 1 24,.m 9 28,.m 10 29] (.join [4,7,8,11] (.greg [] [] [[],[],[],[],[],[],[],[],[],[true,true,true,true,true,true,true,true,true],[false,true,false,false,false,false,false,false,false,false],[]] [.d 31 3 6,.l 32 7,.m 33 9,.s 34 (.mkfn (.func 53) [] [.t 6,.t 7]),.g' 35 52 33 34,.s 36 (.f 49 [.t 31,.t 32,.t 35]),.m 30 36,.j 37 0 30,.j 38 1 30,.s 11 (.alloc 84 [.i 0,.i 0,.nils]),.w 3 11 37,.m 8 38]) (.z [11] (.join [4,7,11] (.g [.m 39 8,.v 40 .neq 39 0] (.i 40 (.g [.s 41 (.build [.i 0,.i 0,.nils] []),.m 42 8,.w 3 4 41,.m 5 42] (.ret [4,5])) .skip)) (.g [.a 43 0 11,.a 44 2 43,.l 45 44,.l 46 7,.r 47 9 45 46,.d 48 9 47,.s 12 (.alloc 30 [(.str []),(.str []),.nils,.nils,(.bool false),(.bool false),.i 0,(.str []),.i 0]),.w 9 12 48] (.g [.a 49 4 12,.n (.store 1 (.t 49) (.c (.bool true)))] (.g [.d 50 3 11,.l 51 7,.d 52 9 12,.s 53 (.f 47 [.t 50,.t 51,.t 52]),.s 54 (.fld (some 3) 0 (.t 53)),.w 3 4 54,.c 5 0] (.ret [4,5])))))))))))))⟩:=by kernel_rfl
def B24_0:Cd:=(.g [.b 13 .lss 12 11] (.join [0,1,10,11,12] (.i 13 .skip (.exit [] 0)) (.join [0,1,10,11,12] (.block 1 (.g [.r 14 4 10 12,.d 15 4 14,.s 6 (.alloc 42 [.i 0,.i 0,.i 0,.i 0]),.w 4 6 15] (.z [6] (.q (.dreg 9 [.m 16 0,.a 17 0 6,.d 18 2 17,.g' 19 22 16 18,.m 20 1,.a 21 0 6,.d 22 2 21,.g' 23 22 20 22,.s 24 (.eqs true [.i,.i] (.t 19) (.t 23))]) (.i 24 (.g [.k 4 false] (.ret [4])) .skip))))) (.reg [.v 25 .add 12 1,.m 12 25]))))
theorem F24:compF Tryz.prog 24=some ⟨26,[.tmp 4],(.g [.k 4 false] (.join [] (.g [.m 7 0,.m 8 1,.s 9 (.bslice 34 1 [.t 7,.t 8]),.f 10 56 9,.u 11 10,.c 12 0] (.block 0 (.loop [0,1,10,11,12] [] B24_0))) (.g [.k 4 true] (.ret [4]))))⟩:=by kernel_rfl
def B31_0:Cd:=(.g [.b 16 .lss 15 14] (.join [6,13,14,15] (.i 16 .skip (.exit [6] 0)) (.join [6,13,14,15] (.block 1 (.g [.r 17 5 13 15,.d 18 5 17,.s 8 (.alloc 45 [.i 0,.i 0,.i 0,.i 0,.i 0]),.w 5 8 18] (.z [8] (.g [.m 20 6,.a 21 0 8,.d 22 2 21,.g' 23 65 20 22,.m 19 23,.j 24 0 19,.j 25 1 19,.m 9 24,.m 10 25] (.join [6,8,9,13,14,15] (.g [.m 26 10] (.i 26 (.g [.m 27 6,.m 28 9,.d 29 5 8,.r 30 5 27 28,.w 5 30 29] (.exit [6,13,14,15] 1)) .skip)) (.reg [.m 31 6,.m 32 9,.d 33 5 8,.s 34 (.bslice 45 5 [.t 33]),.s 35 (.f 66 [.t 31,.t 32,.t 34]),.m 6 35])))))) (.reg [.v 36 .add 15 1,.m 15 36]))))
theorem F31:compF Tryz.prog 31=some ⟨41,[.tmp 4,.tmp 5],(.g [.s 4 (.mv (.c .nils)),.c 5 0] (.g [.m 11 0,.f 12 45 11,.m 6 12] (.join [6] (.g [.m 13 1,.u 14 13,.c 15 0] (.block 0 (.loop [6,13,14,15] [] B31_0))) (.join [6] (.g [.m 37 6,.u 38 37,.v 39 .gtr 38 128] (.i 39 (.g [.s 4 (.mv (.c .nils)),.c 5 5] (.ret [4,5])) .skip)) (.g [.m 40 6,.m 4 40,.c 5 0] (.ret [4,5]))))))⟩:=by kernel_rfl
end Go.Proofs.YtdnpaifeoinjoaaGreatDoor

namespace Go.Proofs.YtdnpaifeoinjoaaGreatDoor
open Go.Sha
set_option maxRecDepth 10000
theorem F65:compF Tryz.prog 65=some ⟨11,[.tmp 4,.tmp 5],(.g [.q 3 38 1,.c 4 0,.k 5 false] (.z [3] (.g [.m 6 0,.d 7 2 3,.s 8 (.f 80 [.t 6,.t 7,(.c (.fn (.func 107) [] []))]),.j 9 0 8,.j 10 1 8,.m 4 9,.m 5 10] (.ret [4,5]))))⟩:=by kernel_rfl
-- 69 is not covered
theorem F84:compF Tryz.prog 84=some ⟨13,[.tmp 2],(.g [.q 1 42 0,.c 2 0] (.z [1] (.join [1] (.g [.a 4 0 1,.d 5 2 4,.s 6 (.f 85 [.t 5,.i 1]),.m 3 6] (.g [.m 7 3,.v 8 .neq 7 0] (.i 8 (.g [.m 9 3,.m 2 9] (.ret [2])) .skip))) (.g [.a 10 2 1,.d 11 2 10,.f 12 86 11,.m 2 12] (.ret [2])))))⟩:=by kernel_rfl
def B87_0:Cd:=(.g [.b 19 .lss 18 17] (.join [0,2,3,16,17,18] (.i 19 .skip (.exit [] 0)) (.join [0,2,3,16,17,18] (.block 1 (.g [.m 20 18,.r 21 4 16 18,.d 22 4 21,.s 10 (.alloc 42 [.i 0,.i 0,.i 0,.i 0]),.m 9 20,.w 4 10 22] (.z [10] (.join [0,2,3,9,10,16,17,18] (.g [.m 23 2,.d 24 4 10,.s 25 (.call (.t 23) [.t 24]),.m 11 25] (.g [.m 26 11,.v 27 .neq 26 0] (.i 27 (.g [.m 28 11,.m 8 28] (.ret [8])) .skip))) (.join [0,2,3,16,17,18,41] (.dreg 13 [.m 29 9,.v 30 .gtr 29 0,.m 31 30,.my 32 3 31,.my 33 0 31,.my 34 9 31,.vy 35 .sub 34 1 31,.ry 36 4 33 35 31,.y 37 (.load (some 4) (.t 36)) 31,.y 38 (.load (some 4) (.t 10)) 31,.y 39 (.call (.t 32) [.t 37,.t 38]) 31,.vy 40 .geq 39 0 31,.e 41 31 40]) (.i 41 (.g [.c 8 9] (.ret [8])) .skip)))))) (.reg [.v 42 .add 18 1,.m 18 42]))))
theorem F87:compF Tryz.prog 87=some ⟨43,[.tmp 8],(.g [.c 8 0] (.join [0,2,3] (.g [.m 12 0,.u 13 12,.m 14 1,.b 15 .gtr 13 14] (.i 15 (.g [.c 8 5] (.ret [8])) .skip)) (.join [] (.g [.m 16 0,.u 17 16,.c 18 0] (.block 0 (.loop [0,2,3,16,17,18] [] B87_0))) (.g [.c 8 0] (.ret [8])))))⟩:=by kernel_rfl
end Go.Proofs.YtdnpaifeoinjoaaGreatDoor

namespace Go.Proofs.YtdnpaifeoinjoaaGreatDoor
open Go.Sha
set_option maxRecDepth 10000
theorem F88:compF Tryz.prog 88=some ⟨10,[.tmp 4],(.g [.q 2 42 0,.q 3 42 1,.c 4 0] (.z [2,3] (.g [.a 5 0 2,.d 6 2 5,.a 7 0 3,.d 8 2 7,.g' 9 89 6 8,.m 4 9] (.ret [4]))))⟩:=by kernel_rfl
theorem F90:compF Tryz.prog 90=some ⟨8,[.tmp 3],(.g [.q 2 30 0,.k 3 false] (.z [2] (.g [.a 4 0 2,.l 5 4,.l 6 1,.b 7 .eql 5 6,.m 3 7] (.ret [3]))))⟩:=by kernel_rfl
def B94_0:Cd:=(.g [.b 41 .lss 40 39] (.join [2,3,6,10,38,39,40] (.i 41 .skip (.exit [3,6,10] 0)) (.join [2,3,6,10,38,39,40] (.block 1 (.g [.r 42 4 38 40,.d 43 4 42,.s 12 (.alloc 42 [.i 0,.i 0,.i 0,.i 0]),.w 4 12 43] (.z [12] (.reg [.m 44 10,.a 45 0 12,.d 46 2 45,.a 47 2 12,.d 48 2 47,.m 49 2,.s 50 (.build [.i 0,.i 0,.i 0,.i 0,.i 0] [(0,2,(.t 46)),(2,2,(.t 48)),(4,1,(.t 49))]),.s 51 (.bslice 45 5 [.t 50]),.s 52 (.append 45 5 40 (.t 44) (.t 51)),.m 10 52])))) (.reg [.v 53 .add 40 1,.m 40 53]))))
theorem F94:compF Tryz.prog 94=some ⟨71,[.cell 6 (some 9),.tmp 7],(.g [.q 3 30 0,.s 6 (.alloc 30 [(.str []),(.str []),.nils,.nils,(.bool false),(.bool false),.i 0,(.str []),.i 0]),.c 7 0] (.z [3] (.join [1,2,3,6] (.g [.d 16 9 3,.f 17 91 16,.m 8 17] (.g [.m 18 8,.v 19 .neq 18 0] (.i 19 (.g [.s 20 (.build [(.str []),(.str []),.nils,.nils,(.bool false),(.bool false),.i 0,(.str []),.i 0] []),.m 21 8,.w 9 6 20,.m 7 21] (.ret [6,7])) .skip))) (.join [1,2,3,6] (.g [.m 22 1,.f 23 43 22,.m 9 23] (.g [.m 24 9,.v 25 .neq 24 0] (.i 25 (.g [.s 26 (.build [(.str []),(.str []),.nils,.nils,(.bool false),(.bool false),.i 0,(.str []),.i 0] []),.m 27 9,.w 9 6 26,.m 7 27] (.ret [6,7])) .skip))) (.join [1,2,3,6] (.join [1,2,3,6,36] (.reg [.m 28 2,.v 29 .lss 28 1,.m 30 29,.mx 31 2 30,.ax 32 3 3 30,.lx 33 32 30,.x 34 (.len (.t 33)) 30,.bx 35 .gtr 31 34 30,.o 36 30 35]) (.i 36 (.g [.s 37 (.build [(.str []),(.str []),.nils,.nils,(.bool false),(.bool false),.i 0,(.str []),.i 0] []),.w 9 6 37,.c 7 6] (.ret [6,7])) .skip)) (.g [.s 10 (.mv (.c .nils))] (.join [3,6,10] (.g [.m 38 1,.u 39 38,.c 40 0] (.block 0 (.loop [2,3,6,10,38,39,40] [(10,(45,5))] B94_0))) (.g [.d 54 9 3,.s 13 (.alloc 154 [(.str []),(.str []),.nils,.nils,(.bool false),(.bool false),.i 0,(.str []),.i 0]),.w 9 13 54] (.g [.c 14 0] (.join [6,13] (.g [.a 56 2 3,.l 57 56,.m 58 10,.g' 59 31 57 58,.m 55 59,.j 60 0 55,.j 61 1 55,.a 62 2 13,.w 1 62 60,.m 14 61] (.g [.m 63 14,.v 64 .neq 63 0] (.i 64 (.g [.s 65 (.build [(.str []),(.str []),.nils,.nils,(.bool false),(.bool false),.i 0,(.str []),.i 0] []),.m 66 14,.w 9 6 65,.m 7 66] (.ret [6,7])) .skip))) (.g [.s 67 (.mkfn (.func 124) [.t 13] []),.m 15 67] (.g [.m 68 15,.s 69 (.call (.t 68) [])] (.g [.d 70 9 13,.w 9 6 70,.c 7 0] (.ret [6,7]))))))))))))))⟩:=by kernel_rfl
theorem F96:compF Tryz.prog 96=some ⟨8,[.tmp 3],(.g [.q 2 45 0,.k 3 false] (.z [2] (.g [.a 4 0 2,.d 5 2 4,.d 6 2 1,.s 7 (.eqs false [.i,.i] (.t 5) (.t 6)),.m 3 7] (.ret [3]))))⟩:=by kernel_rfl
theorem F107:compF Tryz.prog 107=some ⟨9,[.tmp 4],(.g [.q 2 45 0,.q 3 38 1,.c 4 0] (.z [2,3] (.g [.a 5 0 2,.d 6 2 5,.d 7 2 3,.g' 8 106 6 7,.m 4 8] (.ret [4]))))⟩:=by kernel_rfl
theorem F124:compF Tryz.prog 124=some ⟨10,[],(.reg [.m 2 0,.m 3 0,.s 4 (.k 3),.a 5 3 4,.l 6 5,.f 7 143 6,.s 8 (.k 2),.a 9 3 8,.w 1 9 7])⟩:=by kernel_rfl
end Go.Proofs.YtdnpaifeoinjoaaGreatDoor

namespace Go.Proofs.YtdnpaifeoinjoaaGreatDoor
open Go.Sha
set_option maxRecDepth 100000
variable {g:List (Nat×Obj)}{n:Nat}
theorem room_ok {n b:Nat}(hr:n<140737488355328 / (b+1))(hb:0<b):roomV n b=true:=by
 simp only[roomV,Bool.and_eq_true,decide_eq_true_eq]
 have h1:n*(b+1)≤140737488355328 / (b+1)*(b+1):=Nat.mul_le_mul_right _ (by omega)
 have h2:=Nat.div_mul_le_self 140737488355328 (b+1)
 rw[Nat.mul_add]at h1
 unfold maxLen
 omega
theorem r_cln {α:Type}{k e es b:Nat}{f:α→V}{l:List α}{st:St}(hH:∀args st,HH k args st=hCln e es b args st)(hf:∀x,fastA (f x)=true)(he:∀x,(f x).cells.length=es)(hr:l.length<140737488355328 / (b+1))(hb:0<b) :
  run Tryz.prog HH k [.sl (l.map f)] st=some (.ret (.osl st.nx l.length),⟨st.nx+1,st.mem,(st.nx,⟨e,es,l.map f,true,false⟩)::st.arr,st.x⟩):=by
 have c1:(l.map f).all fastA=true:=by rw[List.all_map,List.all_eq_true];exact fun x _=>hf x
 have c2:(l.map f).all (fun y=>y.cells.length == es)=true:=by rw[List.all_map,List.all_eq_true];intro x _;simpa using he x
 have c3:roomV (l.map f).length b=true:=by rw[List.length_map];exact room_ok hr hb
 refine run_H ((hH _ _).trans ?_)
 show(if(l.map f).all fastA=true∧(l.map f).all (fun y=>y.cells.length == es)=true∧roomV (l.map f).length b=true then _ else _)=_
 rw[if_pos ⟨c1,c2,c3⟩,List.length_map]
theorem r_ins {k e e' es b id n id' m i:Nat}{xs ys zs:List V}{wr':Bool}{st:St}(hH:∀args st,HH k args st=hIns e es b args st)(h1:Sha.look st.arr id=some ⟨e,es,xs,true,false⟩)(h2:Sha.look st.arr id'=some ⟨e',es,ys,wr',false⟩)(hn:xs.length=n)(hm:ys.length=m)(hne:id'≠id)(h0:0<m)(hi:i≤n)(hr:n+m<140737488355328 / (b+1))(hb:0<b)(hz:mapO (snapA st) ys=some zs) :
  run Tryz.prog HH k [.osl id n,.int .i64 i,.osl id' m] st=some (.ret (.osl id (n+m)),{ st with arr:=updA st.arr id ⟨e,es,xs.take i++zs++xs.drop i,true,false⟩ }):=by
 refine run_H ((hH _ _).trans ?_)
 have h6:roomV (n+m) b=true:=room_ok hr hb
 simp only[hIns,h1,h2,insH]
 rw[if_pos ⟨hn,trivial,trivial,trivial,trivial,hm,trivial,trivial,hne,h0,by omega,by omega,h6⟩,hz,Option.map_some,Int.toNat_natCast]
def keyM (m:Mov):Int:=keyN m.prm
theorem cmpM {l:List Mov}{q:Prm}(hl:∀m∈l,prmC 1 m.prm=0)(hq:prmC 1 q=0):CmpK keyM (keyN q) (fun y=>cmpP y.prm q) l:=fun y hy=>by
 have h1:=prm_rng (hl y hy)
 have h2:=prm_rng hq
 have hc:cmpP y.prm q=if y.prm.chan=q.chan then y.prm.attr-q.attr else y.prm.chan-q.chan:=cmp_ok (okP_of h1) (okP_of h2)
 simp only[hc,keyM,keyN]
 by_cases h:y.prm.chan=q.chan<;>simp only[h,if_true,if_false]<;>constructor<;>constructor<;>intro h<;>omega
theorem f107 {x:Mov}{q:Prm}{st:St}:run Tryz.prog HH 107 [x.v,q.v] st=some (.ret (.int .i64 (cmpP x.prm q)),st):=by
 rw[run_shut F107 rfl rfl (by simp)]
 push_cast[Mov.v,Prm.v,p106]
 all_goals first|with_reducible rfl|exact dn_eq (by omega) (by with_reducible rfl)|((repeat' split)<;>(try simp_all)<;>(try (with_reducible refine dn_eq ?_ ?_<;>first|trivial|omega|rfl))<;>(try omega))
theorem L80M {l:List Mov}{q:Prm}(hl:l.length<140737488355328):∀i j,i≤j→j≤l.length→runL Tryz.prog HH [0,2,4,8,9,10] n B80_0 [(0,.sl (l.map Mov.v)),(2,.fn (.func 107) [] []),(4,.ep q.v 0),(8,.int .i64 l.length),(9,.int .i64 i),(10,.int .i64 j)] (stN g n)
  = some (.exit 0,[(0,.sl (l.map Mov.v)),(2,.fn (.func 107) [] []),(4,.ep q.v 0),(8,.int .i64 l.length),(9,.int .i64 (bsI (fun k=>cmpP (l.getD k default).prm q) i j))],stN g n):=by
 intro i j
 induction i,j using bsI.induct (fun k=>cmpP (l.getD k default).prm q) with
 |case1 i j h h2 ih =>
  intro hij hj
  have ih:=ih (by omega) hj
  rw[bsI,dif_pos h,if_pos h2,runL_of B80_0.eq_1]
  have h1:(i:Int)<j:=by omega
  have h3:=halfI (i:=i) (j:=j) (by omega)
  have h4:(((i+j) / 2:Nat):Int)<l.length:=by omega
  have h5:IntKind.i64.wrap ((((i+j) / 2:Nat):Int)+1)=(((i+j) / 2+1:Nat):Int):=iwrap (by omega) (by omega)
  have h360:=fun(st:St)=>f107 (x:=l.getD ((i+j) / 2) default) (q:=q) (st:=st)
  generalize hk:(i+j) / 2=k at *
  push_cast[Mov.v,Prm.v]at ih h360
  push_cast[h1,h3,h4,h5,h360,Mov.v,Prm.v,h2]
  exact ih
 |case2 i j h h2 ih =>
  intro hij hj
  have ih:=ih (by omega) (by omega)
  rw[bsI,dif_pos h,if_neg h2,runL_of B80_0.eq_1]
  have h1:(i:Int)<j:=by omega
  have h3:=halfI (i:=i) (j:=j) (by omega)
  have h4:(((i+j) / 2:Nat):Int)<l.length:=by omega
  have h360:=fun(st:St)=>f107 (x:=l.getD ((i+j) / 2) default) (q:=q) (st:=st)
  generalize hk:(i+j) / 2=k at *
  push_cast[Mov.v,Prm.v]at ih h360
  push_cast[h1,h3,h4,h360,Mov.v,Prm.v,h2]
  exact ih
 |case3 i j h =>
  intro hij hj
  rw[bsI,dif_neg h,runL_of B80_0.eq_1]
  have h1:¬(i:Int)<j:=by omega
  push_cast[h1,Mov.v,Prm.v]
def cmM (q:Prm):Mov→Int:=fun y=>cmpP y.prm q
theorem f80M {l:List Mov}{q:Prm}(hl:l.length<140737488355328){st:St}:run Tryz.prog HH 80 [.sl (l.map Mov.v),q.v,.fn (.func 107) [] []] st=some (.ret (.tup [.int .i64 (bsR (cmM q) l),.bool (bsF (cmM q) l)]),st):=by
 have h0:=fun n=>L80M (g:=st.x.gl) (n:=n) (q:=q) hl 0 l.length (by omega) (Nat.le_refl _)
 have h360:=fun(st:St)=>f107 (x:=l.getD (bsR (cmM q) l) default) (q:=q) (st:=st)
 rw[run_shut F80 rfl rfl (by simp)]
 rw[show bsI (fun k=>cmpP (l.getD k default).prm q) 0 l.length=bsR (cmM q) l from rfl]at h0
 have e:bsF (cmM q) l=(decide ((bsR (cmM q) l:Int)<l.length)&&cmpP (l.getD (bsR (cmM q) l) default).prm q == 0):=rfl
 push_cast[Mov.v,Prm.v]at h0 h360
 push_cast[Mov.v,Prm.v,h0,h360,e]
 exact dn_eq (by omega) rfl
theorem f65 {l:List Mov}{q:Prm}(hl:l.length<140737488355328){st:St}:run Tryz.prog HH 65 [.sl (l.map Mov.v),q.v] st=some (.ret (.tup [.int .i64 (bsR (cmM q) l),.bool (bsF (cmM q) l)]),st):=by
 have h:=fun(st:St)=>f80M (q:=q) hl (st:=st)
 push_cast[Mov.v,Prm.v]at h
 rw[run_shut F65 rfl rfl (by simp)]
 push_cast[Mov.v,Prm.v,h]
 all_goals first|with_reducible rfl|exact dn_eq (by omega) (by with_reducible rfl)|((repeat' split)<;>(try simp_all)<;>(try (with_reducible refine dn_eq ?_ ?_<;>first|trivial|omega|rfl))<;>(try omega))
def stK (g:List (Nat×Obj))(n k:Nat)(M:List Mov):St:=⟨k,[],[(n,⟨45,5,M.map Mov.v,true,false⟩)],⟨[],g,[]⟩⟩
@[push_cast]theorem stK_eq {k:Nat}{M:List Mov}:stK g n k M=⟨k,[],[(n,⟨45,5,M.map Mov.v,true,false⟩)],⟨[],g,[]⟩⟩:=idq rfl
theorem getD_mv {l:List Mov}{k:Nat}(h:k<l.length):(l.map Mov.v).getD k .und=(l.getD k default).v:=by
 simp[List.getD_eq_getElem?_getD,List.getElem?_map,List.getElem?_eq_getElem h]
theorem getD_get {α:Type}[Inhabited α]{l:List α}{k:Nat}(h:k<l.length):l[k]?=some (l.getD k default):=by rw[List.getD_eq_getElem?_getD,List.getElem?_eq_getElem h];rfl
theorem L80o {l:List Mov}{q:Prm}{k0:Nat}(hl:l.length<140737488355328):∀i j,i≤j→j≤l.length→runL Tryz.prog HH [0,2,4,8,9,10] k0 B80_0 [(0,.osl n l.length),(2,.fn (.func 107) [] []),(4,.ep q.v 0),(8,.int .i64 l.length),(9,.int .i64 i),(10,.int .i64 j)] (stK g n k0 l)
  = some (.exit 0,[(0,.osl n l.length),(2,.fn (.func 107) [] []),(4,.ep q.v 0),(8,.int .i64 l.length),(9,.int .i64 (bsI (fun k=>cmpP (l.getD k default).prm q) i j))],stK g n k0 l):=by
 intro i j
 induction i,j using bsI.induct (fun k=>cmpP (l.getD k default).prm q) with
 |case1 i j h h2 ih =>
  intro hij hj
  have ih:=ih (by omega) hj
  rw[bsI,dif_pos h,if_pos h2,runL_of B80_0.eq_1]
  have h1:(i:Int)<j:=by omega
  have h3:=halfI (i:=i) (j:=j) (by omega)
  have h4:(((i+j) / 2:Nat):Int)<l.length:=by omega
  have h5:IntKind.i64.wrap ((((i+j) / 2:Nat):Int)+1)=(((i+j) / 2+1:Nat):Int):=iwrap (by omega) (by omega)
  have h360:=fun(st:St)=>f107 (x:=l.getD ((i+j) / 2) default) (q:=q) (st:=st)
  generalize hk:(i+j) / 2=k at *
  have e5:=getD_mv (l:=l) (k:=k) (by omega)
  have e6:k<l.length:=by omega
  push_cast[Mov.v,Prm.v]at ih h360 e5
  push_cast[h1,h3,h4,h5,h360,e5,e6,Mov.v,Prm.v,h2]
  exact ih
 |case2 i j h h2 ih =>
  intro hij hj
  have ih:=ih (by omega) (by omega)
  rw[bsI,dif_pos h,if_neg h2,runL_of B80_0.eq_1]
  have h1:(i:Int)<j:=by omega
  have h3:=halfI (i:=i) (j:=j) (by omega)
  have h4:(((i+j) / 2:Nat):Int)<l.length:=by omega
  have h360:=fun(st:St)=>f107 (x:=l.getD ((i+j) / 2) default) (q:=q) (st:=st)
  generalize hk:(i+j) / 2=k at *
  have e5:=getD_mv (l:=l) (k:=k) (by omega)
  have e6:k<l.length:=by omega
  push_cast[Mov.v,Prm.v]at ih h360 e5
  push_cast[h1,h3,h4,h360,e5,e6,Mov.v,Prm.v,h2]
  exact ih
 |case3 i j h =>
  intro hij hj
  rw[bsI,dif_neg h,runL_of B80_0.eq_1]
  have h1:¬(i:Int)<j:=by omega
  push_cast[h1,Mov.v,Prm.v]
theorem f80o {l:List Mov}{q:Prm}{k0:Nat}(hn:n<k0)(hl:l.length<140737488355328):run Tryz.prog HH 80 [.osl n l.length,q.v,.fn (.func 107) [] []] (stK g n k0 l)=some (.ret (.tup [.int .i64 (bsR (cmM q) l),.bool (bsF (cmM q) l)]),stK g n k0 l):=by
 have h0:=L80o (g:=g) (n:=n) (q:=q) (k0:=k0+1) hl 0 l.length (by omega) (Nat.le_refl _)
 have h360:=fun(st:St)=>f107 (x:=l.getD (bsR (cmM q) l) default) (q:=q) (st:=st)
 rw[run_open F80 rfl rfl (by simp)]
 rw[show bsI (fun k=>cmpP (l.getD k default).prm q) 0 l.length=bsR (cmM q) l from rfl]at h0
 have e:bsF (cmM q) l=(decide ((bsR (cmM q) l:Int)<l.length)&&cmpP (l.getD (bsR (cmM q) l) default).prm q == 0):=rfl
 push_cast[Mov.v,Prm.v]at h0 h360
 by_cases h2:bsR (cmM q) l<l.length
 ·have e5:=getD_mv (l:=l) (k:=bsR (cmM q) l) h2
  have h3:(bsR (cmM q) l:Int)<l.length:=by omega
  push_cast[Mov.v]at e5
  push_cast[Mov.v,Prm.v,h0,h360,e,e5,h2,h3,hn]
 ·have h3:¬(bsR (cmM q) l:Int)<l.length:=by omega
  push_cast[Mov.v,Prm.v,h0,h360,e,h3,hn]
theorem f65o {l:List Mov}{q:Prm}{k0:Nat}(hn:n<k0)(hl:l.length<140737488355328):run Tryz.prog HH 65 [.osl n l.length,q.v] (stK g n k0 l)=some (.ret (.tup [.int .i64 (bsR (cmM q) l),.bool (bsF (cmM q) l)]),stK g n k0 l):=by
 have h:=f80o (g:=g) (n:=n) (k0:=k0+1) (q:=q) (by omega) hl
 rw[run_open F65 rfl rfl (by simp)]
 push_cast[Mov.v,Prm.v]at h
 push_cast[Mov.v,Prm.v,h,hn]
def mrg (M r:List Mov):List Mov:=r.foldl (fun l m=>insT keyM m l) M
def stM (g:List (Nat×Obj))(n:Nat)(M:List Mov):St:=⟨n+1,[],[(n,⟨45,5,M.map Mov.v,true,false⟩)],⟨[],g,[]⟩⟩
@[push_cast]theorem stM_eq {M:List Mov}:stM g n M=⟨n+1,[],[(n,⟨45,5,M.map Mov.v,true,false⟩)],⟨[],g,[]⟩⟩:=idq rfl
theorem insM_rng {M:List Mov}{m:Mov}(h:∀q∈M,prmC 1 q.prm=0)(hm:prmC 1 m.prm=0):∀q∈insT keyM m M,prmC 1 q.prm=0:=fun q hq=>by
 simp only[insT,List.mem_append,List.mem_cons,List.mem_filter]at hq
 rcases hq with hq|rfl|hq
 ·exact h q hq.1
 ·exact hm
 ·exact h q hq.1
theorem asc_insT {α:Type}{key:α→Int}{x:α}{l:List α}(h:Asc key l):Asc key (insT key x l):=by
 unfold Asc insT at *
 refine List.pairwise_append.2 ⟨h.filter _,List.pairwise_cons.2 ⟨fun y hy=>?_,h.filter _⟩,fun y hy z hz=>?_⟩
 ·simpa using(List.mem_filter.1 hy).2
 ·have h1:key y<key x:=by simpa using(List.mem_filter.1 hy).2
  rcases List.mem_cons.1 hz with rfl|hz
  ·exact h1
  ·have h2:key x<key z:=by simpa using(List.mem_filter.1 hz).2
   omega
theorem L31 {b:List Mov}(hb:b.length<140737488355328)(hr:∀m∈b,prmC 1 m.prm=0):∀r j,b.drop j=r→∀M:List Mov,Asc keyM M→(∀q∈M,prmC 1 q.prm=0)→M.length+r.length≤10000 →
  runL Tryz.prog HH [6,13,14,15] (n+1) B31_0 [(6,.osl n M.length),(13,.sl (b.map Mov.v)),(14,.int .i64 b.length),(15,.int .i64 j)] (stM g n M)=some (.exit 0,[(6,.osl n (mrg M r).length)],stM g n (mrg M r)):=by
 refine drop_ind (fun j h M ha hM hn=>?_) (fun q r j h hx hd ih M ha hM hn=>?_)
 all_goals rw[runL_of B31_0.eq_1]
 ·have h1:¬(j:Int)<b.length:=by omega
  push_cast[h1,mrg,List.foldl_nil,Mov.v]
 ·have h1:(j:Int)<b.length:=by omega
  have hw:=iw1 (j:=j) (by omega)
  have hq:=hr q (mem_at hd)
  have hc:CmpK keyM (keyM q) (cmM q.prm) M:=cmpM hM hq
  rw[List.length_cons]at hn
  have hl1:=insT_len (x:=q) ha
  have hl2:(insT keyM q M).length≤M.length+1:=by split at hl1<;>omega
  have ih:=ih (insT keyM q M) (asc_insT ha) (insM_rng hM hq) (by omega)
  have h65:=f65o (g:=g) (n:=n) (k0:=n+1+1) (l:=M) (q:=q.prm) (by omega) (by omega)
  rw[show mrg M (q::r)=mrg (insT keyM q M) r from rfl]
  obtain⟨b1,b2,b3,b4,b5⟩:=bs_tab ha hc
  cases hf:bsF (cmM q.prm) M with
  |true =>
   have e1:=put_hit ha hc hf
   have e2:=(b4 hf).1
   have e3:(insT keyM q M).length=M.length:=by rw[hl1,←b3,hf,if_pos rfl]
   generalize hR:bsR (cmM q.prm) M=R at *
   have e5:M[R]?=some M[R]:=List.getElem?_eq_getElem e2
   have e6:(M.map Mov.v).set R q.v=(insT keyM q M).map Mov.v:=by rw[←e1,List.map_set]
   generalize insT keyM q M=M' at *
   generalize mrg M' r=Z at *
   rw[e3]at ih
   have e7:(R:Int)<M.length:=by omega
   rw[hf]at h65
   push_cast[Mov.v,Prm.v]at h65 ih e6
   push_cast[h1,hw,hx,h65,e5,e6,e7,stoB,V.cells,V.recell,Mov.v,Prm.v,List.length_map]at ih ⊢
   exact dn_eq e2 ih
  |false =>
   have e1:=put_miss ha hc hf
   have e3:(insT keyM q M).length=M.length+1:=by rw[hl1,←b3,hf,if_neg (by simp)]
   have e6:(M.map Mov.v).take (bsR (cmM q.prm) M)++[q.v]++(M.map Mov.v).drop (bsR (cmM q.prm) M)=(insT keyM q M).map Mov.v:=by rw[←e1];simp
   generalize hR:bsR (cmM q.prm) M=R at *
   generalize insT keyM q M=M' at *
   generalize mrg M' r=Z at *
   rw[e3]at ih
   rw[hf]at h65
   push_cast[Mov.v,Prm.v]at h65 ih e6
   push_cast[h1,hw,hx,h65,e6,Mov.v,Prm.v]at ih ⊢
   have e8:(M.map Mov.v).take R++[V.agg [.int .i64 q.prm.chan,.int .i64 q.prm.attr,.int .i64 q.val.pal,.int .i64 q.val.lev,.int .i64 q.part]]++(M.map Mov.v).drop R=M'.map Mov.v:=by rw[←e1];simp
   have hI:=r_ins (k:=66) (e:=45) (e':=45) (es:=5) (b:=40) (id:=n) (id':=n+1+1) (n:=M.length) (m:=1) (i:=R) (xs:=M.map Mov.v) (ys:=[V.agg [.int .i64 q.prm.chan,.int .i64 q.prm.attr,.int .i64 q.val.pal,.int .i64 q.val.lev,.int .i64 q.part]]) (zs:=[V.agg [.int .i64 q.prm.chan,.int .i64 q.prm.attr,.int .i64 q.val.pal,.int .i64 q.val.lev,.int .i64 q.part]]) (wr':=false) (st:=⟨n+1+1+1,[],[(n+1+1,⟨45,5,[V.agg [.int .i64 q.prm.chan,.int .i64 q.prm.attr,.int .i64 q.val.pal,.int .i64 q.val.lev,.int .i64 q.part]],false,false⟩),(n,⟨45,5,M.map Mov.v,true,false⟩)],⟨[],g,[]⟩⟩)
    (fun _ _=>rfl) (by show(if n+1+1=n then _ else _)=_;rw[if_neg (by omega)];exact if_pos rfl) (if_pos rfl) (by simp) rfl (by omega) (by decide) b1 (by omega) (by decide) rfl
   rw[e8]at hI
   push_cast[updA]at hI ih ⊢
   push_cast[hI,hw]
   exact ih
theorem mrg_asc:∀{r M:List Mov},Asc keyM M→(∀q∈M,prmC 1 q.prm=0)→(∀q∈r,prmC 1 q.prm=0)→Asc keyM (mrg M r)∧∀q∈mrg M r,prmC 1 q.prm=0
 |[],_,ha,hM,_=>⟨ha,hM⟩
 |m::r,M,ha,hM,hr=>mrg_asc (r:=r) (asc_insT ha) (insM_rng hM (hr m (List.mem_cons_self ..))) fun q hq=>hr q (List.mem_cons_of_mem _ hq)
theorem mrg_len:∀{r M:List Mov},Asc keyM M→(mrg M r).length≤M.length+r.length
 |[],_,_=>Nat.le_refl _
 |m::r,M,ha=>by
  have h1:=mrg_len (r:=r) (asc_insT (x:=m) ha)
  have h2:=insT_len (x:=m) ha
  rw[List.length_cons]
  show(mrg (insT keyM m M) r).length≤_
  split at h2<;>omega
theorem f31 {a b:List Mov}(ha:Asc keyM a)(hA:∀q∈a,prmC 1 q.prm=0)(hB:∀q∈b,prmC 1 q.prm=0)(la:a.length≤128)(lb:b.length≤8192){st:St} :
  run Tryz.prog HH 31 [.sl (a.map Mov.v),.sl (b.map Mov.v)] st=some (.ret (if 128<(mrg a b).length then .tup [.sl [],.int .i64 5] else .tup [.sl ((mrg a b).map Mov.v),.int .i64 0]),st):=by
 have hc:=fun(st:St)=>r_cln (k:=45) (e:=45) (es:=5) (b:=40) (f:=Mov.v) (l:=a) (st:=st) (fun _ _=>rfl) (fun _=>rfl) (fun _=>rfl) (by omega) (by omega)
 have hL:=L31 (g:=st.x.gl) (n:=0) (b:=b) (by omega) hB b 0 rfl a ha hA (by omega)
 have hl:=mrg_len (r:=b) ha
 generalize mrg a b=Z at *
 rw[run_shut F31 rfl rfl (by simp)]
 push_cast[Mov.v]at hc hL
 by_cases h:128<Z.length
 ·have h1:(128:Int)<Z.length:=by omega
  push_cast[Mov.v,hc,hL,h,h1]
 ·have h1:¬(128:Int)<Z.length:=by omega
  push_cast[Mov.v,hc,hL,h,h1]
end Go.Proofs.YtdnpaifeoinjoaaGreatDoor

namespace Go.Proofs.YtdnpaifeoinjoaaGreatDoor
open Go.Sha
section
variable {x:Lst}
theorem insK_fold:∀{r a:List Prm},a.Nodup→(r.foldl insK a).Nodup∧∀p,p∈r.foldl insK a↔p∈a∨p∈r
 |[],a,h=>⟨h,fun p=>by simp⟩
 |q::r,a,h=>by
  have h2:(insK a q).Nodup∧∀p,p∈insK a q↔p∈a∨p=q:=by
   unfold insK
   split
   ·rename_i hq
    exact⟨h,fun p=>⟨.inl,fun e=>e.elim (fun e=>e) fun e=>e▸hq⟩⟩
   ·rename_i hq
    refine⟨List.nodup_append.2 ⟨h,List.nodup_cons.2 ⟨by simp,List.nodup_nil⟩,fun x hx y hy e=>?_⟩,fun p=>by simp⟩
    rw[List.mem_singleton]at hy;subst hy;subst e;exact hq hx
  obtain⟨a1,a2⟩:=insK_fold (r:=r) h2.1
  exact⟨a1,fun p=>by rw[List.foldl_cons,a2,h2.2,List.mem_cons,or_assoc]⟩
theorem keyL_mem:∀{cs:List Cu}{a:List Prm},a.Nodup→(keyL cs a).Nodup∧∀p,p∈keyL cs a↔p∈a∨∃c∈cs,p∈c.moves.map Mov.prm
 |[],a,h=>⟨h,fun p=>by simp[keyL]⟩
 |c::r,a,h=>by
  obtain⟨b1,b2⟩:=insK_fold (r:=c.moves.map Mov.prm) h
  obtain⟨a1,a2⟩:=keyL_mem (cs:=r) b1
  exact⟨a1,fun p=>by
   rw[show keyL (c::r) a=keyL r ((c.moves.map Mov.prm).foldl insK a) from rfl,a2,b2]
   constructor
   ·rintro((h|h)|⟨c',h1,h2⟩)
    ·exact .inl h
    ·exact .inr ⟨c,List.mem_cons_self ..,h⟩
    ·exact .inr ⟨c',List.mem_cons_of_mem _ h1,h2⟩
   ·rintro(h|⟨c',h1,h2⟩)
    ·exact .inl (.inl h)
    ·rcases List.mem_cons.1 h1 with rfl|h1
     ·exact .inl (.inr h2)
     ·exact .inr ⟨c',h1,h2⟩⟩
theorem ftpL_nodup:(ftpL x).Nodup:=sortO_perm.nodup_iff.2 (keyL_mem List.nodup_nil).1
theorem ftpL_mem {p:Prm}:p∈ftpL x↔∃c∈x.cues,p∈c.moves.map Mov.prm:=by
 rw[ftpL,sortO_perm.mem_iff,(keyL_mem List.nodup_nil).2];simp
end
def fk (M:List Mov)(n:Int):Option Mov:=M.find? fun y=>decide (keyM y=n)
theorem fk_ins {M:List Mov}{m:Mov}(ha:Asc keyM M){n:Int}:fk (insT keyM m M) n=if keyM m=n then some m else fk M n:=by
 have h1:∀y∈M.filter (fun y=>decide (keyM y<keyM m)),keyM y<keyM m:=fun y hy=>by simpa using(List.mem_filter.1 hy).2
 split
 ·rename_i e
  rw[fk,insT,List.find?_append,List.find?_eq_none.2,List.find?_cons_of_pos (by simpa using e)]
  ·rfl
  ·intro y hy;have:=h1 y hy;simp;omega
 ·rename_i e
  have hs:=fil_split (key:=keyM) (v:=keyM m) ha
  have hd:fk (delT keyM (keyM m) M) n=fk M n:=by
   rw[fk,delT,List.find?_filter]
   refine find_congr fun y _=>?_
   rw[decide_eq_decide];simp only[decide_eq_true_eq]
   exact⟨fun h=>h.2,fun h=>⟨fun e2=>e (e2▸h),h⟩⟩
  rw[←hd,←hs,fk,fk,insT,List.find?_append,List.find?_append,List.find?_cons_of_neg (by simpa using e)]
theorem keyN_inj {p q:Prm}(hp:prmC 1 p=0)(hq:prmC 1 q=0)(h:keyN p=keyN q):p=q:=by
 have h1:=prm_rng hp
 have h2:=prm_rng hq
 unfold keyN at h
 cases p;cases q;simp only[Prm.mk.injEq]at *;omega
theorem movF_fk {l:List Mov}{p:Prm}(hl:∀q∈l,prmC 1 q.prm=0)(hp:prmC 1 p=0):movF l p=(fk l (keyN p)).map Mov.val:=by
 unfold movF fk
 congr 1
 refine find_congr fun m hm=>?_
 rw[Bool.eq_iff_iff]
 simp only[Bool.and_eq_true,decide_eq_true_eq]
 exact⟨fun h=>by unfold keyM keyN;rw[h.1,h.2],fun h=>by rw[keyN_inj (hl m hm) hp h];exact⟨rfl,rfl⟩⟩
def okF (q:Mov):Prop:=valC q.val=0∧¬(q.part<1∨4<q.part)
theorem movsR_fld {l:List Mov}:∀{r:List Mov}{j:Nat},movsR l r j=0→∀q∈r,okF q
 |[],_,_,q,hq=>by simp at hq
 |x::r,j,h,q,hq=>by
  rw[movsR]at h
  repeat' split at h
  all_goals first|(rename_i a;exact absurd h a)|cases h|skip
  rename_i a b c _
  rcases List.mem_cons.1 hq with rfl|hq
  ·exact⟨Classical.not_not.1 b,c⟩
  ·exact movsR_fld h q hq
theorem cue_fld {x:Lst}(h:lstP x=0):∀c∈x.cues,∀q∈c.moves,okF q:=fun c hc=>by
 obtain⟨h1,h2,h3,h4,h5⟩:=cue_parts (lst_cue h c hc)
 rw[movC_eq]at h3
 unfold movCR at h3
 split at h3
 ·cases h3
 ·exact movsR_fld h3
theorem movsR_of {l:List Mov}(h1:∀q∈l,prmC 1 q.prm=0∧okF q)(h2:Asc keyM l):∀(r:List Mov) (j:Nat),l.drop j=r→movsR l r j=0
 |[],_,_=>rfl
 |q::r,j,hd=>by
  obtain⟨a,b,c⟩:=h1 q (mem_at hd)
  have hj:=drop_le hd
  rw[movsR,if_neg (fun e=>e a),if_neg (fun e=>e b),if_neg c,if_neg ?_,movsR_of h1 h2 r (j+1) (drop_succ hd)]
  rintro⟨h3,h4⟩
  have e1:l.getD (j-1) default=l[j-1]:=by rw[List.getD_eq_getElem?_getD,List.getElem?_eq_getElem (by omega)];rfl
  have e2:l[j]?=some q:=by rw[←List.head?_drop,hd];rfl
  have e3:l[j]=q:=by rw[List.getElem?_eq_getElem hj]at e2;exact Option.some.inj e2
  have:=List.pairwise_iff_getElem.1 h2 (j-1) j (by omega) hj (by omega)
  have p1:=prm_rng (h1 l[j-1] (List.getElem_mem _)).1
  have p2:=prm_rng a
  rw[e1]at h4;rw[e3]at this
  unfold keyM keyN at this
  have:befP l[j-1].prm q.prm=true:=befP_iff.2 (by omega)
  rw[this]at h4;cases h4
theorem movCP_of {l:List Mov}(h0:l.length≤128)(h1:∀q∈l,prmC 1 q.prm=0∧okF q)(h2:Asc keyM l):movCP l=0:=by
 rw[movC_eq,movCR,if_neg (by omega)];exact movsR_of h1 h2 l 0 rfl
structure Acc (x:Lst) (M:List Mov):Prop where
 asc:Asc keyM M
 fld:∀q∈M,okF q
 rng:∀q∈M,prmC 1 q.prm=0
 ftp:∀q∈M,q.prm∈ftpL x
theorem mrg_mem:∀{r M:List Mov}{q:Mov},q∈mrg M r→q∈M∨q∈r
 |[],_,_,h=>.inl h
 |m::r,M,q,h=>by
  rcases mrg_mem (r:=r) (M:=insT keyM m M) h with h|h
  ·simp only[insT,List.mem_append,List.mem_cons,List.mem_filter]at h
   rcases h with h|rfl|h
   ·exact .inl h.1
   ·exact .inr (List.mem_cons_self ..)
   ·exact .inl h.1
  ·exact .inr (List.mem_cons_of_mem _ h)
theorem Acc.nil {x:Lst}:Acc x []:=⟨List.Pairwise.nil,by simp,by simp,by simp⟩
theorem ix_at {α:Type}[Inhabited α]{p:α→Bool}:∀{l:List α}{j k:Nat},k<l.length→p (l.getD k default)=true→(∀i,i<k→p (l.getD i default)=false)→ix p l j=((j+k:Nat):Int)
 |[],_,k,h,_,_=>by simp at h
 |y::r,j,0,_,h,_=>by
  have h:p y=true:=by simpa using h
  unfold ix;rw[if_pos h];simp
 |y::r,j,k+1,hk,h,hn=>by
  have h0:p y=false:=by simpa using hn 0 (by omega)
  unfold ix;rw[if_neg (by rw[h0];simp)]
  rw[ix_at (l:=r) (j:=j+1) (k:=k) (by simpa using hk) (by simpa using h) (fun i hi=>by simpa using hn (i+1) (by omega))]
  congr 1;omega
theorem cuesP_asc {l:List Cu}:∀{r:List Cu}{j:Nat},l.drop j=r→cuesP l r j=0→(∀q∈r,numC q.num=0)→((l.take j).Pairwise fun a b=>valN a.num<valN b.num)→(∀q∈l.take j,numC q.num=0)→l.Pairwise fun a b=>valN a.num<valN b.num
 |[],j,hd,_,_,hp,_=>by
  have:l.length≤j:=List.drop_eq_nil_iff.1 hd
  rwa [List.take_of_length_le this]at hp
 |q::r,j,hd,h,hq,hp,hn=>by
  rw[cuesP]at h
  split at h
  ·rename_i a;exact absurd h a
  ·split at h
   ·cases h
   ·rename_i a b
    have hj:=drop_le hd
    have hq0:=hq q (List.mem_cons_self ..)
    refine cuesP_asc (drop_succ hd) h (fun y hy=>hq y (List.mem_cons_of_mem _ hy)) ?_ ?_
    ·rw[take_snoc hd]
     refine List.pairwise_append.2 ⟨hp,List.pairwise_singleton ..,fun y hy z hz=>?_⟩
     rw[List.mem_singleton.1 hz]
     obtain⟨k,hk⟩:=List.mem_iff_getElem?.1 hy
     rw[List.getElem?_take]at hk
     split at hk
     ·rename_i hkj
      have e:l.getD (j-1) default=l[j-1]:=by rw[List.getD_eq_getElem?_getD,List.getElem?_eq_getElem (by omega)];rfl
      have hl:valN l[j-1].num<valN q.num:=by
       have hm:l[j-1]∈l.take j:=List.mem_iff_getElem?.2 ⟨j-1,by rw[List.getElem?_take,if_pos (by omega),List.getElem?_eq_getElem (by omega)]⟩
       have hb:¬0≤cmpN (l.getD (j-1) default).num q.num:=fun e=>b ⟨by omega,e⟩
       rw[e]at hb
       unfold cmpN at hb
       rw[if_neg (by simp[hn _ hm,hq0])]at hb
       repeat' split at hb
       all_goals first|assumption|omega
      rcases Nat.lt_or_ge k (j-1) with hlt|hge
      ·have h3:=List.pairwise_iff_getElem.1 hp k (j-1) (by rw[List.length_take];omega) (by rw[List.length_take];omega) hlt
       rw[List.getElem_take,List.getElem_take]at h3
       rw[List.getElem?_eq_getElem (by omega)]at hk
       cases hk
       omega
      ·have:k=j-1:=by omega
       subst this
       rw[List.getElem?_eq_getElem (by omega)]at hk
       cases hk
       exact hl
     ·cases hk
    ·rw[take_snoc hd]
     intro y hy
     rcases List.mem_append.1 hy with hy|hy
     ·exact hn y hy
     ·rw[List.mem_singleton.1 hy];exact hq0
theorem lst_asc {x:Lst}(h:lstP x=0):x.cues.Pairwise fun a b=>valN a.num<valN b.num:=by
 have hn:=(lst_parts h).2.2.2
 unfold lstP at h
 split at h
 ·cases h
 ·split at h
  ·cases h
  ·exact cuesP_asc (j:=0) rfl h hn List.Pairwise.nil (by simp)
theorem plc_own {x:Lst}(h:lstP x=0){k:Nat}(hk:k<x.cues.length):plcE x (x.cues.getD k default).num=0∧plcV x (x.cues.getD k default).num=k:=by
 have ha:=lst_asc h
 have hm:x.cues.getD k default∈x.cues:=by rw[List.getD_eq_getElem?_getD,List.getElem?_eq_getElem hk];exact List.getElem_mem hk
 have hn:=(lst_parts h).2.2.2 _ hm
 have hi:ix (fun c:Cu=>c.num == (x.cues.getD k default).num) x.cues 0=((0+k:Nat):Int):=ix_at hk (by simp) fun i hi=>by
  have:=List.pairwise_iff_getElem.1 ha i k (by omega) hk hi
  have e:∀j (hj:j<x.cues.length),x.cues.getD j default=x.cues[j]:=fun j hj=>by rw[List.getD_eq_getElem?_getD,List.getElem?_eq_getElem hj];rfl
  rw[e i (by omega),e k hk]
  simp only[beq_eq_false_iff_ne,ne_eq]
  intro e2;rw[e2]at this;omega
 have he:plcE x (x.cues.getD k default).num=0:=by
  rw[plcE,if_neg (fun e=>e h),if_neg (fun e=>e hn),hi,if_neg (by omega)]
 exact⟨he,by rw[plcV,if_pos he,hi];simp⟩
end Go.Proofs.YtdnpaifeoinjoaaGreatDoor

namespace Go.Proofs.YtdnpaifeoinjoaaGreatDoor
open Go.Sha
set_option maxRecDepth 100000
end Go.Proofs.YtdnpaifeoinjoaaGreatDoor

namespace Go.Proofs.YtdnpaifeoinjoaaGreatDoor
open Go.Sha
set_option maxRecDepth 100000
variable {g:List (Nat×Obj)}{n:Nat}
end Go.Proofs.YtdnpaifeoinjoaaGreatDoor

namespace Go.Proofs.YtdnpaifeoinjoaaGreatDoor
open Go.Sha
def Pt.sh:List CSh:=[.int .i64,.int .i64]
structure Pt.Dk (z:Pt):Prop where
 x:-9223372036854775808≤z.x∧z.x≤9223372036854775807
 y:-9223372036854775808≤z.y∧z.y≤9223372036854775807
theorem Pt.rd {vs:List V}(h:OkCs Pt.sh vs):∃x:Pt,V.agg vs=x.v∧x.Dk:=by
 obtain⟨v0,r0,rfl,h0,t0⟩:=h.cons_inv
 obtain⟨v1,r1,rfl,h1,t1⟩:=t0.cons_inv
 obtain rfl:=t1.nil_inv
 obtain⟨y0,rfl,b0⟩:=h0.i64_inv
 obtain⟨y1,rfl,b1⟩:=h1.i64_inv
 exact⟨⟨y0,y1⟩,rfl,⟨b0,b1⟩⟩
def Slt.sh:List CSh:=[.str,.int .i64,.int .i64]
structure Slt.Dk (z:Slt):Prop where
 name:z.name.length≤140737488351232
 fr:-9223372036854775808≤z.fr∧z.fr≤9223372036854775807
 to_:-9223372036854775808≤z.to_∧z.to_≤9223372036854775807
theorem Slt.rd {vs:List V}(h:OkCs Slt.sh vs):∃x:Slt,V.agg vs=x.v∧x.Dk:=by
 obtain⟨v0,r0,rfl,h0,t0⟩:=h.cons_inv
 obtain⟨v1,r1,rfl,h1,t1⟩:=t0.cons_inv
 obtain⟨v2,r2,rfl,h2,t2⟩:=t1.cons_inv
 obtain rfl:=t2.nil_inv
 obtain⟨y0,rfl,b0⟩:=h0.str_inv
 obtain⟨y1,rfl,b1⟩:=h1.i64_inv
 obtain⟨y2,rfl,b2⟩:=h2.i64_inv
 exact⟨⟨y0,y1,y2⟩,rfl,⟨b0,b1,b2⟩⟩
def Ftr.sh:List CSh:=[.int .i64,.int .i64,.int .i64,.int .i64,.int .i64,.int .i64,.int .i64,.int .i64,.bool,.sl true 32 Slt.sh]
structure Ftr.Dk (z:Ftr):Prop where
 attr:-9223372036854775808≤z.attr∧z.attr≤9223372036854775807
 bits:-9223372036854775808≤z.bits∧z.bits≤9223372036854775807
 coarse:-9223372036854775808≤z.coarse∧z.coarse≤9223372036854775807
 fine:-9223372036854775808≤z.fine∧z.fine≤9223372036854775807
 curve:-9223372036854775808≤z.curve∧z.curve≤9223372036854775807
 home:-9223372036854775808≤z.home∧z.home≤9223372036854775807
 low:-9223372036854775808≤z.low∧z.low≤9223372036854775807
 high:-9223372036854775808≤z.high∧z.high≤9223372036854775807
 snap:True
 wheel:z.wheel.length≤140737488351232∧∀q∈z.wheel,q.Dk
theorem Ftr.rd {vs:List V}(h:OkCs Ftr.sh vs):∃x:Ftr,V.agg vs=x.v∧x.Dk:=by
 obtain⟨v0,r0,rfl,h0,t0⟩:=h.cons_inv
 obtain⟨v1,r1,rfl,h1,t1⟩:=t0.cons_inv
 obtain⟨v2,r2,rfl,h2,t2⟩:=t1.cons_inv
 obtain⟨v3,r3,rfl,h3,t3⟩:=t2.cons_inv
 obtain⟨v4,r4,rfl,h4,t4⟩:=t3.cons_inv
 obtain⟨v5,r5,rfl,h5,t5⟩:=t4.cons_inv
 obtain⟨v6,r6,rfl,h6,t6⟩:=t5.cons_inv
 obtain⟨v7,r7,rfl,h7,t7⟩:=t6.cons_inv
 obtain⟨v8,r8,rfl,h8,t8⟩:=t7.cons_inv
 obtain⟨v9,r9,rfl,h9,t9⟩:=t8.cons_inv
 obtain rfl:=t9.nil_inv
 obtain⟨y0,rfl,b0⟩:=h0.i64_inv
 obtain⟨y1,rfl,b1⟩:=h1.i64_inv
 obtain⟨y2,rfl,b2⟩:=h2.i64_inv
 obtain⟨y3,rfl,b3⟩:=h3.i64_inv
 obtain⟨y4,rfl,b4⟩:=h4.i64_inv
 obtain⟨y5,rfl,b5⟩:=h5.i64_inv
 obtain⟨y6,rfl,b6⟩:=h6.i64_inv
 obtain⟨y7,rfl,b7⟩:=h7.i64_inv
 obtain⟨y8,rfl⟩:=h8.bool_inv
 have b8:=trivial
 obtain⟨y9,rfl,b9⟩:=h9.agg_inv (f:=Slt.v) (by decide) (fun _=>Slt.rd)
 exact⟨⟨y0,y1,y2,y3,y4,y5,y6,y7,y8,y9⟩,rfl,⟨b0,b1,b2,b3,b4,b5,b6,b7,b8,b9⟩⟩
def Prof.sh:List CSh:=[.str,.int .i64,.int .i64,.sl true 96 Ftr.sh]
structure Prof.Dk (z:Prof):Prop where
 name:z.name.length≤140737488351232
 foot:-9223372036854775808≤z.foot∧z.foot≤9223372036854775807
 watts:-9223372036854775808≤z.watts∧z.watts≤9223372036854775807
 feats:z.feats.length≤140737488351232∧∀q∈z.feats,q.Dk
theorem Prof.rd {vs:List V}(h:OkCs Prof.sh vs):∃x:Prof,V.agg vs=x.v∧x.Dk:=by
 obtain⟨v0,r0,rfl,h0,t0⟩:=h.cons_inv
 obtain⟨v1,r1,rfl,h1,t1⟩:=t0.cons_inv
 obtain⟨v2,r2,rfl,h2,t2⟩:=t1.cons_inv
 obtain⟨v3,r3,rfl,h3,t3⟩:=t2.cons_inv
 obtain rfl:=t3.nil_inv
 obtain⟨y0,rfl,b0⟩:=h0.str_inv
 obtain⟨y1,rfl,b1⟩:=h1.i64_inv
 obtain⟨y2,rfl,b2⟩:=h2.i64_inv
 obtain⟨y3,rfl,b3⟩:=h3.agg_inv (f:=Ftr.v) (by decide) (fun _=>Ftr.rd)
 exact⟨⟨y0,y1,y2,y3⟩,rfl,⟨b0,b1,b2,b3⟩⟩
def Fixt.sh:List CSh:=[.int .i64,.int .i64,.str,.int .i64,.int .i64,.int .i64,.str]
structure Fixt.Dk (z:Fixt):Prop where
 chan:-9223372036854775808≤z.chan∧z.chan≤9223372036854775807
 part:-9223372036854775808≤z.part∧z.part≤9223372036854775807
 prof:z.prof.length≤140737488351232
 univ:-9223372036854775808≤z.univ∧z.univ≤9223372036854775807
 addr:-9223372036854775808≤z.addr∧z.addr≤9223372036854775807
 phase:-9223372036854775808≤z.phase∧z.phase≤9223372036854775807
 cable:z.cable.length≤140737488351232
theorem Fixt.rd {vs:List V}(h:OkCs Fixt.sh vs):∃x:Fixt,V.agg vs=x.v∧x.Dk:=by
 obtain⟨v0,r0,rfl,h0,t0⟩:=h.cons_inv
 obtain⟨v1,r1,rfl,h1,t1⟩:=t0.cons_inv
 obtain⟨v2,r2,rfl,h2,t2⟩:=t1.cons_inv
 obtain⟨v3,r3,rfl,h3,t3⟩:=t2.cons_inv
 obtain⟨v4,r4,rfl,h4,t4⟩:=t3.cons_inv
 obtain⟨v5,r5,rfl,h5,t5⟩:=t4.cons_inv
 obtain⟨v6,r6,rfl,h6,t6⟩:=t5.cons_inv
 obtain rfl:=t6.nil_inv
 obtain⟨y0,rfl,b0⟩:=h0.i64_inv
 obtain⟨y1,rfl,b1⟩:=h1.i64_inv
 obtain⟨y2,rfl,b2⟩:=h2.str_inv
 obtain⟨y3,rfl,b3⟩:=h3.i64_inv
 obtain⟨y4,rfl,b4⟩:=h4.i64_inv
 obtain⟨y5,rfl,b5⟩:=h5.i64_inv
 obtain⟨y6,rfl,b6⟩:=h6.str_inv
 exact⟨⟨y0,y1,y2,y3,y4,y5,y6⟩,rfl,⟨b0,b1,b2,b3,b4,b5,b6⟩⟩
def Prm.sh:List CSh:=[.int .i64,.int .i64]
structure Prm.Dk (z:Prm):Prop where
 chan:-9223372036854775808≤z.chan∧z.chan≤9223372036854775807
 attr:-9223372036854775808≤z.attr∧z.attr≤9223372036854775807
theorem Prm.rd {vs:List V}(h:OkCs Prm.sh vs):∃x:Prm,V.agg vs=x.v∧x.Dk:=by
 obtain⟨v0,r0,rfl,h0,t0⟩:=h.cons_inv
 obtain⟨v1,r1,rfl,h1,t1⟩:=t0.cons_inv
 obtain rfl:=t1.nil_inv
 obtain⟨y0,rfl,b0⟩:=h0.i64_inv
 obtain⟨y1,rfl,b1⟩:=h1.i64_inv
 exact⟨⟨y0,y1⟩,rfl,⟨b0,b1⟩⟩
def Val.sh:List CSh:=[.int .i64,.int .i64]
structure Val.Dk (z:Val):Prop where
 pal:-9223372036854775808≤z.pal∧z.pal≤9223372036854775807
 lev:-9223372036854775808≤z.lev∧z.lev≤9223372036854775807
theorem Val.rd {vs:List V}(h:OkCs Val.sh vs):∃x:Val,V.agg vs=x.v∧x.Dk:=by
 obtain⟨v0,r0,rfl,h0,t0⟩:=h.cons_inv
 obtain⟨v1,r1,rfl,h1,t1⟩:=t0.cons_inv
 obtain rfl:=t1.nil_inv
 obtain⟨y0,rfl,b0⟩:=h0.i64_inv
 obtain⟨y1,rfl,b1⟩:=h1.i64_inv
 exact⟨⟨y0,y1⟩,rfl,⟨b0,b1⟩⟩
def Grp.sh:List CSh:=[.int .i64,.sl false 8 [.int .i64]]
structure Grp.Dk (z:Grp):Prop where
 num:-9223372036854775808≤z.num∧z.num≤9223372036854775807
 chans:z.chans.length≤140737488351232∧∀q∈z.chans,-9223372036854775808≤q∧q≤9223372036854775807
theorem Grp.rd {vs:List V}(h:OkCs Grp.sh vs):∃x:Grp,V.agg vs=x.v∧x.Dk:=by
 obtain⟨v0,r0,rfl,h0,t0⟩:=h.cons_inv
 obtain⟨v1,r1,rfl,h1,t1⟩:=t0.cons_inv
 obtain rfl:=t1.nil_inv
 obtain⟨y0,rfl,b0⟩:=h0.i64_inv
 obtain⟨y1,rfl,b1⟩:=h1.one_inv (f:=V.int .i64) (by decide) (fun v h=>h.i64_inv)
 exact⟨⟨y0,y1⟩,rfl,⟨b0,b1⟩⟩
def Hue.sh:List CSh:=[.int .i64,.int .i64,.int .i64]
structure Hue.Dk (z:Hue):Prop where
 chan:-9223372036854775808≤z.chan∧z.chan≤9223372036854775807
 attr:-9223372036854775808≤z.attr∧z.attr≤9223372036854775807
 lev:-9223372036854775808≤z.lev∧z.lev≤9223372036854775807
theorem Hue.rd {vs:List V}(h:OkCs Hue.sh vs):∃x:Hue,V.agg vs=x.v∧x.Dk:=by
 obtain⟨v0,r0,rfl,h0,t0⟩:=h.cons_inv
 obtain⟨v1,r1,rfl,h1,t1⟩:=t0.cons_inv
 obtain⟨v2,r2,rfl,h2,t2⟩:=t1.cons_inv
 obtain rfl:=t2.nil_inv
 obtain⟨y0,rfl,b0⟩:=h0.i64_inv
 obtain⟨y1,rfl,b1⟩:=h1.i64_inv
 obtain⟨y2,rfl,b2⟩:=h2.i64_inv
 exact⟨⟨y0,y1,y2⟩,rfl,⟨b0,b1,b2⟩⟩
def Pal.sh:List CSh:=[.int .i64,.sl true 24 Hue.sh]
structure Pal.Dk (z:Pal):Prop where
 num:-9223372036854775808≤z.num∧z.num≤9223372036854775807
 hues:z.hues.length≤140737488351232∧∀q∈z.hues,q.Dk
theorem Pal.rd {vs:List V}(h:OkCs Pal.sh vs):∃x:Pal,V.agg vs=x.v∧x.Dk:=by
 obtain⟨v0,r0,rfl,h0,t0⟩:=h.cons_inv
 obtain⟨v1,r1,rfl,h1,t1⟩:=t0.cons_inv
 obtain rfl:=t1.nil_inv
 obtain⟨y0,rfl,b0⟩:=h0.i64_inv
 obtain⟨y1,rfl,b1⟩:=h1.agg_inv (f:=Hue.v) (by decide) (fun _=>Hue.rd)
 exact⟨⟨y0,y1⟩,rfl,⟨b0,b1⟩⟩
def Tim.sh:List CSh:=[.int .i64,.int .i64,.int .i64,.int .i64,.int .i64,.int .i64]
structure Tim.Dk (z:Tim):Prop where
 up:-9223372036854775808≤z.up∧z.up≤9223372036854775807
 down:-9223372036854775808≤z.down∧z.down≤9223372036854775807
 posi:-9223372036854775808≤z.posi∧z.posi≤9223372036854775807
 colour:-9223372036854775808≤z.colour∧z.colour≤9223372036854775807
 beam:-9223372036854775808≤z.beam∧z.beam≤9223372036854775807
 delay:-9223372036854775808≤z.delay∧z.delay≤9223372036854775807
theorem Tim.rd {vs:List V}(h:OkCs Tim.sh vs):∃x:Tim,V.agg vs=x.v∧x.Dk:=by
 obtain⟨v0,r0,rfl,h0,t0⟩:=h.cons_inv
 obtain⟨v1,r1,rfl,h1,t1⟩:=t0.cons_inv
 obtain⟨v2,r2,rfl,h2,t2⟩:=t1.cons_inv
 obtain⟨v3,r3,rfl,h3,t3⟩:=t2.cons_inv
 obtain⟨v4,r4,rfl,h4,t4⟩:=t3.cons_inv
 obtain⟨v5,r5,rfl,h5,t5⟩:=t4.cons_inv
 obtain rfl:=t5.nil_inv
 obtain⟨y0,rfl,b0⟩:=h0.i64_inv
 obtain⟨y1,rfl,b1⟩:=h1.i64_inv
 obtain⟨y2,rfl,b2⟩:=h2.i64_inv
 obtain⟨y3,rfl,b3⟩:=h3.i64_inv
 obtain⟨y4,rfl,b4⟩:=h4.i64_inv
 obtain⟨y5,rfl,b5⟩:=h5.i64_inv
 exact⟨⟨y0,y1,y2,y3,y4,y5⟩,rfl,⟨b0,b1,b2,b3,b4,b5⟩⟩
def Mov.sh:List CSh:=[.int .i64,.int .i64,.int .i64,.int .i64,.int .i64]
structure Mov.Dk (z:Mov):Prop where
 prm:z.prm.Dk
 val:z.val.Dk
 part:-9223372036854775808≤z.part∧z.part≤9223372036854775807
theorem Mov.rd {vs:List V}(h:OkCs Mov.sh vs):∃x:Mov,V.agg vs=x.v∧x.Dk:=by
 obtain⟨v0,r0,rfl,h0,t0⟩:=h.cons_inv
 obtain⟨v1,r1,rfl,h1,t1⟩:=t0.cons_inv
 obtain⟨v2,r2,rfl,h2,t2⟩:=t1.cons_inv
 obtain⟨v3,r3,rfl,h3,t3⟩:=t2.cons_inv
 obtain⟨v4,r4,rfl,h4,t4⟩:=t3.cons_inv
 obtain rfl:=t4.nil_inv
 obtain⟨y0,rfl,b0⟩:=h0.i64_inv
 obtain⟨y1,rfl,b1⟩:=h1.i64_inv
 obtain⟨y2,rfl,b2⟩:=h2.i64_inv
 obtain⟨y3,rfl,b3⟩:=h3.i64_inv
 obtain⟨y4,rfl,b4⟩:=h4.i64_inv
 exact⟨⟨⟨y0,y1⟩,⟨y2,y3⟩,y4⟩,rfl,⟨⟨b0,b1⟩,⟨b2,b3⟩,b4⟩⟩
def Cu.sh:List CSh:=[.str,.str,.sl true 40 Mov.sh,.sl true 48 Tim.sh,.bool,.bool,.int .i64,.str,.int .i64]
structure Cu.Dk (z:Cu):Prop where
 num:z.num.length≤140737488351232
 label:z.label.length≤140737488351232
 moves:z.moves.length≤140737488351232∧∀q∈z.moves,q.Dk
 parts:z.parts.length≤140737488351232∧∀q∈z.parts,q.Dk
 block:True
 mark:True
 follow:-9223372036854775808≤z.follow∧z.follow≤9223372036854775807
 link:z.link.length≤140737488351232
 loops:-9223372036854775808≤z.loops∧z.loops≤9223372036854775807
theorem Cu.rd {vs:List V}(h:OkCs Cu.sh vs):∃x:Cu,V.agg vs=x.v∧x.Dk:=by
 obtain⟨v0,r0,rfl,h0,t0⟩:=h.cons_inv
 obtain⟨v1,r1,rfl,h1,t1⟩:=t0.cons_inv
 obtain⟨v2,r2,rfl,h2,t2⟩:=t1.cons_inv
 obtain⟨v3,r3,rfl,h3,t3⟩:=t2.cons_inv
 obtain⟨v4,r4,rfl,h4,t4⟩:=t3.cons_inv
 obtain⟨v5,r5,rfl,h5,t5⟩:=t4.cons_inv
 obtain⟨v6,r6,rfl,h6,t6⟩:=t5.cons_inv
 obtain⟨v7,r7,rfl,h7,t7⟩:=t6.cons_inv
 obtain⟨v8,r8,rfl,h8,t8⟩:=t7.cons_inv
 obtain rfl:=t8.nil_inv
 obtain⟨y0,rfl,b0⟩:=h0.str_inv
 obtain⟨y1,rfl,b1⟩:=h1.str_inv
 obtain⟨y2,rfl,b2⟩:=h2.agg_inv (f:=Mov.v) (by decide) (fun _=>Mov.rd)
 obtain⟨y3,rfl,b3⟩:=h3.agg_inv (f:=Tim.v) (by decide) (fun _=>Tim.rd)
 obtain⟨y4,rfl⟩:=h4.bool_inv
 have b4:=trivial
 obtain⟨y5,rfl⟩:=h5.bool_inv
 have b5:=trivial
 obtain⟨y6,rfl,b6⟩:=h6.i64_inv
 obtain⟨y7,rfl,b7⟩:=h7.str_inv
 obtain⟨y8,rfl,b8⟩:=h8.i64_inv
 exact⟨⟨y0,y1,y2,y3,y4,y5,y6,y7,y8⟩,rfl,⟨b0,b1,b2,b3,b4,b5,b6,b7,b8⟩⟩
def Lst.sh:List CSh:=[.int .i64,.int .i64,.sl true 120 Cu.sh]
structure Lst.Dk (z:Lst):Prop where
 num:-9223372036854775808≤z.num∧z.num≤9223372036854775807
 prio:-9223372036854775808≤z.prio∧z.prio≤9223372036854775807
 cues:z.cues.length≤140737488351232∧∀q∈z.cues,q.Dk
theorem Lst.rd {vs:List V}(h:OkCs Lst.sh vs):∃x:Lst,V.agg vs=x.v∧x.Dk:=by
 obtain⟨v0,r0,rfl,h0,t0⟩:=h.cons_inv
 obtain⟨v1,r1,rfl,h1,t1⟩:=t0.cons_inv
 obtain⟨v2,r2,rfl,h2,t2⟩:=t1.cons_inv
 obtain rfl:=t2.nil_inv
 obtain⟨y0,rfl,b0⟩:=h0.i64_inv
 obtain⟨y1,rfl,b1⟩:=h1.i64_inv
 obtain⟨y2,rfl,b2⟩:=h2.agg_inv (f:=Cu.v) (by decide) (fun _=>Cu.rd)
 exact⟨⟨y0,y1,y2⟩,rfl,⟨b0,b1,b2⟩⟩
def Gan.sh:List CSh:=[.int .i64,.int .i64,.int .i64]
structure Gan.Dk (z:Gan):Prop where
 prm:z.prm.Dk
 lev:-9223372036854775808≤z.lev∧z.lev≤9223372036854775807
theorem Gan.rd {vs:List V}(h:OkCs Gan.sh vs):∃x:Gan,V.agg vs=x.v∧x.Dk:=by
 obtain⟨v0,r0,rfl,h0,t0⟩:=h.cons_inv
 obtain⟨v1,r1,rfl,h1,t1⟩:=t0.cons_inv
 obtain⟨v2,r2,rfl,h2,t2⟩:=t1.cons_inv
 obtain rfl:=t2.nil_inv
 obtain⟨y0,rfl,b0⟩:=h0.i64_inv
 obtain⟨y1,rfl,b1⟩:=h1.i64_inv
 obtain⟨y2,rfl,b2⟩:=h2.i64_inv
 exact⟨⟨⟨y0,y1⟩,y2⟩,rfl,⟨⟨b0,b1⟩,b2⟩⟩
def Sb.sh:List CSh:=[.int .i64,.int .i64,.bool,.sl true 24 Gan.sh]
structure Sb.Dk (z:Sb):Prop where
 num:-9223372036854775808≤z.num∧z.num≤9223372036854775807
 prio:-9223372036854775808≤z.prio∧z.prio≤9223372036854775807
 inh:True
 gains:z.gains.length≤140737488351232∧∀q∈z.gains,q.Dk
theorem Sb.rd {vs:List V}(h:OkCs Sb.sh vs):∃x:Sb,V.agg vs=x.v∧x.Dk:=by
 obtain⟨v0,r0,rfl,h0,t0⟩:=h.cons_inv
 obtain⟨v1,r1,rfl,h1,t1⟩:=t0.cons_inv
 obtain⟨v2,r2,rfl,h2,t2⟩:=t1.cons_inv
 obtain⟨v3,r3,rfl,h3,t3⟩:=t2.cons_inv
 obtain rfl:=t3.nil_inv
 obtain⟨y0,rfl,b0⟩:=h0.i64_inv
 obtain⟨y1,rfl,b1⟩:=h1.i64_inv
 obtain⟨y2,rfl⟩:=h2.bool_inv
 have b2:=trivial
 obtain⟨y3,rfl,b3⟩:=h3.agg_inv (f:=Gan.v) (by decide) (fun _=>Gan.rd)
 exact⟨⟨y0,y1,y2,y3⟩,rfl,⟨b0,b1,b2,b3⟩⟩
def Eff.sh:List CSh:=[.int .i64,.int .i64,.sl true 16 Pt.sh,.int .i64,.int .i64,.int .i64]
structure Eff.Dk (z:Eff):Prop where
 num:-9223372036854775808≤z.num∧z.num≤9223372036854775807
 attr:-9223372036854775808≤z.attr∧z.attr≤9223372036854775807
 wave:z.wave.length≤140737488351232∧∀q∈z.wave,q.Dk
 period:-9223372036854775808≤z.period∧z.period≤9223372036854775807
 spread:-9223372036854775808≤z.spread∧z.spread≤9223372036854775807
 size:-9223372036854775808≤z.size∧z.size≤9223372036854775807
theorem Eff.rd {vs:List V}(h:OkCs Eff.sh vs):∃x:Eff,V.agg vs=x.v∧x.Dk:=by
 obtain⟨v0,r0,rfl,h0,t0⟩:=h.cons_inv
 obtain⟨v1,r1,rfl,h1,t1⟩:=t0.cons_inv
 obtain⟨v2,r2,rfl,h2,t2⟩:=t1.cons_inv
 obtain⟨v3,r3,rfl,h3,t3⟩:=t2.cons_inv
 obtain⟨v4,r4,rfl,h4,t4⟩:=t3.cons_inv
 obtain⟨v5,r5,rfl,h5,t5⟩:=t4.cons_inv
 obtain rfl:=t5.nil_inv
 obtain⟨y0,rfl,b0⟩:=h0.i64_inv
 obtain⟨y1,rfl,b1⟩:=h1.i64_inv
 obtain⟨y2,rfl,b2⟩:=h2.agg_inv (f:=Pt.v) (by decide) (fun _=>Pt.rd)
 obtain⟨y3,rfl,b3⟩:=h3.i64_inv
 obtain⟨y4,rfl,b4⟩:=h4.i64_inv
 obtain⟨y5,rfl,b5⟩:=h5.i64_inv
 exact⟨⟨y0,y1,y2,y3,y4,y5⟩,rfl,⟨b0,b1,b2,b3,b4,b5⟩⟩
def Sho.sh:List CSh:=[.str,.sl false 24 [.sl true 16 Pt.sh],.sl true 56 Prof.sh,.sl true 72 Fixt.sh,.sl true 32 Grp.sh,.sl true 32 Pal.sh,.sl true 40 Lst.sh,.sl true 48 Sb.sh,.sl true 64 Eff.sh]
structure Sho.Dk (z:Sho):Prop where
 title:z.title.length≤140737488351232
 curves:z.curves.length≤140737488351232∧∀l∈z.curves,l.length≤140737488351232∧∀q∈l,q.Dk
 profs:z.profs.length≤140737488351232∧∀q∈z.profs,q.Dk
 fixts:z.fixts.length≤140737488351232∧∀q∈z.fixts,q.Dk
 grps:z.grps.length≤140737488351232∧∀q∈z.grps,q.Dk
 pals:z.pals.length≤140737488351232∧∀q∈z.pals,q.Dk
 lsts:z.lsts.length≤140737488351232∧∀q∈z.lsts,q.Dk
 subs:z.subs.length≤140737488351232∧∀q∈z.subs,q.Dk
 effs:z.effs.length≤140737488351232∧∀q∈z.effs,q.Dk
theorem Sho.rd {vs:List V}(h:OkCs Sho.sh vs):∃x:Sho,V.agg vs=x.v∧x.Dk:=by
 obtain⟨v0,r0,rfl,h0,t0⟩:=h.cons_inv
 obtain⟨v1,r1,rfl,h1,t1⟩:=t0.cons_inv
 obtain⟨v2,r2,rfl,h2,t2⟩:=t1.cons_inv
 obtain⟨v3,r3,rfl,h3,t3⟩:=t2.cons_inv
 obtain⟨v4,r4,rfl,h4,t4⟩:=t3.cons_inv
 obtain⟨v5,r5,rfl,h5,t5⟩:=t4.cons_inv
 obtain⟨v6,r6,rfl,h6,t6⟩:=t5.cons_inv
 obtain⟨v7,r7,rfl,h7,t7⟩:=t6.cons_inv
 obtain⟨v8,r8,rfl,h8,t8⟩:=t7.cons_inv
 obtain rfl:=t8.nil_inv
 obtain⟨y0,rfl,b0⟩:=h0.str_inv
 obtain⟨y1,rfl,b1⟩:=h1.one_inv (f:=Pt.vs) (by decide) (fun v h=>h.agg_inv (f:=Pt.v) (by decide) (fun _=>Pt.rd))
 obtain⟨y2,rfl,b2⟩:=h2.agg_inv (f:=Prof.v) (by decide) (fun _=>Prof.rd)
 obtain⟨y3,rfl,b3⟩:=h3.agg_inv (f:=Fixt.v) (by decide) (fun _=>Fixt.rd)
 obtain⟨y4,rfl,b4⟩:=h4.agg_inv (f:=Grp.v) (by decide) (fun _=>Grp.rd)
 obtain⟨y5,rfl,b5⟩:=h5.agg_inv (f:=Pal.v) (by decide) (fun _=>Pal.rd)
 obtain⟨y6,rfl,b6⟩:=h6.agg_inv (f:=Lst.v) (by decide) (fun _=>Lst.rd)
 obtain⟨y7,rfl,b7⟩:=h7.agg_inv (f:=Sb.v) (by decide) (fun _=>Sb.rd)
 obtain⟨y8,rfl,b8⟩:=h8.agg_inv (f:=Eff.v) (by decide) (fun _=>Eff.rd)
 exact⟨⟨y0,y1,y2,y3,y4,y5,y6,y7,y8⟩,rfl,⟨b0,b1,b2,b3,b4,b5,b6,b7,b8⟩⟩
def Ent.sh:List CSh:=[.int .i64,.int .i64,.int .i64,.int .i64]
structure Ent.Dk (z:Ent):Prop where
 prm:z.prm.Dk
 val:z.val.Dk
theorem Ent.rd {vs:List V}(h:OkCs Ent.sh vs):∃x:Ent,V.agg vs=x.v∧x.Dk:=by
 obtain⟨v0,r0,rfl,h0,t0⟩:=h.cons_inv
 obtain⟨v1,r1,rfl,h1,t1⟩:=t0.cons_inv
 obtain⟨v2,r2,rfl,h2,t2⟩:=t1.cons_inv
 obtain⟨v3,r3,rfl,h3,t3⟩:=t2.cons_inv
 obtain rfl:=t3.nil_inv
 obtain⟨y0,rfl,b0⟩:=h0.i64_inv
 obtain⟨y1,rfl,b1⟩:=h1.i64_inv
 obtain⟨y2,rfl,b2⟩:=h2.i64_inv
 obtain⟨y3,rfl,b3⟩:=h3.i64_inv
 exact⟨⟨⟨y0,y1⟩,⟨y2,y3⟩⟩,rfl,⟨⟨b0,b1⟩,⟨b2,b3⟩⟩⟩
theorem Pt.inj {x y:Pt}(h:x.v=y.v):x=y:=by
 obtain⟨x0,x1⟩:=x;obtain⟨y0,y1⟩:=y
 simp only[Pt.v,V.agg.injEq,List.cons.injEq,V.int.injEq,V.str.injEq,V.bool.injEq,V.sl.injEq,true_and,and_true]at h
 obtain⟨h0,h1⟩:=h
 cases h0
 cases h1
 rfl
theorem Slt.inj {x y:Slt}(h:x.v=y.v):x=y:=by
 obtain⟨x0,x1,x2⟩:=x;obtain⟨y0,y1,y2⟩:=y
 simp only[Slt.v,V.agg.injEq,List.cons.injEq,V.int.injEq,V.str.injEq,V.bool.injEq,V.sl.injEq,true_and,and_true]at h
 obtain⟨h0,h1,h2⟩:=h
 cases h0
 cases h1
 cases h2
 rfl
theorem Ftr.inj {x y:Ftr}(h:x.v=y.v):x=y:=by
 obtain⟨x0,x1,x2,x3,x4,x5,x6,x7,x8,x9⟩:=x;obtain⟨y0,y1,y2,y3,y4,y5,y6,y7,y8,y9⟩:=y
 simp only[Ftr.v,V.agg.injEq,List.cons.injEq,V.int.injEq,V.str.injEq,V.bool.injEq,V.sl.injEq,true_and,and_true]at h
 obtain⟨h0,h1,h2,h3,h4,h5,h6,h7,h8,h9⟩:=h
 cases h0
 cases h1
 cases h2
 cases h3
 cases h4
 cases h5
 cases h6
 cases h7
 cases h8
 cases map_inj Slt.inj h9
 rfl
theorem Prof.inj {x y:Prof}(h:x.v=y.v):x=y:=by
 obtain⟨x0,x1,x2,x3⟩:=x;obtain⟨y0,y1,y2,y3⟩:=y
 simp only[Prof.v,V.agg.injEq,List.cons.injEq,V.int.injEq,V.str.injEq,V.bool.injEq,V.sl.injEq,true_and,and_true]at h
 obtain⟨h0,h1,h2,h3⟩:=h
 cases h0
 cases h1
 cases h2
 cases map_inj Ftr.inj h3
 rfl
theorem Fixt.inj {x y:Fixt}(h:x.v=y.v):x=y:=by
 obtain⟨x0,x1,x2,x3,x4,x5,x6⟩:=x;obtain⟨y0,y1,y2,y3,y4,y5,y6⟩:=y
 simp only[Fixt.v,V.agg.injEq,List.cons.injEq,V.int.injEq,V.str.injEq,V.bool.injEq,V.sl.injEq,true_and,and_true]at h
 obtain⟨h0,h1,h2,h3,h4,h5,h6⟩:=h
 cases h0
 cases h1
 cases h2
 cases h3
 cases h4
 cases h5
 cases h6
 rfl
theorem Prm.inj {x y:Prm}(h:x.v=y.v):x=y:=by
 obtain⟨x0,x1⟩:=x;obtain⟨y0,y1⟩:=y
 simp only[Prm.v,V.agg.injEq,List.cons.injEq,V.int.injEq,V.str.injEq,V.bool.injEq,V.sl.injEq,true_and,and_true]at h
 obtain⟨h0,h1⟩:=h
 cases h0
 cases h1
 rfl
theorem Val.inj {x y:Val}(h:x.v=y.v):x=y:=by
 obtain⟨x0,x1⟩:=x;obtain⟨y0,y1⟩:=y
 simp only[Val.v,V.agg.injEq,List.cons.injEq,V.int.injEq,V.str.injEq,V.bool.injEq,V.sl.injEq,true_and,and_true]at h
 obtain⟨h0,h1⟩:=h
 cases h0
 cases h1
 rfl
theorem Grp.inj {x y:Grp}(h:x.v=y.v):x=y:=by
 obtain⟨x0,x1⟩:=x;obtain⟨y0,y1⟩:=y
 simp only[Grp.v,V.agg.injEq,List.cons.injEq,V.int.injEq,V.str.injEq,V.bool.injEq,V.sl.injEq,true_and,and_true]at h
 obtain⟨h0,h1⟩:=h
 cases h0
 cases map_inj (f:=V.int .i64) (fun h=>(V.int.inj h).2) h1
 rfl
theorem Hue.inj {x y:Hue}(h:x.v=y.v):x=y:=by
 obtain⟨x0,x1,x2⟩:=x;obtain⟨y0,y1,y2⟩:=y
 simp only[Hue.v,V.agg.injEq,List.cons.injEq,V.int.injEq,V.str.injEq,V.bool.injEq,V.sl.injEq,true_and,and_true]at h
 obtain⟨h0,h1,h2⟩:=h
 cases h0
 cases h1
 cases h2
 rfl
theorem Pal.inj {x y:Pal}(h:x.v=y.v):x=y:=by
 obtain⟨x0,x1⟩:=x;obtain⟨y0,y1⟩:=y
 simp only[Pal.v,V.agg.injEq,List.cons.injEq,V.int.injEq,V.str.injEq,V.bool.injEq,V.sl.injEq,true_and,and_true]at h
 obtain⟨h0,h1⟩:=h
 cases h0
 cases map_inj Hue.inj h1
 rfl
theorem Tim.inj {x y:Tim}(h:x.v=y.v):x=y:=by
 obtain⟨x0,x1,x2,x3,x4,x5⟩:=x;obtain⟨y0,y1,y2,y3,y4,y5⟩:=y
 simp only[Tim.v,V.agg.injEq,List.cons.injEq,V.int.injEq,V.str.injEq,V.bool.injEq,V.sl.injEq,true_and,and_true]at h
 obtain⟨h0,h1,h2,h3,h4,h5⟩:=h
 cases h0
 cases h1
 cases h2
 cases h3
 cases h4
 cases h5
 rfl
theorem Mov.inj {x y:Mov}(h:x.v=y.v):x=y:=by
 obtain⟨⟨x0,x1⟩,⟨x2,x3⟩,x4⟩:=x;obtain⟨⟨y0,y1⟩,⟨y2,y3⟩,y4⟩:=y
 simp only[Mov.v,V.agg.injEq,List.cons.injEq,V.int.injEq,V.str.injEq,V.bool.injEq,V.sl.injEq,true_and,and_true]at h
 obtain⟨h0,h1,h2,h3,h4⟩:=h
 cases h0
 cases h1
 cases h2
 cases h3
 cases h4
 rfl
theorem Cu.inj {x y:Cu}(h:x.v=y.v):x=y:=by
 obtain⟨x0,x1,x2,x3,x4,x5,x6,x7,x8⟩:=x;obtain⟨y0,y1,y2,y3,y4,y5,y6,y7,y8⟩:=y
 simp only[Cu.v,V.agg.injEq,List.cons.injEq,V.int.injEq,V.str.injEq,V.bool.injEq,V.sl.injEq,true_and,and_true]at h
 obtain⟨h0,h1,h2,h3,h4,h5,h6,h7,h8⟩:=h
 cases h0
 cases h1
 cases map_inj Mov.inj h2
 cases map_inj Tim.inj h3
 cases h4
 cases h5
 cases h6
 cases h7
 cases h8
 rfl
theorem Lst.inj {x y:Lst}(h:x.v=y.v):x=y:=by
 obtain⟨x0,x1,x2⟩:=x;obtain⟨y0,y1,y2⟩:=y
 simp only[Lst.v,V.agg.injEq,List.cons.injEq,V.int.injEq,V.str.injEq,V.bool.injEq,V.sl.injEq,true_and,and_true]at h
 obtain⟨h0,h1,h2⟩:=h
 cases h0
 cases h1
 cases map_inj Cu.inj h2
 rfl
theorem Gan.inj {x y:Gan}(h:x.v=y.v):x=y:=by
 obtain⟨⟨x0,x1⟩,x2⟩:=x;obtain⟨⟨y0,y1⟩,y2⟩:=y
 simp only[Gan.v,V.agg.injEq,List.cons.injEq,V.int.injEq,V.str.injEq,V.bool.injEq,V.sl.injEq,true_and,and_true]at h
 obtain⟨h0,h1,h2⟩:=h
 cases h0
 cases h1
 cases h2
 rfl
theorem Sb.inj {x y:Sb}(h:x.v=y.v):x=y:=by
 obtain⟨x0,x1,x2,x3⟩:=x;obtain⟨y0,y1,y2,y3⟩:=y
 simp only[Sb.v,V.agg.injEq,List.cons.injEq,V.int.injEq,V.str.injEq,V.bool.injEq,V.sl.injEq,true_and,and_true]at h
 obtain⟨h0,h1,h2,h3⟩:=h
 cases h0
 cases h1
 cases h2
 cases map_inj Gan.inj h3
 rfl
theorem Eff.inj {x y:Eff}(h:x.v=y.v):x=y:=by
 obtain⟨x0,x1,x2,x3,x4,x5⟩:=x;obtain⟨y0,y1,y2,y3,y4,y5⟩:=y
 simp only[Eff.v,V.agg.injEq,List.cons.injEq,V.int.injEq,V.str.injEq,V.bool.injEq,V.sl.injEq,true_and,and_true]at h
 obtain⟨h0,h1,h2,h3,h4,h5⟩:=h
 cases h0
 cases h1
 cases map_inj Pt.inj h2
 cases h3
 cases h4
 cases h5
 rfl
theorem Sho.inj {x y:Sho}(h:x.v=y.v):x=y:=by
 obtain⟨x0,x1,x2,x3,x4,x5,x6,x7,x8⟩:=x;obtain⟨y0,y1,y2,y3,y4,y5,y6,y7,y8⟩:=y
 simp only[Sho.v,V.agg.injEq,List.cons.injEq,V.int.injEq,V.str.injEq,V.bool.injEq,V.sl.injEq,true_and,and_true]at h
 obtain⟨h0,h1,h2,h3,h4,h5,h6,h7,h8⟩:=h
 cases h0
 cases map_inj (f:=Pt.vs) (fun h=>map_inj Pt.inj (V.sl.inj h)) h1
 cases map_inj Prof.inj h2
 cases map_inj Fixt.inj h3
 cases map_inj Grp.inj h4
 cases map_inj Pal.inj h5
 cases map_inj Lst.inj h6
 cases map_inj Sb.inj h7
 cases map_inj Eff.inj h8
 rfl
theorem Ent.inj {x y:Ent}(h:x.v=y.v):x=y:=by
 obtain⟨⟨x0,x1⟩,⟨x2,x3⟩⟩:=x;obtain⟨⟨y0,y1⟩,⟨y2,y3⟩⟩:=y
 simp only[Ent.v,V.agg.injEq,List.cons.injEq,V.int.injEq,V.str.injEq,V.bool.injEq,V.sl.injEq,true_and,and_true]at h
 obtain⟨h0,h1,h2,h3⟩:=h
 cases h0
 cases h1
 cases h2
 cases h3
 rfl
end Go.Proofs.YtdnpaifeoinjoaaGreatDoor

namespace Go.Proofs.YtdnpaifeoinjoaaGreatDoor
open Go.Sha
theorem Cu.Dk.ok {x:Cu}(h:x.Dk):x.ok:=⟨by have:=h.num;omega,by have:=h.label;omega,by have:=h.moves.1;omega,by have:=h.parts.1;omega,by have:=h.link;omega⟩
theorem Lst.Dk.ok {x:Lst}(h:x.Dk):x.ok:=⟨by have:=h.cues.1;omega,fun q hq=>(h.cues.2 q hq).ok⟩
end Go.Proofs.YtdnpaifeoinjoaaGreatDoor

namespace Go.Proofs.YtdnpaifeoinjoaaGreatDoor
open Go.Sha
set_option maxRecDepth 10000
theorem F42:compF Tryz.prog 42=some ⟨27,[.cell 4 (some 3),.tmp 5,.tmp 6],(.g [.q 2 24 0,.s 4 (.alloc 84 [.i 0,.i 0,.nils]),.c 5 0,.c 6 0] (.z [2] (.g [.d 11 3 2,.m 12 1,.g' 13 67 11 12,.m 10 13,.j 14 0 10,.j 15 1 10,.j 16 2 10,.m 7 14,.m 8 15,.m 9 16] (.join [2,4,7,9] (.join [2,4,7,9,22] (.reg [.m 17 9,.v 18 .eql 17 0,.m 19 18,.my 20 8 19,.y 21 (.un .not (.t 20)) 19,.e 22 19 21]) (.i 22 (.reg [.c 9 6]) .skip)) (.g [.d 23 3 2,.s 24 (.build [.i 0,.i 0,.nils] [(0,3,(.t 23))]),.m 25 7,.m 26 9,.w 3 4 24,.m 5 25,.m 6 26] (.ret [4,5,6]))))))⟩:=by kernel_rfl
theorem F43:compF Tryz.prog 43=some ⟨7,[.tmp 2],(.g [.c 2 0] (.g [.s 3 (.mv (.c (.fn (.func 84) [] [])))] (.g [.m 4 0,.m 5 3,.s 6 (.f 87 [.t 4,.i 4096,.t 5,(.c (.fn (.func 88) [] []))]),.m 2 6] (.ret [2]))))⟩:=by kernel_rfl
theorem F44:compF Tryz.prog 44=some ⟨10,[.tmp 4],(.g [.q 2 84 0,.q 3 9 1,.c 4 0] (.z [2,3] (.g [.a 5 0 2,.a 6 2 5,.l 7 6,.s 8 (.mkfn (.func 90) [] [.t 3]),.g' 9 73 7 8,.m 4 9] (.ret [4]))))⟩:=by kernel_rfl
theorem F46:compF Tryz.prog 46=some ⟨30,[.tmp 4,.tmp 5,.tmp 6],(.g [.q 2 30 0,.q 3 38 1,.c 4 0,.k 5 false,.c 6 0] (.z [2,3] (.join [2,3] (.g [.d 11 9 2,.f 12 91 11,.m 7 12] (.g [.m 13 7,.v 14 .neq 13 0] (.i 14 (.g [.m 15 7,.c 4 0,.k 5 false,.m 6 15] (.ret [4,5,6])) .skip))) (.join [2,3] (.g [.d 16 2 3,.f 17 92 16,.m 8 17] (.g [.m 18 8,.v 19 .neq 18 0] (.i 19 (.g [.m 20 8,.c 4 0,.k 5 false,.m 6 20] (.ret [4,5,6])) .skip))) (.join [] (.g [.a 22 2 2,.l 23 22,.d 24 2 3,.g' 25 65 23 24,.m 21 25,.j 26 0 21,.j 27 1 21,.m 9 26,.m 10 27] (.g [.m 28 10] (.i 28 (.g [.m 29 9,.m 4 29,.k 5 true,.c 6 0] (.ret [4,5,6])) .skip))) (.g [.c 4 0,.k 5 false,.c 6 0] (.ret [4,5,6])))))))⟩:=by kernel_rfl
theorem F47:compF Tryz.prog 47=some ⟨20,[.cell 6 (some 3)],(.g [.q 3 84 0,.q 5 30 2,.s 6 (.alloc 84 [.i 0,.i 0,.nils])] (.z [5] (.g [.a 7 0 3,.a 8 2 7,.l 9 8,.f 10 93 9,.a 11 0 3,.a 12 2 11,.w 1 12 10] (.g [.a 13 0 3,.a 14 2 13,.l 15 14,.m 16 1,.d 17 9 5,.r 18 9 15 16,.w 9 18 17] (.g [.d 19 3 3,.w 3 6 19] (.ret [6]))))))⟩:=by kernel_rfl
theorem F48:compF Tryz.prog 48=some ⟨12,[.cell 4 (some 3),.tmp 5],(.g [.q 2 84 0,.s 4 (.alloc 24 [.i 0,.i 0,.nils]),.c 5 0] (.z [2] (.join [2,4] (.g [.m 6 1,.v 7 .neq 6 0] (.i 7 (.g [.s 8 (.build [.i 0,.i 0,.nils] []),.m 9 1,.w 3 4 8,.m 5 9] (.ret [4,5])) .skip)) (.g [.a 10 0 2,.d 11 3 10,.w 3 4 11,.c 5 0] (.ret [4,5])))))⟩:=by kernel_rfl
theorem F49:compF Tryz.prog 49=some ⟨29,[.cell 6 (some 3),.tmp 7],(.g [.q 3 84 0,.s 6 (.alloc 84 [.i 0,.i 0,.nils]),.c 7 0] (.z [3] (.g [.a 11 0 3,.a 12 2 11,.l 13 12,.m 14 1,.r 15 9 13 14,.d 16 9 15,.m 17 2,.s 18 (.f 94 [.t 16,.t 17,.i 1]),.m 10 18,.j 19 0 10,.j 20 1 10,.s 8 (.alloc 30 [(.str []),(.str []),.nils,.nils,(.bool false),(.bool false),.i 0,(.str []),.i 0]),.w 9 8 19,.m 9 20] (.z [8] (.join [1,3,6,8] (.g [.m 21 9,.v 22 .neq 21 0] (.i 22 (.g [.s 23 (.build [.i 0,.i 0,.nils] []),.m 24 9,.w 3 6 23,.m 7 24] (.ret [6,7])) .skip)) (.g [.d 25 3 3,.m 26 1,.d 27 9 8,.s 28 (.f 47 [.t 25,.t 26,.t 27]),.w 3 6 28,.c 7 0] (.ret [6,7])))))))⟩:=by kernel_rfl
theorem F51:compF Tryz.prog 51=some ⟨8,[.tmp 3],(.g [.q 2 42 0,.k 3 false] (.z [2] (.g [.a 4 0 2,.d 5 2 4,.d 6 2 1,.s 7 (.eqs false [.i,.i] (.t 5) (.t 6)),.m 3 7] (.ret [3]))))⟩:=by kernel_rfl
def B52_0:Cd:=(.g [.b 11 .lss 10 9] (.join [1,5,8,9,10] (.i 11 .skip (.exit [5] 0)) (.join [1,5,8,9,10] (.block 1 (.g [.r 12 4 8 10,.d 13 4 12,.s 7 (.alloc 42 [.i 0,.i 0,.i 0,.i 0]),.w 4 7 13] (.z [7] (.g [.m 14 1,.d 15 4 7,.s 16 (.call (.t 14) [.t 15])] (.i 16 (.reg [.m 17 5,.d 18 4 7,.s 19 (.bslice 42 4 [.t 18]),.s 20 (.append 42 4 32 (.t 17) (.t 19)),.m 5 20]) .skip))))) (.reg [.v 21 .add 10 1,.m 10 21]))))
theorem F52:compF Tryz.prog 52=some ⟨23,[.tmp 4],(.g [.s 4 (.mv (.c .nils))] (.g [.s 5 (.mv (.c .nils))] (.join [5] (.g [.m 8 0,.u 9 8,.c 10 0] (.block 0 (.loop [1,5,8,9,10] [(5,(42,4))] B52_0))) (.g [.m 22 5,.m 4 22] (.ret [4])))))⟩:=by kernel_rfl
theorem F53:compF Tryz.prog 53=some ⟨17,[.tmp 4],(.g [.q 3 42 0,.k 4 false] (.z [3] (.join [4] (.dreg 13 [.a 5 2 3,.d 6 2 5,.s 7 (.f 54 []),.s 8 (.eqs true [.i,.i] (.t 6) (.t 7)),.m 9 8,.y 10 (.load (some 3) (.t 1)) 9,.ly 11 2 9,.ay 12 0 3 9,.y 13 (.load (some 2) (.t 12)) 9,.y 14 (.f 55 [.t 10,.t 11,.t 13]) 9,.y 15 (.un .not (.t 14)) 9,.e 16 9 15,.m 4 16]) (.ret [4]))))⟩:=by kernel_rfl
theorem F54:compF Tryz.prog 54=some ⟨2,[.cell 0 (some 2)],(.g [.s 0 (.alloc 40 [.i 0,.i 0])] (.g [.s 1 (.build [.i 0,.i 0] [(0,1,(.i (-1)))]),.w 2 0 1] (.ret [0])))⟩:=by kernel_rfl
theorem F55:compF Tryz.prog 55=some ⟨16,[.tmp 6],(.g [.q 3 84 0,.q 5 38 2,.k 6 false] (.z [3,5] (.g [.a 7 0 3,.a 8 2 7,.l 9 8,.m 10 1,.r 11 9 9 10,.a 12 2 11,.l 13 12,.s 14 (.mkfn (.func 96) [] [.t 5]),.g' 15 95 13 14,.m 6 15] (.ret [6]))))⟩:=by kernel_rfl
def B56_0:Cd:=(.g [.b 12 .lss 11 10] (.join [0,3,9,10,11] (.i 12 .skip (.exit [0,3] 0)) (.join [0,3,9,10,11] (.block 1 (.g [.r 13 1 9 11,.l 14 13,.m 5 14] (.g [.m 15 3,.m 16 5,.u 17 16,.b 18 .add 15 17,.m 3 18] (.g [.m 19 3,.v 20 .lss 19 0] (.i 20 (.reg [.s 21 (.mkif 9 (.w [108,101,110,32,111,117,116,32,111,102,32,114,97,110,103,101])),.n (.panic (.t 21))]) .skip))))) (.reg [.v 22 .add 11 1,.m 11 22]))))
def B56_1:Cd:=(.g [.b 28 .lss 27 26] (.join [6,25,26,27] (.i 28 .skip (.exit [6] 2)) (.join [6,25,26,27] (.block 3 (.g [.r 29 1 25 27,.l 30 29,.m 8 30] (.reg [.m 31 6,.m 32 8,.s 33 (.append 42 4 32 (.t 31) (.t 32)),.m 6 33]))) (.reg [.v 34 .add 27 1,.m 27 34]))))
theorem F56:compF Tryz.prog 56=some ⟨36,[.tmp 2],(.g [.s 2 (.mv (.c .nils))] (.g [.c 3 0] (.join [0,3] (.g [.m 9 0,.u 10 9,.c 11 0] (.block 0 (.loop [0,3,9,10,11] [] B56_0))) (.g [.m 23 3,.s 24 (.f 97 [(.c .nils),.t 23]),.m 6 24] (.join [6] (.g [.m 25 0,.u 26 25,.c 27 0] (.block 2 (.loop [6,25,26,27] [(6,(42,4))] B56_1))) (.g [.m 35 6,.m 2 35] (.ret [2])))))))⟩:=by kernel_rfl
end Go.Proofs.YtdnpaifeoinjoaaGreatDoor

namespace Go.Proofs.YtdnpaifeoinjoaaGreatDoor
open Go.Sha
set_option maxRecDepth 100000
variable {g:List (Nat×Obj)}{n:Nat}
@[reducible] def u6 (x:Int):V:=.int .u64 x
def W16 (a:List V):Prop:=a.length=16∧∀v∈a,∃x,v=u6 x
end Go.Proofs.YtdnpaifeoinjoaaGreatDoor

namespace Go.Proofs.YtdnpaifeoinjoaaGreatDoor
open Go.Sha
set_option maxRecDepth 100000
variable {g:List (Nat×Obj)}
def stE (g:List (Nat×Obj))(k m:Nat)(b:List V)(n:Nat)(xs:List Mov):St:=⟨k,[(m,b)],[(n,⟨45,5,xs.map Mov.v,true,false⟩)],⟨[],g,[]⟩⟩
end Go.Proofs.YtdnpaifeoinjoaaGreatDoor

namespace Go.Proofs.YtdnpaifeoinjoaaGreatDoor
open Go.Sha
set_option maxRecDepth 100000
variable {g:List (Nat×Obj)}
def stB (g:List (Nat×Obj))(k m:Nat)(b:List V):St:=⟨k,[(m,b)],[],⟨[],g,[]⟩⟩
inductive RowR (g:List (Nat×Obj)) (k m:Nat) (b:List V):List Mov→V→St→Prop
 |no:RowR g k m b [] (.sl []) (stB g k m b)
 |row (n:Nat) (xs:List Mov):k≤n→RowR g k m b xs (.osl n xs.length) (stE g (n+1) m b n xs)
 |win (n N i:Nat) (xs:List Mov):k≤n→xs.length=N→i≤N→RowR g k m b (xs.take i) (.win n N 0 i 5) (stE g (n+1) m b n xs)
@[reducible] def entS (l:List (Prm×Val)):V:=.sl (l.map entV)
def lkL (x:Lst):List (List (Prm×Val)):=(List.range x.cues.length).map (entL x)
theorem ent_len {x:Lst}(h:lstP x=0){k:Nat}:(entL x k).length≤8192:=by rw[entL,List.length_map];exact ftpL_len h
end Go.Proofs.YtdnpaifeoinjoaaGreatDoor

namespace Go.Proofs.YtdnpaifeoinjoaaGreatDoor
open Go.Sha
set_option maxRecDepth 100000
variable {g:List (Nat×Obj)}
def setM (M:List (Prm×Val))(q:Mov):List (Prm×Val):=if 0≤ix (fun e:Prm×Val=>decide (e.1=q.prm)) M 0 then M.set (ix (fun e:Prm×Val=>decide (e.1=q.prm)) M 0).toNat ((M.getD (ix (fun e:Prm×Val=>decide (e.1=q.prm)) M 0).toNat default).1,q.val) else M
end Go.Proofs.YtdnpaifeoinjoaaGreatDoor

