/- Numbers of cues, lists of cues, shows. The check of shows. The compiled code of functions of this seat, printed by a program, and that it is the translation's: checked by the kernel. Small shows. The  .. -/
import Derived.Test.YtkpcomdhdjihlaaGreatDoorM1
import Derived.Test.YtkpcomdhdjihlaaGreatDoorMShbYB
import Derived.Test.YtkpcomdhdjihlaaGreatDoorProg
import Derived.KernelRfl
import Derived.Test.YtkpcomdhdjihlaaGreatDoorMShbXI
import Derived.Test.YtkpcomdhdjihlaaGreatDoorMShbDE
import Derived.Test.YtkpcomdhdjihlaaGreatDoorMShbEK
import Derived.Shelf.Strings.Builder1
import Derived.Shelf.Strings.Builder2
import Derived.Shelf.Strings.OnBuilder
import Derived.Shelf.Small.Utf8
import Derived.Shelf.Small.Bits
import Derived.Shelf.Small.Strs
import Derived.Shelf.Strings.BuilderF
import Derived.Shelf.Strconv.Atoi
import Derived.Shelf.Strconv.Itoa0
import Derived.Shelf.Strconv.Itoa1
import Derived.Shelf.LaysM
import Derived.Shelf.Strconv.Itoa2
import Derived.Shelf.Strconv.Itoa3
import Derived.Shelf.Strconv.AtoiErrFast
import Derived.Shelf.Strconv.ParseIntEmpty
import Derived.Shelf.Strconv.AtoiFail
import Derived.Shelf.Strconv.Clone
import Derived.Shelf.Strconv.SyntaxError
import Derived.Shelf.LaysC
import Derived.Shelf.Strconv.ToError
import Derived.Shelf.Strconv.Lower
import Derived.Shelf.Strconv.ParseUint10
import Derived.Shelf.Strconv.ParseUint10Empty
import Derived.Shelf.Strconv.ParseUint10Any
import Derived.Shelf.Strconv.ParseInt10
import Derived.Shelf.Strconv.AtoiLong
import Derived.Shelf.Strconv.AtoiInnerAll
import Derived.Shelf.Strconv.RangeError
import Derived.Shelf.Strconv.ToErrorRange
import Derived.Shelf.Strconv.AtoiAll
import Derived.Shelf.Strings.Search1
import Derived.Shelf.Strings.Search2
import Derived.Shelf.Strings.Search3
import Derived.Shelf.Strings.Cut
import Derived.Shelf.Strings.Shaped
import Derived.Shelf.GgClosure.StringsIndexFunc
import Derived.Ground.GgwProg
import Derived.Shelf.GgClosure.StringsIndexFuncTop
import Derived.Shelf.Strings.Prefix
import Derived.Shelf.Strings.Fields
import Derived.Shelf.Strings.SplitShaped
import Derived.Shelf.Unicode.Latin
import Derived.Shelf.Unicode.Decode
import Derived.Shelf.Strings.Runes
import Derived.Shelf.Strings.AsciiSet
import Derived.Shelf.Bits.Mul64
import Derived.Shelf.Strings.Repeat
import Derived.Shelf.Unicode.DecodeSlow
import Derived.Shelf.Unicode.DecodeAny
import Derived.Shelf.Unicode.Is16White
import Derived.Shelf.Unicode.IsSpaceAny
import Derived.Shelf.Unicode.DecodeLast
import Derived.Shelf.Unicode.Is16Any
import Derived.Shelf.Unicode.Is32Any
import Derived.Shelf.Unicode.ExclAny
import Derived.Ground.Names2Prog
import Derived.Shelf.Slices.SearchI
import Derived.Ground.SlgnProg
import Derived.Shelf.SlicesE.Equal
import Derived.Ground.SlgfProg
import Derived.Shelf.SlicesE.IndexFunc
import Derived.Shelf.SlGeneric
import Derived.Ground.SlsfProg
import Derived.Shelf.SlSortCmp.NoneTotal
import Derived.Test.YtkpcomdhdjihlaaGreatDoorMShbXE
import Derived.Lib.AtoiAllCases
import Derived.Laws.RangeAny
import Derived.RangeFuncNested
import Derived.RangeFuncBound
import Derived.RangeFuncCalls
import Derived.RangeFuncLeaves
import Derived.RangeFuncBox
import Derived.RangeFuncWrites
import Derived.Shelf.Abstract
import Derived.Shelf.RegionOpen
import Derived.WalkKit
import Derived.OwnWalkIn
import Derived.TacticsInMore
import Derived.LoopNIn
import Derived.LoopIn
set_option linter.unusedSimpArgs false
set_option linter.unusedVariables false
namespace Go.Proofs.YtkpcomdhdjihlaaGreatDoor
open Go.Sha
set_option maxRecDepth 100000
variable {g:List (Nat×Obj)}{n:Nat}
theorem isD_val {b:UInt8}(h:isD b=true):IntKind.u8.wrap ((b.toNat:Int)-48)=((b.toNat-48:Nat):Int)∧b.toNat-48≤9:=by
 simp only[isD,Bool.and_eq_true,decide_eq_true_eq]at h
 refine⟨?_,by omega⟩
 unfold IntKind.wrap
 simp[IntKind.bits,IntKind.signed]
 omega
theorem step_nat {m k:Nat}(hm:m≤100000000000000)(hk:k≤9):IntKind.i64.wrap (IntKind.i64.wrap (10*(m:Int))+IntKind.i64.wrap (k:Int))=((10*m+k:Nat):Int):=by
 have w1:IntKind.i64.wrap (10*(m:Int))=10*(m:Int):=iwrap (by omega) (by omega)
 have w2:IntKind.i64.wrap (k:Int)=(k:Int):=iwrap (by omega) (by omega)
 rw[w1,w2]
 have w3:IntKind.i64.wrap (10*(m:Int)+k)=10*(m:Int)+k:=iwrap (by omega) (by omega)
 rw[w3];omega
theorem vwL_nat:∀{w:List UInt8}{m B:Nat},(∀b∈w,isD b=true)→w.length≤B→m<10 ^ (10-B)→B≤10→vwL w m=((w.foldl (fun n b=>10*n+(b.toNat-48)) m:Nat):Int)∧w.foldl (fun n b=>10*n+(b.toNat-48)) m<10 ^ (10-B+w.length)
 |[],m,B,_,_,h,_=>⟨rfl,by simpa using h⟩
 |b::r,m,B,hw,hl,h,hB=>by
  simp at hl
  obtain⟨e,hk⟩:=isD_val (hw b (List.mem_cons_self ..))
  have hp:10 ^ (10-B)≤10 ^ 10:=Nat.pow_le_pow_right (by omega) (by omega)
  have h2:10*m+(b.toNat-48)<10 ^ (10-(B-1)):=by
   rw[show 10-(B-1)=(10-B)+1 by omega,Nat.pow_succ];omega
  have ih:=vwL_nat (w:=r) (m:=10*m+(b.toNat-48)) (B:=B-1) (fun x hx=>hw x (List.mem_cons_of_mem _ hx)) (by omega) h2 (by omega)
  rw[vwL,e,step_nat (by omega) hk,List.foldl_cons]
  refine⟨ih.1,?_⟩
  have:=ih.2
  rwa [show 10-(B-1)+r.length=10-B+(b::r).length by simp;omega]at this
def pdB (r:List UInt8)(k:Nat):UInt8:=if k<r.length then r.getD k 0 else 48
theorem pad_3 {r:List UInt8}:(r++[48,48,48]).take 3=[pdB r 0,pdB r 1,pdB r 2]:=by
 match r with
 |[]=>rfl
 |[a]=>simp[pdB]
 |[a,b]=>simp[pdB]
 |a::b::c::r=>simp[pdB]
theorem nxV_nat {r:List UInt8}{k m:Nat}(hr:∀b∈r,isD b=true)(hm:m≤100000000000000):nxV r k m=((10*m+((pdB r k).toNat-48):Nat):Int):=by
 unfold nxV pdB
 by_cases h:k<r.length
 ·rw[if_pos (by omega),if_pos h]
  obtain⟨e,hk⟩:=isD_val (hr (r.getD k 0) (by rw[List.getD_eq_getElem?_getD,List.getElem?_eq_getElem h];exact List.getElem_mem h))
  rw[e,step_nat hm hk]
 ·rw[if_neg (by omega),if_neg h]
  have w1:IntKind.i64.wrap (10*(m:Int))=10*(m:Int):=iwrap (by omega) (by omega)
  rw[w1]
  have:(48:UInt8).toNat=48:=rfl
  omega
theorem pd_le {r:List UInt8}{k:Nat}(hr:∀b∈r,isD b=true):(pdB r k).toNat-48≤9:=by
 unfold pdB
 split
 ·rename_i h
  exact(isD_val (hr (r.getD k 0) (by rw[List.getD_eq_getElem?_getD,List.getElem?_eq_getElem h];exact List.getElem_mem h))).2
 ·decide
theorem numC_parts {s:List UInt8}(h:numC s=0):(∀b∈nW s,isD b=true)∧(∀b∈nR s,isD b=true)∧(nW s).length≤4∧(nR s).length≤3:=by
 unfold numC at h
 split at h
 ·cases h
 ·rename_i h1
  split at h
  ·cases h
  ·rename_i h2
   split at h
   ·cases h
   ·split at h
    ·cases h
    ·rename_i h3 h4
     refine⟨digB_all (by simpa using h1),?_,by omega,by omega⟩
     cases hc:s.contains 46 with
     |false=>rw[(n_none hc).2];simp
     |true=>rw[hc]at h2;simp at h2;exact digB_all h2.1
theorem val_eq {s:List UInt8}(h:numC s=0):valN s=refV s:=by
 obtain⟨a1,a2,a3,a4⟩:=numC_parts h
 obtain⟨e1,e2⟩:=vwL_nat (w:=nW s) (m:=0) (B:=10) a1 (by omega) (by simp) (Nat.le_refl _)
 have hp:10 ^ (10-10+(nW s).length)≤10 ^ 4:=Nat.pow_le_pow_right (by omega) (by omega)
 generalize hN:(nW s).foldl (fun n b=>10*n+(b.toNat-48)) 0=N at e1 e2
 have p0:=pd_le (k:=0) a2;have p1:=pd_le (k:=1) a2;have p2:=pd_le (k:=2) a2
 unfold valN refV
 rw[if_pos h,show(0:Int)=((0:Nat):Int) from rfl,e1,nxV_nat a2 (by omega),nxV_nat a2 (by omega),nxV_nat a2 (by omega),natOf,numS,pad_3,List.foldl_append,hN]
 rfl
theorem cueP_num {x:Cu}(h:cueR x=0):numC x.num=0:=by
 unfold cueR at h
 split at h
 ·rename_i a;exact absurd h a
 ·rename_i a;exact Classical.not_not.1 a
theorem cuesP_eq {l:List Cu}:∀{r:List Cu}{j:Nat},l.drop j=r→(∀z∈l.take j,cueR z=0)→cuesP l r j=cuesR l r j
 |[],_,_,_=>rfl
 |q::r,j,hd,hz=>by
  rw[cuesP,cuesR,cue_eq]
  by_cases h1:cueR q=0
  ·rw[cuesP_eq (drop_succ hd) (all_snoc (P:=fun z=>cueR z=0) hd hz h1)]
   have e:(0<j∧0≤cmpN (l.getD (j-1) default).num q.num)=(0<j∧0≤ordR (l.getD (j-1) default).num q.num):=by
    rw[eq_iff_iff]
    refine and_congr_right fun h0=>?_
    have a:=cueP_num (hz _ (mem_prev h0 (Nat.le_of_lt (drop_le hd))))
    have b:=cueP_num h1
    unfold cmpN ordR
    rw[if_neg (by rw[a,b];simp),val_eq a,val_eq b]
   simp only[e]
  ·rw[if_pos h1,if_pos h1]
theorem lst_eq {x:Lst}:lstP x=lstR x:=by unfold lstP lstR;rw[cuesP_eq (l:=x.cues) (r:=x.cues) (j:=0) rfl (by simp)]
def grpsC (l:List Grp):Int:=if 32<(l.length:Int) then 5 else grpsL l l 0
theorem f159 {l:List Grp}(hl:l.length<140737488355328)(hb:∀x∈l,x.chans.length<140737488355328){st:St}:run Tryz.prog HH 159 [.sl (l.map Grp.v)] st=some (.ret (.int .i64 (grpsC l)),st):=by
 rw[run_shut F159 rfl rfl (by simp)]
 have hL0:=fun n=>L159 (g:=st.x.gl) (n:=n) hl hb _ 0 rfl
 push_cast[grpsC]at hL0
 push_cast[grpsC,hL0,lpE,lpX,lpI,lpB]
theorem L214 {l:List Grp}(hl:l.length<140737488355328)(hb:∀x∈l,x.chans.length<140737488355328):∀r j,l.drop j=r→runL Tryz.prog HH [0,3] n B214_0 [(0,.sl (l.map Grp.v)),(3,.int .i64 j)] (stN g n)=lpE (stN g n) [] 2 (grpsL l r j):=by
 refine drop_ind (fun j h=>?_) (fun q r j h hx hd ih=>?_)
 all_goals rw[runL_of B214_0.eq_1]
 ·have h1:¬(j:Int)<l.length:=by omega
  push_cast[h1,grpsL,Grp.v]
 ·have h1:(j:Int)<l.length:=by omega
  have hw:=iw1 (j:=j) (by omega)
  have hq:q.chans.length<140737488355328:=hb q (mem_at hd)
  push_cast[h1,hw,hx,Grp.v,f277 hq,iwrap_pred (j:=j) (by omega)]at ih ⊢
  simp only[ih,grpsL,lps,Int.reduceEq,not_false_eq_true]
  all_goals ((repeat' split)<;>(try simp_all)<;>(try (with_reducible refine dn_eq ?_ ?_<;>first|trivial|omega|rfl))<;>(try omega))
theorem f214 {l:List Grp}(hl:l.length<140737488355328)(hb:∀x∈l,x.chans.length<140737488355328){st:St}:run Tryz.prog HH 214 [.sl (l.map Grp.v)] st=some (.ret (.int .i64 (grpsC l)),st):=by
 rw[run_shut F214 rfl rfl (by simp)]
 have hL0:=fun n=>L214 (g:=st.x.gl) (n:=n) hl hb _ 0 rfl
 push_cast[grpsC]at hL0
 push_cast[grpsC,hL0,lpE,lpX,lpI,lpB]
def lstsL (l:List Lst):List Lst→Nat→Int
 |[],_=>0
 |q::r,j=>if ¬lstR q=0 then lstR q else if 0<j∧q.num≤(l.getD (j-1) default).num then 9 else lstsL l r (j+1)
def Lok (l:List Lst):Prop:=l.length<140737488355328∧∀q∈l,q.ok
theorem f113' {x:Lst}(h:x.ok){st:St}:run Tryz.prog HH 113 [x.v] st=some (.ret (.int .i64 (lstR x)),st):=by rw[f113 h,lst_eq]
theorem L161 {x:Sho}(hl:Lok x.lsts):∀r j,x.lsts.drop j=r→runL Tryz.prog HH [1,11,12,13] n B161_0 [(1,.ep x.v 0),(11,.sl (x.lsts.map Lst.v)),(12,.int .i64 x.lsts.length),(13,.int .i64 j)] (stN g n)=lpE (stN g n) [] 2 (lstsL x.lsts r j):=by
 have hb:=hl.1
 refine drop_ind (fun j h=>?_) (fun q r j h hx hd ih=>?_)
 all_goals rw[runL_of B161_0.eq_1]
 ·have h1:¬(j:Int)<x.lsts.length:=by omega
  push_cast[h1,lstsL,Sho.v,Lst.v]
 ·have h1:(j:Int)<x.lsts.length:=by omega
  have hw:=iw1 (j:=j) (by omega)
  have hq:q.ok:=hl.2 q (mem_at hd)
  push_cast[h1,hw,hx,Sho.v,Lst.v,f113' hq,iwrap_pred (j:=j) (by omega)]at ih ⊢
  simp only[ih,lstsL,lps,Int.reduceEq,not_false_eq_true]
  all_goals ((repeat' split)<;>(try simp_all)<;>(try (with_reducible refine dn_eq ?_ ?_<;>first|trivial|omega|rfl))<;>(try omega))
def lstsC (l:List Lst):Int:=if 8<(l.length:Int) then 5 else lstsL l l 0
theorem f161 {x:Sho}(hl:Lok x.lsts){st:St}:run Tryz.prog HH 161 [x.v] st=some (.ret (.int .i64 (lstsC x.lsts)),st):=by
 rw[run_shut F161 rfl rfl (by simp)]
 have hL0:=fun n=>L161 (g:=st.x.gl) (n:=n) hl _ 0 rfl
 push_cast[Sho.v,lstsC]at hL0
 push_cast[Sho.v,lstsC,hL0,lpE,lpX,lpI,lpB]
theorem L216 {l:List Lst}(hl:Lok l):∀r j,l.drop j=r→runL Tryz.prog HH [0,3] n B216_0 [(0,.sl (l.map Lst.v)),(3,.int .i64 j)] (stN g n)=lpE (stN g n) [] 2 (lstsL l r j):=by
 have hb:=hl.1
 refine drop_ind (fun j h=>?_) (fun q r j h hx hd ih=>?_)
 all_goals rw[runL_of B216_0.eq_1]
 ·have h1:¬(j:Int)<l.length:=by omega
  push_cast[h1,lstsL,Lst.v]
 ·have h1:(j:Int)<l.length:=by omega
  have hw:=iw1 (j:=j) (by omega)
  have hq:q.ok:=hl.2 q (mem_at hd)
  push_cast[h1,hw,hx,Lst.v,f44 hq,iwrap_pred (j:=j) (by omega)]at ih ⊢
  simp only[ih,lstsL,lps,Int.reduceEq,not_false_eq_true]
  all_goals ((repeat' split)<;>(try simp_all)<;>(try (with_reducible refine dn_eq ?_ ?_<;>first|trivial|omega|rfl))<;>(try omega))
theorem f216 {l:List Lst}(hl:Lok l){st:St}:run Tryz.prog HH 216 [.sl (l.map Lst.v)] st=some (.ret (.int .i64 (lstsC l)),st):=by
 rw[run_shut F216 rfl rfl (by simp)]
 have hL0:=fun n=>L216 (g:=st.x.gl) (n:=n) hl _ 0 rfl
 push_cast[lstsC]at hL0
 push_cast[lstsC,hL0,lpE,lpX,lpI,lpB]
end Go.Proofs.YtkpcomdhdjihlaaGreatDoor

namespace Go.Proofs.YtkpcomdhdjihlaaGreatDoor
open Go.Sha
set_option maxRecDepth 100000
variable {g:List (Nat×Obj)}{n:Nat}
def stP (g:List (Nat×Obj))(xs:List V):St:=⟨2,[],[(1,⟨5,1,xs,true,true⟩)],⟨[],g,[]⟩⟩
@[push_cast]theorem stP_eq {xs:List V}:stP g xs=⟨2,[],[(1,⟨5,1,xs,true,true⟩)],⟨[],g,[]⟩⟩:=idq rfl
theorem L154 {s:List UInt8}(hl:s.length<140737488355328):∀r j,s.drop j=r→runL Tryz.prog HH [11,12,13] 2 B154_0 [(11,.osl 1 s.length),(12,.int .i64 s.length),(13,.int .i64 j)] (stP g (s.map bV))=lpE (stP g (s.map bV)) [] 2 (labL r):=by
 refine drop_ind (fun j h=>?_) (fun q r j h hx hd ih=>?_)
 all_goals rw[runL_of B154_0.eq_1]
 ·have h1:¬(j:Int)<s.length:=by omega
  push_cast[h1,labL]
 ·have h1:(j:Int)<s.length:=by omega
  have hw:=iw1 (j:=j) (by omega)
  have hk:∀d,(s.map bV).getD j d=bV q:=getD_drop hd
  push_cast[h1,hw,hx,bV,hk]at ih ⊢
  simp only[ih,labL,lps,Int.reduceEq,not_false_eq_true]
  all_goals exact dn_eq (by omega) (by with_reducible rfl)
theorem f154 {x:Sho}(hl:x.title.length<140737488355328){st:St}:run Tryz.prog HH 154 [x.v] st=some (.ret (.int .i64 (labC x.title)),st):=by
 rw[run_shut F154 rfl rfl (by simp)]
 have hL0:=L154 (g:=st.x.gl) hl _ 0 rfl
 push_cast at hL0
 push_cast[Sho.v,hL0,lpE,labC]
 exact dn_eq (by simp[maxLen];omega) rfl
theorem L273 {s:List UInt8}(hl:s.length<140737488355328):∀r j,s.drop j=r→runL Tryz.prog HH [0,3] n B273_0 [(0,.str s),(3,.int .i64 j)] (stN g n)=lpE (stN g n) [] 2 (labL r):=by
 refine drop_ind (fun j h=>?_) (fun q r j h hx hd ih=>?_)
 all_goals rw[runL_of B273_0.eq_1]
 ·have h1:¬(j:Int)<s.length:=by omega
  push_cast[h1,labL]
 ·have h1:(j:Int)<s.length:=by omega
  have hw:=iw1 (j:=j) (by omega)
  push_cast[h1,hw,hx]at ih ⊢
  simp only[ih,labL,lps,Int.reduceEq,not_false_eq_true]
theorem f273 {s:List UInt8}(hl:s.length<140737488355328){st:St}:run Tryz.prog HH 273 [.str s] st=some (.ret (.int .i64 (labC s)),st):=by
 rw[run_shut F273 rfl rfl (by simp)]
 have hL0:=fun n=>L273 (g:=st.x.gl) (n:=n) hl _ 0 rfl
 push_cast[labC]at hL0
 push_cast[labC,hL0,lpE,lpX,lpI,lpB]
structure Sho.ok (x:Sho):Prop where
 t:x.title.length<140737488355328
 c:Cok x.curves
 p:Pok x.profs
 f:Xok x.fixts
 g:x.grps.length<140737488355328∧∀q∈x.grps,q.chans.length<140737488355328
 l:x.pals.length<140737488355328∧∀q∈x.pals,q.hues.length<140737488355328
 k:Lok x.lsts
 s:x.subs.length<140737488355328∧∀q∈x.subs,q.gains.length<140737488355328
 e:x.effs.length<140737488355328∧∀q∈x.effs,q.wave.length<140737488355328
theorem f158 {x:Sho}(h:x.ok){st:St}:run Tryz.prog HH 158 [x.v] st=some (.ret (.int .i64 (grpsC x.grps)),st):=by
 rw[run_shut F158 rfl rfl (by simp)]
 push_cast[Sho.v,f159 h.g.1 h.g.2]
theorem f160 {x:Sho}(h:x.ok){st:St}:run Tryz.prog HH 160 [x.v] st=some (.ret (.int .i64 (palsCR x.pals)),st):=by
 rw[run_shut F160 rfl rfl (by simp)]
 push_cast[Sho.v,f133 h.l.1 h.l.2,palsC_eq]
theorem f162 {x:Sho}(h:x.ok){st:St}:run Tryz.prog HH 162 [x.v] st=some (.ret (.int .i64 (subsCR x.subs)),st):=by
 rw[run_shut F162 rfl rfl (by simp)]
 push_cast[Sho.v,f163 h.s.1 h.s.2,subsC_eq]
theorem f164 {x:Sho}(h:x.ok){st:St}:run Tryz.prog HH 164 [x.v] st=some (.ret (.int .i64 (effsC x.effs)),st):=by
 rw[run_shut F164 rfl rfl (by simp)]
 push_cast[Sho.v,f165 h.e.1 h.e.2]
def shoC (x:Sho):Int:=if ¬labC x.title=0 then labC x.title else if ¬uniC x.curves x.profs x.fixts=0 then uniC x.curves x.profs x.fixts else if ¬grpsC x.grps=0 then grpsC x.grps else if ¬palsCR x.pals=0 then palsCR x.pals
 else if ¬lstsC x.lsts=0 then lstsC x.lsts else if ¬subsCR x.subs=0 then subsCR x.subs else effsC x.effs
theorem f46 {x:Sho}(h:x.ok){st:St}:run Tryz.prog HH 46 [x.v] st=some (.ret (.int .i64 (shoC x)),st):=by
 have h1:=fun(st:St)=>f154 (st:=st) h.t
 have h2:=fun(st:St)=>f155 (st:=st) h.c h.p h.f
 have h3:=fun(st:St)=>f158 (st:=st) h
 have h4:=fun(st:St)=>f160 (st:=st) h
 have h5:=fun(st:St)=>f161 (st:=st) h.k
 have h6:=fun(st:St)=>f162 (st:=st) h
 have h7:=fun(st:St)=>f164 (st:=st) h
 push_cast[Sho.v]at h1 h2 h3 h4 h5 h6 h7
 rw[run_shut F46 rfl rfl (by simp)]
 push_cast[Sho.v,h1,h2,h3,h4,h5,h6,h7,(fun(st:St)=>run_shut (P:=Tryz.prog) (H:=HH) (args:=[]) (st:=st) F96 rfl rfl rfl),runL_of B46_0.eq_1,shoC,ite0']
theorem f213 {x:Sho}(h:x.ok){st:St}:run Tryz.prog HH 213 [x.v] st=some (.ret (.int .i64 (if ¬labC x.title=0 then labC x.title else uniC x.curves x.profs x.fixts)),st):=by
 have hr:∀q∈x.profs,q.okR:=h.p.2.2
 rw[run_shut F213 rfl rfl (by simp)]
 push_cast[Sho.v,f273 h.t,f274 h.c.1 h.c.2,f275 h.p.1 hr h.c,f276 h.f.1 h.f.2 h.p.1,uniC]
theorem f140 {x:Sho}(h:x.ok){st:St}:run Tryz.prog HH 140 [x.v] st=some (.ret (.int .i64 (shoC x)),st):=by
 have h1:=fun(st:St)=>f213 (st:=st) h
 push_cast[Sho.v]at h1
 rw[run_shut F140 rfl rfl (by simp)]
 push_cast[Sho.v,h1,f214 h.g.1 h.g.2,f215 h.l.1 h.l.2,f216 h.k,f217 h.s.1 h.s.2,f218 h.e.1 h.e.2]
 unfold shoC
 by_cases a1:labC x.title=0<;>by_cases a2:uniC x.curves x.profs x.fixts=0<;>simp[a1,a2]
end Go.Proofs.YtkpcomdhdjihlaaGreatDoor

namespace Go.Proofs.YtkpcomdhdjihlaaGreatDoor
open Go.Sha
set_option maxRecDepth 10000
def B4_0:Cd:=(.join [1,3] (.g [.m 53 3,.a 54 2 1,.l 55 54,.u 56 55,.b 57 .lss 53 56] (.i 57 .skip (.exit [1] 0))) (.join [1,3] (.block 1 (.g [.a 60 2 1,.l 61 60,.m 62 3,.r 63 4 61 62,.d 64 4 63,.f 65 15 64,.z 66 65] (.i 66 (.g [.k 2 false] (.ret [2])) .skip))) (.reg [.m 58 3,.v 59 .add 58 1,.m 3 59])))
def B4_1:Cd:=(.join [1,4] (.join [1,4,75] (.reg [.m 67 4,.a 68 6 1,.l 69 68,.u 70 69,.b 71 .lss 67 70,.m 72 71,.my 73 4 72,.vy 74 .lss 73 10 72,.e 75 72 74]) (.i 75 .skip (.exit [1] 2))) (.join [1,4] (.block 3 (.g [.a 78 6 1,.l 79 78,.m 80 4,.r 81 3 79 80,.d 82 3 81,.f 83 16 82,.z 84 83] (.i 84 (.g [.k 2 false] (.ret [2])) .skip))) (.reg [.m 76 4,.v 77 .add 76 1,.m 4 77])))
theorem F4:compF Tryz.prog 4=some ⟨101,[.tmp 2],(.g [.q 1 31 0,.k 2 false] (.z [1] (.join [1] (.join [1,52] (.reg [.a 5 0 1,.l 6 5,.s 7 (.lens (.t 6)),.v 8 .gtr 7 100,.m 9 8,.ax 10 1 1 9,.lx 11 10 9,.x 12 (.f 9 [.t 11]) 9,.x 13 (.un .not (.t 12)) 9,.o 14 9 13,.m 15 14,.ax 16 2 1 15,.lx 17 16 15,.x 18 (.len (.t 17)) 15,.vx 19 .gtr 18 40 15,.o 20 15 19,.m 21 20,.ax 22 3 1 21,.lx 23 22 21,.ax 24 2 1 21,.lx 25 24 21,.x 26 (.f 10 [.t 23,.t 25]) 21,.x 27 (.un .not (.t 26)) 21,.o 28 21 27,.m 29 28,.ax 30 4 1 29,.lx 31 30 29,.x 32 (.f 11 [.t 31]) 29,.x 33 (.un .not (.t 32)) 29,.o 34 29 33,.m 35 34,.ax 36 5 1 35,.lx 37 36 35,.x 38 (.f 12 [.t 37]) 35,.x 39 (.un .not (.t 38)) 35,.o 40 35 39,.m 41 40,.ax 42 7 1 41,.lx 43 42 41,.x 44 (.f 13 [.t 43]) 41,.x 45 (.un .not (.t 44)) 41,.o 46 41 45,.m 47 46,.ax 48 8 1 47,.lx 49 48 47,.x 50 (.f 14 [.t 49,(.c .nils)]) 47,.x 51 (.un .not (.t 50)) 47,.o 52 47 51]) (.i 52 (.g [.k 2 false] (.ret [2])) .skip)) (.join [1] (.g [.c 3 0] (.block 0 (.loop [1,3] [] B4_0))) (.join [1] (.g [.c 4 0] (.block 2 (.loop [1,4] [] B4_1))) (.join [2] (.reg [.a 85 6 1,.l 86 85,.u 87 86,.v 88 .leq 87 3,.m 89 88,.ax 90 6 1 89,.lx 91 90 89,.x 92 (.len (.t 91)) 89,.vx 93 .gtr 92 8 89,.mx 94 93 89,.ay 95 6 1 94,.ly 96 95 94,.y 97 (.len (.t 96)) 94,.vy 98 .leq 97 20 94,.x 99 (.pick (.t 94) (.t 98) (.c (.bool false))) 89,.o 100 89 99,.m 2 100]) (.ret [2])))))))⟩:=by kernel_rfl
def B10_0:Cd:=(.join [1,5] (.join [1,5,31] (.reg [.m 24 5,.m 25 1,.u 26 25,.b 27 .lss 24 26,.m 28 27,.my 29 5 28,.vy 30 .lss 29 6 28,.e 31 28 30]) (.i 31 .skip (.exit [] 0))) (.join [1,5] (.block 1 (.g [.m 34 1,.m 35 5,.r 36 4 34 35,.a 37 3 36,.l 38 37,.u 39 38,.v 40 .gtr 39 16] (.i 40 (.g [.k 4 false] (.ret [4])) .skip))) (.reg [.m 32 5,.v 33 .add 32 1,.m 5 33])))
theorem F10:compF Tryz.prog 10=some ⟨41,[.tmp 4],(.g [.k 4 false] (.join [1] (.join [1,23] (.reg [.m 6 0,.u 7 6,.v 8 .gtr 7 12,.m 9 8,.my 10 0 9,.y 11 (.len (.t 10)) 9,.vy 12 .leq 11 64 9,.e 13 9 12,.m 14 13,.mx 15 1 14,.x 16 (.len (.t 15)) 14,.vx 17 .gtr 16 6 14,.mx 18 17 14,.my 19 1 18,.y 20 (.len (.t 19)) 18,.vy 21 .leq 20 32 18,.x 22 (.pick (.t 18) (.t 21) (.c (.bool false))) 14,.o 23 14 22]) (.i 23 (.g [.k 4 false] (.ret [4])) .skip)) (.join [] (.g [.c 5 0] (.block 0 (.loop [1,5] [] B10_0))) (.g [.k 4 true] (.ret [4])))))⟩:=by kernel_rfl
def B11_0:Cd:=(.join [0,3] (.join [0,3,11] (.reg [.m 4 3,.m 5 0,.u 6 5,.b 7 .lss 4 6,.m 8 7,.my 9 3 8,.vy 10 .lss 9 60 8,.e 11 8 10]) (.i 11 .skip (.exit [0] 0))) (.join [0,3] (.block 1 (.join [0,3,29] (.reg [.m 14 0,.m 15 3,.r 16 2 14 15,.a 17 1 16,.l 18 17,.u 19 18,.v 20 .gtr 19 40,.m 21 20,.my 22 0 21,.my 23 3 21,.ry 24 2 22 23 21,.ay 25 1 24 21,.ly 26 25 21,.y 27 (.len (.t 26)) 21,.vy 28 .leq 27 256 21,.e 29 21 28]) (.i 29 (.g [.k 2 false] (.ret [2])) .skip))) (.reg [.m 12 3,.v 13 .add 12 1,.m 3 13])))
theorem F11:compF Tryz.prog 11=some ⟨33,[.tmp 2],(.g [.k 2 false] (.join [0] (.g [.c 3 0] (.block 0 (.loop [0,3] [] B11_0))) (.g [.m 30 0,.u 31 30,.v 32 .leq 31 60,.m 2 32] (.ret [2]))))⟩:=by kernel_rfl
def B12_0:Cd:=(.join [0,3] (.g [.m 7 3,.m 8 0,.u 9 8,.b 10 .lss 7 9] (.i 10 .skip (.exit [] 0))) (.join [0,3] (.block 1 (.g [.m 13 0,.m 14 3,.r 15 2 13 14,.a 16 1 15,.l 17 16,.u 18 17,.v 19 .gtr 18 512] (.i 19 (.g [.k 2 false] (.ret [2])) .skip))) (.reg [.m 11 3,.v 12 .add 11 1,.m 3 12])))
theorem F12:compF Tryz.prog 12=some ⟨20,[.tmp 2],(.g [.k 2 false] (.join [0] (.g [.m 4 0,.u 5 4,.v 6 .gtr 5 64] (.i 6 (.g [.k 2 false] (.ret [2])) .skip)) (.join [] (.g [.c 3 0] (.block 0 (.loop [0,3] [] B12_0))) (.g [.k 2 true] (.ret [2])))))⟩:=by kernel_rfl
def B13_0:Cd:=(.join [0,3] (.join [0,3,11] (.reg [.m 4 3,.m 5 0,.u 6 5,.b 7 .lss 4 6,.m 8 7,.my 9 3 8,.vy 10 .lss 9 40 8,.e 11 8 10]) (.i 11 .skip (.exit [0] 0))) (.join [0,3] (.block 1 (.join [0,3,29] (.reg [.m 14 0,.m 15 3,.r 16 4 14 15,.a 17 3 16,.l 18 17,.u 19 18,.v 20 .gtr 19 30,.m 21 20,.my 22 0 21,.my 23 3 21,.ry 24 4 22 23 21,.ay 25 3 24 21,.ly 26 25 21,.y 27 (.len (.t 26)) 21,.vy 28 .leq 27 128 21,.e 29 21 28]) (.i 29 (.g [.k 2 false] (.ret [2])) .skip))) (.reg [.m 12 3,.v 13 .add 12 1,.m 3 13])))
theorem F13:compF Tryz.prog 13=some ⟨33,[.tmp 2],(.g [.k 2 false] (.join [0] (.g [.c 3 0] (.block 0 (.loop [0,3] [] B13_0))) (.g [.m 30 0,.u 31 30,.v 32 .leq 31 40,.m 2 32] (.ret [2]))))⟩:=by kernel_rfl
def B14_0:Cd:=(.join [1,5] (.join [1,5,31] (.reg [.m 24 5,.m 25 1,.u 26 25,.b 27 .lss 24 26,.m 28 27,.my 29 5 28,.vy 30 .lss 29 4 28,.e 31 28 30]) (.i 31 .skip (.exit [] 0))) (.join [1,5] (.block 1 (.join [1,5,49] (.reg [.m 34 1,.m 35 5,.r 36 6 34 35,.a 37 1 36,.l 38 37,.u 39 38,.v 40 .gtr 39 8,.m 41 40,.my 42 1 41,.my 43 5 41,.ry 44 6 42 43 41,.ay 45 1 44 41,.ly 46 45 41,.y 47 (.len (.t 46)) 41,.vy 48 .leq 47 256 41,.e 49 41 48]) (.i 49 (.g [.k 4 false] (.ret [4])) .skip))) (.reg [.m 32 5,.v 33 .add 32 1,.m 5 33])))
theorem F14:compF Tryz.prog 14=some ⟨50,[.tmp 4],(.g [.k 4 false] (.join [1] (.join [1,23] (.reg [.m 6 0,.u 7 6,.v 8 .gtr 7 4,.m 9 8,.my 10 0 9,.y 11 (.len (.t 10)) 9,.vy 12 .leq 11 16 9,.e 13 9 12,.m 14 13,.mx 15 1 14,.x 16 (.len (.t 15)) 14,.vx 17 .gtr 16 4 14,.mx 18 17 14,.my 19 1 18,.y 20 (.len (.t 19)) 18,.vy 21 .leq 20 16 18,.x 22 (.pick (.t 18) (.t 21) (.c (.bool false))) 14,.o 23 14 22]) (.i 23 (.g [.k 4 false] (.ret [4])) .skip)) (.join [] (.g [.c 5 0] (.block 0 (.loop [1,5] [] B14_0))) (.g [.k 4 true] (.ret [4])))))⟩:=by kernel_rfl
def B15_0:Cd:=(.join [1,3] (.join [1,3,12] (.reg [.m 4 3,.a 5 3 1,.l 6 5,.u 7 6,.b 8 .lss 4 7,.m 9 8,.my 10 3 9,.vy 11 .lss 10 40 9,.e 12 9 11]) (.i 12 .skip (.exit [1] 0))) (.join [1,3] (.block 1 (.g [.a 15 3 1,.l 16 15,.m 17 3,.r 18 10 16 17,.a 19 9 18,.l 20 19,.u 21 20,.v 22 .gtr 21 40] (.i 22 (.g [.k 2 false] (.ret [2])) .skip))) (.reg [.m 13 3,.v 14 .add 13 1,.m 3 14])))
theorem F15:compF Tryz.prog 15=some ⟨33,[.tmp 2],(.g [.q 1 51 0,.k 2 false] (.z [1] (.join [1] (.g [.c 3 0] (.block 0 (.loop [1,3] [] B15_0))) (.join [2] (.reg [.a 23 3 1,.l 24 23,.u 25 24,.v 26 .leq 25 40,.m 27 26,.ay 28 0 1 27,.ly 29 28 27,.y 30 (.lens (.t 29)) 27,.vy 31 .leq 30 100 27,.e 32 27 31,.m 2 32]) (.ret [2])))))⟩:=by kernel_rfl
def B16_0:Cd:=(.join [1,3,4] (.g [.m 15 4,.a 16 2 1,.l 17 16,.u 18 17,.b 19 .lss 15 18] (.i 19 .skip (.exit [] 0))) (.join [1,3,4] (.block 1 (.g [.m 22 3,.a 23 2 1,.l 24 23,.m 25 4,.r 26 9 24 25,.a 27 2 26,.l 28 27,.u 29 28,.b 30 .add 22 29,.m 3 30] (.join [1,3,4,42] (.reg [.a 31 2 1,.l 32 31,.m 33 4,.r 34 9 32 33,.a 35 2 34,.l 36 35,.u 37 36,.v 38 .gtr 37 20,.m 39 38,.mx 40 3 39,.vx 41 .gtr 40 30 39,.o 42 39 41]) (.i 42 (.g [.d 43 3 1,.f 44 44 43,.v 45 .neq 44 0,.m 2 45] (.ret [2])) .skip)))) (.reg [.m 20 4,.v 21 .add 20 1,.m 4 21])))
theorem F16:compF Tryz.prog 16=some ⟨46,[.tmp 2],(.g [.q 1 55 0,.k 2 false] (.z [1] (.join [1] (.g [.d 5 3 1,.f 6 43 5,.z 7 6] (.i 7 (.g [.k 2 false] (.ret [2])) .skip)) (.join [1] (.g [.a 8 2 1,.l 9 8,.u 10 9,.v 11 .gtr 10 10] (.i 11 (.g [.d 12 3 1,.f 13 44 12,.v 14 .neq 13 0,.m 2 14] (.ret [2])) .skip)) (.g [.c 3 0] (.join [] (.g [.c 4 0] (.block 0 (.loop [1,3,4] [] B16_0))) (.g [.k 2 true] (.ret [2]))))))))⟩:=by kernel_rfl
def B43_0:Cd:=(.join [1,3] (.g [.m 8 3,.a 9 2 1,.l 10 9,.u 11 10,.b 12 .lss 8 11] (.i 12 .skip (.exit [] 0))) (.join [1,3] (.block 1 (.g [.a 15 2 1,.l 16 15,.m 17 3,.r 18 9 16 17,.d 19 9 18,.f 20 93 19,.z 21 20] (.i 21 (.g [.k 2 false] (.ret [2])) .skip))) (.reg [.m 13 3,.v 14 .add 13 1,.m 3 14])))
theorem F43:compF Tryz.prog 43=some ⟨22,[.tmp 2],(.g [.q 1 55 0,.k 2 false] (.z [1] (.join [1] (.g [.a 4 2 1,.l 5 4,.u 6 5,.v 7 .gtr 6 128] (.i 7 (.g [.k 2 false] (.ret [2])) .skip)) (.join [] (.g [.c 3 0] (.block 0 (.loop [1,3] [] B43_0))) (.g [.k 2 true] (.ret [2]))))))⟩:=by kernel_rfl
theorem F93:compF Tryz.prog 93=some ⟨30,[.tmp 2],(.g [.q 1 115 0,.k 2 false] (.z [1] (.join [2] (.reg [.a 3 0 1,.l 4 3,.s 5 (.lens (.t 4)),.v 6 .leq 5 40,.m 7 6,.ay 8 1 1 7,.ly 9 8 7,.y 10 (.lens (.t 9)) 7,.vy 11 .leq 10 100 7,.e 12 7 11,.m 13 12,.ay 14 7 1 13,.ly 15 14 13,.y 16 (.lens (.t 15)) 13,.vy 17 .leq 16 40 13,.e 18 13 17,.m 19 18,.ay 20 3 1 19,.ly 21 20 19,.y 22 (.len (.t 21)) 19,.vy 23 .leq 22 10 19,.e 24 19 23,.m 25 24,.ay 26 2 1 25,.ly 27 26 25,.y 28 (.f 148 [.t 27]) 25,.e 29 25 28,.m 2 29]) (.ret [2]))))⟩:=by kernel_rfl
theorem F148:compF Tryz.prog 148=some ⟨6,[.tmp 2],(.g [.k 2 false] (.g [.m 3 0,.u 4 3,.v 5 .leq 4 300,.m 2 5] (.ret [2])))⟩:=by kernel_rfl
end Go.Proofs.YtkpcomdhdjihlaaGreatDoor

namespace Go.Proofs.YtkpcomdhdjihlaaGreatDoor
open Go.Sha
set_option maxRecDepth 100000
variable {g:List (Nat×Obj)}{n:Nat}
def anyN {α:Type}(m:Int)(p:α→Prop)[DecidablePred p]:List α→Nat→Bool
 |[],_=>false
 |q::r,j=>if(j:Int)<m then if p q then true else anyN m p r (j+1) else false
theorem L9 {l:List (List Pt)}(hl:l.length<140737488355328):∀r j,l.drop j=r→runL Tryz.prog HH [0,3] n B9_0 [(0,.sl (l.map Pt.vs)),(3,.int .i64 j)] (stN g n)=lpB (stN g n) [(0,.sl (l.map Pt.vs))] 2 (anyN 40 (fun q:List Pt=>40<(q.length:Int)) r j) false:=by
 refine drop_ind (fun j h=>?_) (fun q r j h hx hd ih=>?_)
 all_goals rw[runL_of B9_0.eq_1]
 ·have h1:¬(j:Int)<l.length:=by omega
  push_cast[h1,anyN]
 ·have h1:(j:Int)<l.length:=by omega
  have hw:=iw1 (j:=j) (by omega)
  push_cast[h1,hw,hx,f42]at ih ⊢
  simp only[ih,anyN,lps,Int.reduceEq,not_false_eq_true]
  all_goals ((repeat' split)<;>simp_all)
theorem f9 {l:List (List Pt)}(hl:l.length<140737488355328):∃b,∀st,run Tryz.prog HH 9 [.sl (l.map Pt.vs)] st=some (.ret (.bool b),st):=by
 refine⟨if anyN 40 (fun q:List Pt=>40<(q.length:Int)) l 0=true then false else decide ((l.length:Int)≤40),fun st=>?_⟩
 rw[run_shut F9 rfl rfl (by simp)]
 have hL0:=fun n=>L9 (g:=st.x.gl) (n:=n) hl _ 0 rfl
 push_cast at hL0
 push_cast[hL0,lpE,lpX,lpI,lpB]
theorem L10 {l:List Prof}(hl:l.length<140737488355328):∀r j,l.drop j=r→runL Tryz.prog HH [1,5] n B10_0 [(1,.sl (l.map Prof.v)),(5,.int .i64 j)] (stN g n)=lpB (stN g n) [] 4 (anyN 6 (fun q:Prof=>16<(q.feats.length:Int)) r j) false:=by
 refine drop_ind (fun j h=>?_) (fun q r j h hx hd ih=>?_)
 all_goals rw[runL_of B10_0.eq_1]
 ·have h1:¬(j:Int)<l.length:=by omega
  push_cast[h1,anyN,Prof.v]
 ·have h1:(j:Int)<l.length:=by omega
  have hw:=iw1 (j:=j) (by omega)
  push_cast[h1,hw,hx,Prof.v]at ih ⊢
  simp only[ih,anyN,lps,Int.reduceEq,not_false_eq_true]
theorem f10 {l:List Fixt}{ps:List Prof}(hl:ps.length<140737488355328):∃b,∀st,run Tryz.prog HH 10 [.sl (l.map Fixt.v),.sl (ps.map Prof.v)] st=some (.ret (.bool b),st):=by
 apply Exists.intro
 intro st
 have hL0:=fun n=>L10 (g:=st.x.gl) (n:=n) hl _ 0 rfl
 rw[run_shut F10 rfl rfl (by simp)]
 push_cast at hL0
 push_cast[hL0,lpB]
 exact rfl
theorem L11 {l:List Grp}(hl:l.length<140737488355328):∀r j,l.drop j=r→runL Tryz.prog HH [0,3] n B11_0 [(0,.sl (l.map Grp.v)),(3,.int .i64 j)] (stN g n)=lpB (stN g n) [(0,.sl (l.map Grp.v))] 2 (anyN 60 (fun q:Grp=>40<(q.chans.length:Int)∧(q.chans.length:Int)≤256) r j) false:=by
 refine drop_ind (fun j h=>?_) (fun q r j h hx hd ih=>?_)
 all_goals rw[runL_of B11_0.eq_1]
 ·have h1:¬(j:Int)<l.length:=by omega
  push_cast[h1,anyN,Grp.v]
 ·have h1:(j:Int)<l.length:=by omega
  have hw:=iw1 (j:=j) (by omega)
  push_cast[h1,hw,hx,Grp.v]at ih ⊢
  simp only[ih,anyN,lps,Int.reduceEq,not_false_eq_true]
theorem f11 {l:List Grp}(hl:l.length<140737488355328):∃b,∀st,run Tryz.prog HH 11 [.sl (l.map Grp.v)] st=some (.ret (.bool b),st):=by
 refine⟨if anyN 60 (fun q:Grp=>40<(q.chans.length:Int)∧(q.chans.length:Int)≤256) l 0=true then false else decide ((l.length:Int)≤60),fun st=>?_⟩
 rw[run_shut F11 rfl rfl (by simp)]
 have hL0:=fun n=>L11 (g:=st.x.gl) (n:=n) hl _ 0 rfl
 push_cast at hL0
 push_cast[hL0,lpE,lpX,lpI,lpB]
def anyP {α:Type}(p:α→Prop)[DecidablePred p]:List α→Bool
 |[]=>false
 |q::r=>if p q then true else anyP p r
theorem L12 {l:List Pal}(hl:l.length<140737488355328):∀r j,l.drop j=r→runL Tryz.prog HH [0,3] n B12_0 [(0,.sl (l.map Pal.v)),(3,.int .i64 j)] (stN g n)=lpB (stN g n) [] 2 (anyP (fun q:Pal=>512<(q.hues.length:Int)) r) false:=by
 refine drop_ind (fun j h=>?_) (fun q r j h hx hd ih=>?_)
 all_goals rw[runL_of B12_0.eq_1]
 ·have h1:¬(j:Int)<l.length:=by omega
  push_cast[h1,anyP,Pal.v]
 ·have h1:(j:Int)<l.length:=by omega
  have hw:=iw1 (j:=j) (by omega)
  push_cast[h1,hw,hx,Pal.v]at ih ⊢
  simp only[ih,anyP,lps,Int.reduceEq,not_false_eq_true]
theorem f12 {l:List Pal}(hl:l.length<140737488355328):∃b,∀st,run Tryz.prog HH 12 [.sl (l.map Pal.v)] st=some (.ret (.bool b),st):=by
 refine⟨if 64<(l.length:Int) then false else if anyP (fun q:Pal=>512<(q.hues.length:Int)) l=true then false else true,fun st=>?_⟩
 rw[run_shut F12 rfl rfl (by simp)]
 have hL0:=fun n=>L12 (g:=st.x.gl) (n:=n) hl _ 0 rfl
 push_cast at hL0
 push_cast[hL0,lpE,lpX,lpI,lpB]
theorem L13 {l:List Sb}(hl:l.length<140737488355328):∀r j,l.drop j=r→runL Tryz.prog HH [0,3] n B13_0 [(0,.sl (l.map Sb.v)),(3,.int .i64 j)] (stN g n)=lpB (stN g n) [(0,.sl (l.map Sb.v))] 2 (anyN 40 (fun q:Sb=>30<(q.gains.length:Int)∧(q.gains.length:Int)≤128) r j) false:=by
 refine drop_ind (fun j h=>?_) (fun q r j h hx hd ih=>?_)
 all_goals rw[runL_of B13_0.eq_1]
 ·have h1:¬(j:Int)<l.length:=by omega
  push_cast[h1,anyN,Sb.v]
 ·have h1:(j:Int)<l.length:=by omega
  have hw:=iw1 (j:=j) (by omega)
  push_cast[h1,hw,hx,Sb.v]at ih ⊢
  simp only[ih,anyN,lps,Int.reduceEq,not_false_eq_true]
theorem f13 {l:List Sb}(hl:l.length<140737488355328):∃b,∀st,run Tryz.prog HH 13 [.sl (l.map Sb.v)] st=some (.ret (.bool b),st):=by
 refine⟨if anyN 40 (fun q:Sb=>30<(q.gains.length:Int)∧(q.gains.length:Int)≤128) l 0=true then false else decide ((l.length:Int)≤40),fun st=>?_⟩
 rw[run_shut F13 rfl rfl (by simp)]
 have hL0:=fun n=>L13 (g:=st.x.gl) (n:=n) hl _ 0 rfl
 push_cast at hL0
 push_cast[hL0,lpE,lpX,lpI,lpB]
theorem f14 {l:List Eff}:∃b,∀st,run Tryz.prog HH 14 [.sl (l.map Eff.v),.sl []] st=some (.ret (.bool b),st):=by
 refine⟨if 4<(l.length:Int)∧(l.length:Int)≤16 then false else true,fun st=>?_⟩
 rw[run_shut F14 rfl rfl (by simp)]
 push_cast[runL_of B14_0.eq_1]
theorem L15 {x:Prof}(hl:x.feats.length<140737488355328):∀r j,x.feats.drop j=r→runL Tryz.prog HH [1,3] n B15_0 [(1,.ep x.v 0),(3,.int .i64 j)] (stN g n)=lpB (stN g n) [(1,.ep x.v 0)] 2 (anyN 40 (fun q:Ftr=>40<(q.wheel.length:Int)) r j) false:=by
 refine drop_ind (fun j h=>?_) (fun q r j h hx hd ih=>?_)
 all_goals rw[runL_of B15_0.eq_1]
 ·have h1:¬(j:Int)<x.feats.length:=by omega
  push_cast[h1,anyN,Prof.v,Ftr.v]
 ·have h1:(j:Int)<x.feats.length:=by omega
  have hw:=iw1 (j:=j) (by omega)
  push_cast[h1,hw,hx,Prof.v,Ftr.v]at ih ⊢
  simp only[ih,anyN,lps,Int.reduceEq,not_false_eq_true]
def few51 (x:Prof):Bool:=if anyN 40 (fun q:Ftr=>40<(q.wheel.length:Int)) x.feats 0=true then false else(decide ((x.feats.length:Int)≤40)&&decide ((x.name.length:Int)≤100))
theorem f15 {x:Prof}(hl:x.feats.length<140737488355328){st:St}:run Tryz.prog HH 15 [x.v] st=some (.ret (.bool (few51 x)),st):=by
 rw[run_shut F15 rfl rfl (by simp)]
 have hL0:=fun n=>L15 (g:=st.x.gl) (n:=n) hl _ 0 rfl
 push_cast[Prof.v,few51]at hL0
 push_cast[Prof.v,few51,hL0,lpE,lpX,lpI,lpB]
def few129 (x:Cu):Bool:=decide ((x.num.length:Int)≤40)&&(decide ((x.label.length:Int)≤100)&&(decide ((x.link.length:Int)≤40)&&(decide ((x.parts.length:Int)≤10)&&decide ((x.moves.length:Int)≤300))))
theorem f93 {x:Cu}{st:St}:run Tryz.prog HH 93 [x.v] st=some (.ret (.bool (few129 x)),st):=by
 rw[run_shut F93 rfl rfl (by simp)]
 push_cast[Cu.v,(fun(a0:V) (st:St) (h:V.bdL 0 [a0]=true)=>run_shut (P:=Tryz.prog) (H:=HH) (args:=[a0]) (st:=st) F148 rfl rfl h),few129]
theorem L43 {x:Lst}(hl:x.cues.length<140737488355328):∀r j,x.cues.drop j=r→runL Tryz.prog HH [1,3] n B43_0 [(1,.ep x.v 0),(3,.int .i64 j)] (stN g n)=lpB (stN g n) [] 2 (anyP (fun q:Cu=>few129 q=false) r) false:=by
 refine drop_ind (fun j h=>?_) (fun q r j h hx hd ih=>?_)
 all_goals rw[runL_of B43_0.eq_1]
 ·have h1:¬(j:Int)<x.cues.length:=by omega
  push_cast[h1,anyP,Lst.v,Cu.v]
 ·have h1:(j:Int)<x.cues.length:=by omega
  have hw:=iw1 (j:=j) (by omega)
  push_cast[h1,hw,hx,Lst.v,Cu.v,f93]at ih ⊢
  simp only[ih,anyP,lps,Int.reduceEq,not_false_eq_true]
theorem f43 {x:Lst}(hl:x.cues.length<140737488355328):∃b,∀st,run Tryz.prog HH 43 [x.v] st=some (.ret (.bool b),st):=by
 refine⟨if 128<(x.cues.length:Int) then false else if anyP (fun q:Cu=>few129 q=false) x.cues=true then false else true,fun st=>?_⟩
 rw[run_shut F43 rfl rfl (by simp)]
 have hL0:=fun n=>L43 (g:=st.x.gl) (n:=n) hl _ 0 rfl
 push_cast[Lst.v]at hL0
 push_cast[Lst.v,hL0,lpE,lpX,lpI,lpB]
def add52:List Cu→Int→Option Int
 |[],_=>none
 |q::r,m=>if 20<(q.moves.length:Int)∨30<IntKind.i64.wrap (m+q.moves.length) then some 1 else add52 r (IntKind.i64.wrap (m+q.moves.length))
theorem L16 {x:Lst}(hx0:x.ok):∀r j,x.cues.drop j=r→∀m,runL Tryz.prog HH [1,3,4] n B16_0 [(1,.ep x.v 0),(3,.int .i64 m),(4,.int .i64 j)] (stN g n)=(match add52 r m with|none=>some (.exit 0,[],stN g n)|some _=>some (.ret,[(2,.bool (lstR x != 0))],stN g n)):=by
 have hl:=hx0.a
 have h91:=fun(st:St)=>f44 (st:=st) hx0
 refine drop_ind (fun j h m=>?_) (fun q r j h hx hd ih m=>?_)
 all_goals rw[runL_of B16_0.eq_1]
 ·have h1:¬(j:Int)<x.cues.length:=by omega
  push_cast[h1,add52,Lst.v]
 ·have h1:(j:Int)<x.cues.length:=by omega
  have hw:=iw1 (j:=j) (by omega)
  push_cast[Lst.v]at h91
  push_cast[h1,hw,hx,Lst.v,Cu.v,h91]at ih ⊢
  simp only[ih,add52]
  split<;>rfl
theorem f16 {x:Lst}(h:x.ok):∃b,∀st,run Tryz.prog HH 16 [x.v] st=some (.ret (.bool b),st):=by
 obtain⟨b,hb⟩:=f43 h.a
 have h91:=fun(st:St)=>f44 (st:=st) h
 have h0:=fun g n=>L16 (g:=g) (n:=n) h x.cues 0 rfl 0
 cases h2:add52 x.cues 0 with
 |none =>
  rw[h2]at h0
  push_cast[Lst.v]at h0 hb h91
  refine⟨if b=false then false else if 10<(x.cues.length:Int) then lstR x != 0 else true,fun st=>?_⟩
  rw[run_shut F16 rfl rfl (by simp)]
  push_cast[Lst.v,hb,h91,h0]
 |some k =>
  rw[h2]at h0
  push_cast[Lst.v]at h0 hb h91
  refine⟨if b=false then false else lstR x != 0,fun st=>?_⟩
  rw[run_shut F16 rfl rfl (by simp)]
  push_cast[Lst.v,hb,h91,h0]
open Classical in
noncomputable def few52 (x:Lst):Bool:=if h:x.ok then(f16 h).choose else false
theorem f16' {x:Lst}(h:x.ok){st:St}:run Tryz.prog HH 16 [x.v] st=some (.ret (.bool (few52 x)),st):=by
 unfold few52;rw[dif_pos h];exact(f16 h).choose_spec st
theorem L4_0 {x:Sho}(hx0:x.ok):∀r j,x.profs.drop j=r→runL Tryz.prog HH [1,3] n B4_0 [(1,.ep x.v 0),(3,.int .i64 j)] (stN g n)=lpB (stN g n) [(1,.ep x.v 0)] 2 (anyP (fun q=>few51 q=false) r) false:=by
 have hl:=hx0.p.1
 refine drop_ind (fun j h=>?_) (fun q r j h hx hd ih=>?_)
 all_goals rw[runL_of B4_0.eq_1]
 ·have h1:¬(j:Int)<x.profs.length:=by omega
  push_cast[h1,anyP,Sho.v,Prof.v]
 ·have h1:(j:Int)<x.profs.length:=by omega
  have hw:=iw1 (j:=j) (by omega)
  have hq:q.feats.length<140737488355328:=(hx0.p.2.1 q (mem_at hd)).a
  push_cast[h1,hw,hx,Sho.v,Prof.v,f15 hq]at ih ⊢
  simp only[ih,anyP,lps,Int.reduceEq,not_false_eq_true]
theorem L4_1 {x:Sho}(hx0:x.ok):∀r j,x.lsts.drop j=r→runL Tryz.prog HH [1,4] n B4_1 [(1,.ep x.v 0),(4,.int .i64 j)] (stN g n)=if anyN 10 (fun q=>few52 q=false) r j=true then some (.ret,[(2,.bool false)],stN g n) else some (.exit 2,[(1,.ep x.v 0)],stN g n):=by
 have hl:=hx0.k.1
 refine drop_ind (fun j h=>?_) (fun q r j h hx hd ih=>?_)
 all_goals rw[runL_of B4_1.eq_1]
 ·have h1:¬(j:Int)<x.lsts.length:=by omega
  push_cast[h1,anyN,Sho.v,Lst.v]
 ·have h1:(j:Int)<x.lsts.length:=by omega
  have hw:=iw1 (j:=j) (by omega)
  have hq:q.ok:=hx0.k.2 q (mem_at hd)
  push_cast[h1,hw,hx,Sho.v,Lst.v,f16' hq]at ih ⊢
  simp only[ih,anyN,lps,Int.reduceEq,not_false_eq_true]
  all_goals ((repeat' split)<;>simp_all)
theorem f4 {x:Sho}(h:x.ok):∃b,∀st,run Tryz.prog HH 4 [x.v] st=some (.ret (.bool b),st):=by
 obtain⟨b1,h1⟩:=f9 h.c.1
 obtain⟨b2,h2⟩:=f10 (l:=x.fixts) h.p.1
 obtain⟨b3,h3⟩:=f11 h.g.1
 obtain⟨b4,h4⟩:=f12 h.l.1
 obtain⟨b5,h5⟩:=f13 h.s.1
 obtain⟨b6,h6⟩:=f14 (l:=x.effs)
 have k0:=fun g n=>L4_0 (g:=g) (n:=n) h x.profs 0 rfl
 have k1:=fun g n=>L4_1 (g:=g) (n:=n) h x.lsts 0 rfl
 push_cast[Sho.v]at k0 k1
 apply Exists.intro
 intro st
 rw[run_shut F4 rfl rfl (by simp)]
 push_cast[Sho.v,h1,h2,h3,h4,h5,h6,k0,k1,lpB]
 exact rfl
end Go.Proofs.YtkpcomdhdjihlaaGreatDoor

namespace Go.Proofs.YtkpcomdhdjihlaaGreatDoor
open Go.Sha
set_option maxRecDepth 10000
theorem F69:compF Tryz.prog 69=some ⟨16,[.tmp 4],(.g [.q 2 31 0,.q 3 123 1,.s 4 (.mv (.c .nils))] (.z [2,3] (.g [.a 6 2 2,.l 7 6,.s 8 (.mkfn (.func 128) [] [.t 3]),.g' 9 127 7 8,.m 5 9] (.g [.a 10 2 2,.l 11 10,.m 12 5,.r 13 4 11 12,.a 14 3 13,.l 15 14,.m 4 15] (.ret [4])))))⟩:=by kernel_rfl
def B127_0:Cd:=(.g [.b 9 .lss 8 7] (.join [0,1,7,8] (.i 9 .skip (.exit [] 0)) (.join [0,1,7,8] (.block 1 (.g [.m 10 8,.m 5 10] (.g [.m 11 1,.m 12 0,.m 13 5,.r 14 4 12 13,.d 15 4 14,.s 16 (.call (.t 11) [.t 15])] (.i 16 (.g [.m 17 5,.m 4 17] (.ret [4])) .skip)))) (.reg [.v 18 .add 8 1,.m 8 18]))))
theorem F127:compF Tryz.prog 127=some ⟨19,[.tmp 4],(.g [.c 4 0] (.join [] (.g [.m 6 0,.u 7 6,.c 8 0] (.block 0 (.loop [0,1,7,8] [] B127_0))) (.g [.c 4 (-1)] (.ret [4]))))⟩:=by kernel_rfl
theorem F128:compF Tryz.prog 128=some ⟨9,[.tmp 3],(.g [.q 2 51 0,.k 3 false] (.z [2] (.g [.a 4 0 2,.l 5 4,.a 6 2 1,.l 7 6,.b 8 .eql 5 7,.m 3 8] (.ret [3]))))⟩:=by kernel_rfl
def B75_0:Cd:=(.g [.b 39 .lss 38 37] (.join [2,3,4,6,7,9,13,14,15,36,37,38] (.i 39 .skip (.exit [2,3,4,6,7,13,14,15] 2)) (.join [2,3,4,6,7,9,13,14,15,36,37,38] (.block 3 (.g [.r 40 10 36 38,.d 41 10 40,.s 11 (.alloc 110 [.i 0,.i 0,.i 0,.i 0,.i 0,.i 0,.i 0,.i 0,(.bool false),.nils]),.w 10 11 41] (.z [11] (.g [.a 42 0 11,.l 43 42,.a 44 1 3,.l 45 44,.b 46 .eql 43 45] (.i 46 (.greg [[],[],[],[true,true,false],[]] [.d 47 10 11,.a 48 1 9,.l 49 48,.w 10 6 47,.m 7 49]) .skip))))) (.reg [.v 50 .add 38 1,.m 38 50]))))
def B75_1:Cd:=(.g [.b 16 .lss 15 14] (.join [2,3,4,6,7,13,14,15] (.i 16 .skip (.exit [4,6,7] 0)) (.join [2,3,4,6,7,13,14,15] (.block 1 (.g [.r 17 7 13 15,.d 18 7 17,.s 9 (.alloc 123 [.i 0,.i 0,(.str []),.i 0,.i 0,.i 0,(.str [])]),.w 7 9 18] (.z [9] (.join [2,3,4,6,7,9,13,14,15] (.join [2,3,4,6,7,9,13,14,15,33] (.reg [.a 19 0 9,.l 20 19,.a 21 0 3,.l 22 21,.b 23 .neq 20 22,.m 24 23,.mx 25 7 24,.vx 26 .gtr 25 0 24,.mx 27 26 24,.ay 28 1 9 27,.ly 29 28 27,.my 30 7 27,.by' 31 .gtr 29 30 27,.x 32 (.pick (.t 27) (.t 31) (.c (.bool false))) 24,.o 33 24 32]) (.i 33 (.exit [2,3,4,6,7,13,14,15] 1) .skip)) (.g [.d 34 9 2,.d 35 7 9,.g' 36 69 34 35,.u 37 36,.c 38 0] (.block 2 (.loop [2,3,4,6,7,9,13,14,15,36,37,38] [] B75_0))))))) (.reg [.v 51 .add 15 1,.m 15 51]))))
theorem F75:compF Tryz.prog 75=some ⟨55,[.cell 4 (some 10),.tmp 5],(.g [.q 2 31 0,.q 3 71 1,.s 4 (.alloc 110 [.i 0,.i 0,.i 0,.i 0,.i 0,.i 0,.i 0,.i 0,(.bool false),.nils]),.k 5 false] (.z [2,3] (.g [.s 6 (.alloc 110 [.i 0,.i 0,.i 0,.i 0,.i 0,.i 0,.i 0,.i 0,(.bool false),.nils])] (.g [.c 7 0] (.join [4,6,7] (.g [.a 12 3 2,.l 13 12,.u 14 13,.c 15 0] (.block 0 (.loop [2,3,4,6,7,13,14,15] [] B75_1))) (.g [.d 52 10 6,.m 53 7,.v 54 .gtr 53 0,.w 10 4 52,.m 5 54] (.ret [4,5])))))))⟩:=by kernel_rfl
end Go.Proofs.YtkpcomdhdjihlaaGreatDoor

namespace Go.Proofs.YtkpcomdhdjihlaaGreatDoor
open Go.Sha
set_option maxRecDepth 100000
variable {g:List (Nat×Obj)}{n:Nat}
theorem f128 {p:Prof}{x:Fixt}{st:St}:run Tryz.prog HH 128 [p.v,.ep x.v 0] st=some (.ret (.bool (p.name == x.prof)),st):=by
 rw[run_shut F128 rfl rfl (by simp)]
 push_cast[Prof.v,Fixt.v]
theorem f127 {l:List Prof}{x:Fixt}(hl:l.length<140737488355328){st:St}:run Tryz.prog HH 127 [.sl (l.map Prof.v),.fn (.func 128) [] [.ep x.v 0]] st=some (.ret (.int .i64 (ix (fun p=>p.name == x.prof) l 0)),st) :=
 IxF (f:=Prof.v) (n:=some 4) (fun _=>rfl) (fun _=>rfl) F127 rfl (by simp) hl (fun q _ _=>f128) (fun _ _=>rfl) (fun _=>rfl)
theorem f69 {s:Sho}{x:Fixt}{q:Prof}(hl:s.profs.length<140737488355328)(hq:pfx s.profs x.prof=some q){st:St}:run Tryz.prog HH 69 [s.v,x.v] st=some (.ret (.sl (q.feats.map Ftr.v)),st):=by
 obtain⟨k,k1,k2,k3⟩:=(ix_find (j:=0)).2 q hq
 rw[Nat.zero_add]at k1
 have k4:(k:Int)<s.profs.length:=by omega
 have h92:=fun(st:St)=>f127 (x:=x) (st:=st) hl
 rw[k1]at h92
 push_cast[Fixt.v]at h92
 rw[run_shut F69 rfl rfl (by simp)]
 push_cast[Sho.v,Fixt.v,Prof.v,h92,k3,k4]
def fcV:Option Ftr→List V
 |none=>[.i 0,.i 0,.i 0,.i 0,.i 0,.i 0,.i 0,.i 0,.bool false,.nils]
 |some f=>f.v.cells
@[push_cast]theorem fc_len {o:Option Ftr}:(fcV o).length=10:=by cases o<;>rfl
@[push_cast]theorem fc_drop {o:Option Ftr}:(fcV o).drop 10=[]:=by cases o<;>rfl
@[push_cast]theorem fc_bd {o:Option Ftr}:V.bdL n (fcV o)=true:=by cases o<;>simp[fcV,V.bdL,V.bd,V.cells,bdL_map']
theorem fc_some {f:Ftr}:fcV (some f)=f.v.cells:=rfl
def stF (g:List (Nat×Obj))(n:Nat)(o:Option Ftr):St:=⟨n,[(3,fcV o),(2,[.i 0,.i 0,.i 0,.i 0,.i 0,.i 0,.i 0,.i 0,.bool false,.nils])],[],⟨[],g,[]⟩⟩
@[push_cast]theorem stF_eq {o:Option Ftr}:stF g n o=⟨n,[(3,fcV o),(2,[.i 0,.i 0,.i 0,.i 0,.i 0,.i 0,.i 0,.i 0,.bool false,.nils])],[],⟨[],g,[]⟩⟩:=idq rfl
def ftL (a pt:Int):List Ftr→Option Ftr×Int→Option Ftr×Int
 |[],s=>s
 |f::r,s=>ftL a pt r (if f.attr=a then(some f,pt) else s)
theorem L75_0 {l:List Ftr}{p:Prm}{x:Fixt}{e2 e13 e14 e15:V}(hl:l.length<140737488355328)(b2:V.bd 5 e2=true)(b13:V.bd 5 e13=true)(b14:V.bd 5 e14=true)(b15:V.bd 5 e15=true):∀r j,l.drop j=r→∀o m,
  runL Tryz.prog HH [2,3,4,6,7,9,13,14,15,36,37,38] 5 B75_0 [(2,e2),(3,.ep p.v 0),(4,.ptr 2 0),(6,.ptr 3 0),(7,.int .i64 m),(9,.ep x.v 0),(13,e13),(14,e14),(15,e15),(36,.sl (l.map Ftr.v)),(37,.int .i64 l.length),(38,.int .i64 j)] (stF g 5 o)
   = some (.exit 2,[(2,e2),(3,.ep p.v 0),(4,.ptr 2 0),(6,.ptr 3 0),(7,.int .i64 (ftL p.attr x.part r (o,m)).2),(13,e13),(14,e14),(15,e15)],stF g 5 (ftL p.attr x.part r (o,m)).1):=by
 refine drop_ind (fun j h o m=>?_) (fun q r j h hx hd ih o m=>?_)
 all_goals rw[runL_of B75_0.eq_1]
 ·have h1:¬(j:Int)<l.length:=by omega
  push_cast[h1,ftL,Ftr.v]
 ·have h1:(j:Int)<l.length:=by omega
  have hw:=iw1 (j:=j) (by omega)
  rw[ftL]
  by_cases h2:q.attr=p.attr
  ·rw[if_pos h2]
   have ih:=ih (some q) x.part
   have h3:=eq_true h2
   push_cast[h1,hw,hx,Ftr.v,Prm.v,Fixt.v,fc_some,h3,b2,b13,b14,b15]at ih ⊢
   exact ih
  ·rw[if_neg h2]
   have ih:=ih o m
   push_cast[h1,hw,hx,Ftr.v,Prm.v,Fixt.v,h2,b2,b13,b14,b15]at ih ⊢
   exact ih
def ftX (ps:List Prof)(p:Prm)(x:Fixt)(s:Option Ftr×Int):Option Ftr×Int:=if ¬x.chan=p.chan∨0<s.2∧s.2<x.part then s else ftL p.attr x.part (((pfx ps x.prof).map Prof.feats).getD []) s
theorem L75_1 {s:Sho}{p:Prm}(hl:s.fixts.length<140737488355328)(hp:s.profs.length<140737488355328)(hq:∀q∈s.profs,q.feats.length<140737488355328)(hf:∀x∈s.fixts,(pfx s.profs x.prof).isSome=true):∀r j,s.fixts.drop j=r→∀o m,
  runL Tryz.prog HH [2,3,4,6,7,13,14,15] 4 B75_1 [(2,.ep s.v 0),(3,.ep p.v 0),(4,.ptr 2 0),(6,.ptr 3 0),(7,.int .i64 m),(13,.sl (s.fixts.map Fixt.v)),(14,.int .i64 s.fixts.length),(15,.int .i64 j)] (stF g 4 o)
   = some (.exit 0,[(4,.ptr 2 0),(6,.ptr 3 0),(7,.int .i64 (r.foldl (fun a x=>ftX s.profs p x a) (o,m)).2)],stF g 4 (r.foldl (fun a x=>ftX s.profs p x a) (o,m)).1):=by
 refine drop_ind (fun j h o m=>?_) (fun x r j h hx hd ih o m=>?_)
 all_goals rw[runL_of B75_1.eq_1]
 ·have h1:¬(j:Int)<s.fixts.length:=by omega
  push_cast[h1,List.foldl_nil,Sho.v,Fixt.v]
 ·have h1:(j:Int)<s.fixts.length:=by omega
  have hw:=iw1 (j:=j) (by omega)
  obtain⟨q,hq1⟩:=Option.isSome_iff_exists.1 (hf x (mem_at hd))
  have hq2:=hq q (List.mem_of_find?_eq_some hq1)
  have h55:=fun(st:St)=>f69 (st:=st) hp hq1
  have h0:=fun m o=>L75_0 (g:=g) (l:=q.feats) (p:=p) (x:=x) (e2:=.ep s.v 0) (e13:=.sl (s.fixts.map Fixt.v)) (e14:=.int .i64 s.fixts.length) (e15:=.int .i64 j) hq2 (by simp[V.bd,V.bdL,bdL_map']) (by simp[V.bd,V.bdL,bdL_map']) rfl rfl _ 0 rfl o m
  have e:ftX s.profs p x (o,m)=if ¬x.chan=p.chan∨0<m∧m<x.part then(o,m) else ftL p.attr x.part q.feats (o,m):=by simp only[ftX,hq1];rfl
  rw[List.foldl_cons,e]
  by_cases h2:¬x.chan=p.chan∨0<m∧m<x.part
  ·rw[if_pos h2]
   have ih:=ih o m
   have h3:=eq_true h2
   push_cast[h1,hw,hx,Sho.v,Fixt.v,Prm.v,h3]at ih ⊢
   exact ih
  ·rw[if_neg h2]
   have ih:=ih (ftL p.attr x.part q.feats (o,m)).1 (ftL p.attr x.part q.feats (o,m)).2
   have h3:=eq_false h2
   push_cast[Sho.v,Fixt.v,Prm.v]at h55 h0
   push_cast[h1,hw,hx,Sho.v,Fixt.v,Prm.v,h3,h55,h0]at ih ⊢
   exact ih
def ownP (s:Sho)(p:Prm):Option Ftr×Int:=s.fixts.foldl (fun a x=>ftX s.profs p x a) (none,0)
def F0:Ftr:=⟨0,0,0,0,0,0,0,0,false,[]⟩
theorem f75 {s:Sho}{p:Prm}(hl:s.fixts.length<140737488355328)(hp:s.profs.length<140737488355328)(hq:∀q∈s.profs,q.feats.length<140737488355328)(hf:∀x∈s.fixts,(pfx s.profs x.prof).isSome=true){st:St}:run Tryz.prog HH 75 [s.v,p.v] st=some (.ret (.tup [((ownP s p).1.getD F0).v,.bool (decide (0<(ownP s p).2))]),st):=by
 have h0:=L75_1 (g:=st.x.gl) (p:=p) hl hp hq hf _ 0 rfl none 0
 rw[List.drop_zero,show s.fixts.foldl (fun a x=>ftX s.profs p x a) (none,0)=ownP s p from rfl]at h0
 cases ho:(ownP s p).1 with
 |none =>
  rw[ho]at h0
  push_cast[Sho.v,Prm.v,fcV]at h0
  rw[run_shut F75 rfl rfl (by simp)]
  push_cast[Sho.v,Prm.v,h0,F0,Ftr.v]
 |some f =>
  rw[ho]at h0
  push_cast[Sho.v,Prm.v,fcV,Ftr.v]at h0
  rw[run_shut F75 rfl rfl (by simp)]
  push_cast[Sho.v,Prm.v,h0,Ftr.v]
def partK (l:List Fixt)(c k:Int):List Fixt:=l.filter fun x=>decide (x.chan=c∧x.part=k)
def stA (g:List (Nat×Obj))(n:Nat)(a:List Fixt):St:=⟨n+1,[],[(n,⟨123,7,a.map Fixt.v,false,false⟩)],⟨[],g,[]⟩⟩
@[push_cast]theorem stA_eq {a:List Fixt}:stA g n a=⟨n+1,[],[(n,⟨123,7,a.map Fixt.v,false,false⟩)],⟨[],g,[]⟩⟩:=idq rfl
def partsF (l:List Fixt)(c:Int):Nat→Nat→List Fixt
 |_,0=>[]
 |k,m+1=>partK l c k++partsF l c (k+1) m
theorem partK_le {l:List Fixt}{c k:Int}:(partK l c k).length≤l.length:=List.length_filter_le ..
def zX:List V:=[.i 0,.i 0,.str [],.i 0,.i 0,.i 0,.str []]
def stH (g:List (Nat×Obj))(f x:List V):St:=⟨3,[(2,f),(1,x)],[],⟨[],g,[]⟩⟩
@[push_cast]theorem stH_eq {f x:List V}:stH g f x=⟨3,[(2,f),(1,x)],[],⟨[],g,[]⟩⟩:=idq rfl
def ffF (a:Int)(l:List Ftr):Option Ftr:=l.find? fun f=>decide (f.attr=a)
def havL (ps:List Prof)(a:Int):List Fixt→Option (Fixt×Ftr)
 |[]=>none
 |x::r=>match ffF a (((pfx ps x.prof).map Prof.feats).getD []) with
  |some f=>some (x,f)
  |none=>havL ps a r
def X0:Fixt:=⟨0,0,[],0,0,0,[]⟩
theorem partsF_mem {l:List Fixt}{c:Int}:∀{m k:Nat}{x:Fixt},x∈partsF l c k m→x∈l∧x.chan=c∧k≤x.part∧x.part<k+m
 |0,_,_,h=>by simp[partsF]at h
 |m+1,k,x,h=>by
  rw[partsF,List.mem_append]at h
  rcases h with h|h
  ·simp only[partK,List.mem_filter,decide_eq_true_eq]at h
   exact⟨h.1,h.2.1,by omega,by omega⟩
  ·obtain⟨a,b,c,d⟩:=partsF_mem h
   exact⟨a,b,by omega,by omega⟩
theorem partsF_len {l:List Fixt}{c:Int}(hl:l.length≤64):∀{m k:Nat},(partsF l c k m).length≤m*64
 |0,_=>by simp[partsF]
 |m+1,k=>by
  have:=partsF_len (c:=c) hl (m:=m) (k:=k+1)
  have h2:=partK_le (l:=l) (c:=c) (k:=k)
  rw[partsF,List.length_append];omega
def havR (fx:List Fixt)(ps:List Prof)(p:Prm):Option (Fixt×Ftr):=havL ps p.attr (partsF fx p.chan 1 64)
theorem shoC_parts {x:Sho}(h:shoC x=0):labC x.title=0∧cursC x.curves=0∧profsCR x.profs x.curves=0∧fixCR x.fixts x.profs=0∧grpsC x.grps=0∧palsCR x.pals=0∧lstsC x.lsts=0∧subsCR x.subs=0∧effsC x.effs=0:=by
 unfold shoC uniC at h
 repeat' split at h
 all_goals first|(rename_i a;exact absurd h a)|skip
 simp_all
theorem fixR_all {ps:List Prof}{l:List Fixt}:∀{r:List Fixt}{j:Nat},l.drop j=r→fixR ps l r j=0→∀x∈r,aloC ps x=0
 |[],_,_,_,x,hx=>by simp at hx
 |q::r,j,hd,h,x,hx=>by
  rw[fixR]at h
  repeat' split at h
  all_goals first|(rename_i a;exact absurd h a)|cases h|skip
  ·rcases List.mem_cons.1 hx with rfl|hx
   ·rename_i a _ _;exact Classical.not_not.1 a
   ·exact fixR_all (drop_succ hd) h x hx
theorem fix_ok {fx:List Fixt}{ps:List Prof}(h:fixCR fx ps=0):ps.length≤32∧fx.length≤64∧fixR ps fx fx 0=0∧∀x∈fx,aloC ps x=0:=by
 unfold fixCR at h
 split at h
 ·cases h
 ·exact⟨by omega,by omega,h,fixR_all (j:=0) rfl h⟩
def ftrE (s:Sho)(p:Prm):Int:=if ¬shoC s=0 then shoC s else prmC 1 p
end Go.Proofs.YtkpcomdhdjihlaaGreatDoor

namespace Go.Proofs.YtkpcomdhdjihlaaGreatDoor
open Go.Sha
set_option maxRecDepth 100000
variable {g:List (Nat×Obj)}{n:Nat}
def ownR (s:Sho)(p:Prm):Option Ftr:=(havR s.fixts s.profs p).map (·.2)
def okR (s:Sho)(p:Prm):Bool:=if ftrE s p=0 then(ownR s p).isSome else false
def AttrD (l:List Ftr):Prop:=l.Pairwise fun a b=>¬a.attr=b.attr
theorem featsR_D {foot c:Int}{l:List Ftr}:∀{r:List Ftr}{j:Nat},l.drop j=r→featsR foot c l r j=0→AttrD (l.take j)→AttrD l
 |[],j,hd,_,h=>by
  have:l.length≤j:=List.drop_eq_nil_iff.1 hd
  rwa [List.take_of_length_le this]at h
 |q::r,j,hd,h0,h=>by
  rw[featsR]at h0
  split at h0
  ·rename_i h1
   refine featsR_D (drop_succ hd) h0 ?_
   rw[take_snoc hd]
   refine List.pairwise_append.2 ⟨h,List.pairwise_singleton ..,fun a ha b hb=>?_⟩
   rw[List.mem_singleton.1 hb]
   intro e
   have k:((l.take j).any fun z=>z.attr == q.attr)=true:=List.any_eq_true.2 ⟨a,ha,by simp[e]⟩
   unfold featR at h1
   by_cases c1:q.attr<0∨15≤q.attr
   ·rw[if_pos c1]at h1;cases h1
   ·rw[if_neg c1,if_pos k]at h1;cases h1
  ·rename_i h1;exact absurd h0 h1
theorem profsR_all {l:List Prof}{m:List (List Pt)}:∀{r:List Prof}{j:Nat},l.drop j=r→profsR l m r j=0→∀q∈r,profR q m=0
 |[],_,_,_,x,hx=>by simp at hx
 |q::r,j,hd,h,x,hx=>by
  rw[profsR]at h
  repeat' split at h
  all_goals first|(rename_i a;exact absurd h a)|cases h|skip
  rcases List.mem_cons.1 hx with rfl|hx
  ·rename_i a _;exact Classical.not_not.1 a
  ·exact profsR_all (drop_succ hd) h x hx
theorem prof_D {s:Sho}(hs:shoC s=0){q:Prof}(hq:q∈s.profs):AttrD q.feats:=by
 have h:=(shoC_parts hs).2.2.1
 unfold profsCR at h
 split at h
 ·cases h
 ·have:=profsR_all (j:=0) rfl h q hq
  unfold profR at this
  repeat' split at this
  all_goals first|(rename_i a;exact absurd this a)|cases this|skip
  exact featsR_D (j:=0) rfl this List.Pairwise.nil
theorem ftL_eq {a pt:Int}:∀{l:List Ftr}{s:Option Ftr×Int},AttrD l→ftL a pt l s=match ffF a l with
  |some f=>(some f,pt)
  |none=>s
 |[],_,_=>rfl
 |f::r,s,h=>by
  have h1:=List.pairwise_cons.1 h
  rw[ftL,ftL_eq h1.2]
  by_cases e:f.attr=a
  ·have:ffF a r=none:=List.find?_eq_none.2 fun g hg=>by
    have:=h1.1 g hg;simp only[decide_eq_true_eq];intro e2;exact this (by omega)
   rw[this,if_pos e,show ffF a (f::r)=some f by simp[ffF,e]]
  ·rw[if_neg e,show ffF a (f::r)=ffF a r by simp[ffF,e]]
def hasG (ps:List Prof)(p:Prm)(x:Fixt):Option Ftr:=if x.chan=p.chan then ffF p.attr (((pfx ps x.prof).map Prof.feats).getD []) else none
def Least (ps:List Prof)(p:Prm)(l:List Fixt)(o:Option Ftr)(m:Int):Prop :=
 (o=none∧m=0∧∀x∈l,hasG ps p x=none)∨∃x∈l,0<x.part∧hasG ps p x=o∧o≠none∧m=x.part∧∀y∈l,hasG ps p y≠none→x.part≤y.part
theorem ftX_least {ps:List Prof}{p:Prm}(hD:∀q∈ps,AttrD q.feats){l:List Fixt}{x:Fixt}{o:Option Ftr}{m:Int}(hx:1≤x.part)(h:Least ps p l o m):Least ps p (l++[x]) (ftX ps p x (o,m)).1 (ftX ps p x (o,m)).2:=by
 have hd:AttrD (((pfx ps x.prof).map Prof.feats).getD []):=by
  cases e:pfx ps x.prof with
  |none=>exact List.Pairwise.nil
  |some q=>exact hD q (List.mem_of_find?_eq_some e)
 unfold ftX
 by_cases h1:¬x.chan=p.chan∨0<m∧m<x.part
 ·rw[if_pos h1]
  rcases h with⟨a,b,c⟩|⟨z,z1,z2,z3,z4,z5,z6⟩
  ·refine .inl ⟨a,b,fun y hy=>?_⟩
   rcases List.mem_append.1 hy with hy|hy
   ·exact c y hy
   ·rw[List.mem_singleton.1 hy,hasG,if_neg]
    rcases h1 with h1|h1
    ·exact h1
    ·omega
  ·refine .inr ⟨z,List.mem_append_left _ z1,z2,z3,z4,z5,fun y hy hn=>?_⟩
   rcases List.mem_append.1 hy with hy|hy
   ·exact z6 y hy hn
   ·rw[List.mem_singleton.1 hy]at hn ⊢
    rcases h1 with h1|h1
    ·exact absurd (by rw[hasG,if_neg h1]) hn
    ·have h1:0<m∧m<x.part:=h1
     omega
 ·rw[if_neg h1,ftL_eq hd]
  have hc:x.chan=p.chan:=Classical.byContradiction fun e=>h1 (.inl e)
  cases hf:ffF p.attr (((pfx ps x.prof).map Prof.feats).getD []) with
  |none =>
   have hn:hasG ps p x=none:=by rw[hasG,if_pos hc,hf]
   rcases h with⟨a,b,c⟩|⟨z,z1,z2,z3,z4,z5,z6⟩
   ·refine .inl ⟨a,b,fun y hy=>?_⟩
    rcases List.mem_append.1 hy with hy|hy
    ·exact c y hy
    ·rw[List.mem_singleton.1 hy];exact hn
   ·refine .inr ⟨z,List.mem_append_left _ z1,z2,z3,z4,z5,fun y hy hy2=>?_⟩
    rcases List.mem_append.1 hy with hy|hy
    ·exact z6 y hy hy2
    ·rw[List.mem_singleton.1 hy]at hy2;exact absurd hn hy2
  |some f =>
   have hn:hasG ps p x=some f:=by rw[hasG,if_pos hc,hf]
   refine .inr ⟨x,by simp,by omega,hn,by simp,rfl,fun y hy hy2=>?_⟩
   rcases List.mem_append.1 hy with hy|hy
   ·rcases h with⟨a,b,c⟩|⟨z,z1,z2,z3,z4,z5,z6⟩
    ·exact absurd (c y hy) hy2
    ·have:=z6 y hy hy2
     have h1:¬(¬x.chan=p.chan∨0<m∧m<x.part):=h1
     omega
   ·rw[List.mem_singleton.1 hy];exact Int.le_refl _
theorem fold_least {ps:List Prof}{p:Prm}(hD:∀q∈ps,AttrD q.feats):∀{r l:List Fixt}{a:Option Ftr×Int},(∀x∈r,1≤x.part)→Least ps p l a.1 a.2→Least ps p (l++r) (r.foldl (fun a x=>ftX ps p x a) a).1 (r.foldl (fun a x=>ftX ps p x a) a).2
 |[],l,a,_,h=>by simpa using h
 |x::r,l,a,hx,h=>by
  have:=fold_least hD (r:=r) (l:=l++[x]) (a:=ftX ps p x a) (fun y hy=>hx y (List.mem_cons_of_mem _ hy)) (ftX_least hD (hx x (List.mem_cons_self ..)) h)
  simpa using this
theorem havL_app {ps:List Prof}{a:Int}:∀{l m:List Fixt},havL ps a (l++m)=(havL ps a l).or (havL ps a m)
 |[],m=>rfl
 |x::r,m=>by
  rw[List.cons_append,havL,havL]
  cases ffF a (((pfx ps x.prof).map Prof.feats).getD []) with
  |none=>exact havL_app
  |some f=>rfl
theorem havL_some {ps:List Prof}{a:Int}:∀{l:List Fixt}{y:Fixt×Ftr},havL ps a l=some y→y.1∈l∧ffF a (((pfx ps y.1.prof).map Prof.feats).getD [])=some y.2
 |[],y,h=>by cases h
 |x::r,y,h=>by
  rw[havL]at h
  split at h
  ·rename_i f hf;cases h;exact⟨List.mem_cons_self ..,hf⟩
  ·obtain⟨a,b⟩:=havL_some h;exact⟨List.mem_cons_of_mem _ a,b⟩
theorem havL_none {ps:List Prof}{a:Int}:∀{l:List Fixt},havL ps a l=none→∀x∈l,ffF a (((pfx ps x.prof).map Prof.feats).getD [])=none
 |[],_,x,h=>by simp at h
 |z::r,h,x,hx=>by
  rw[havL]at h
  split at h
  ·cases h
  ·rename_i hf
   rcases List.mem_cons.1 hx with rfl|hx
   ·exact hf
   ·exact havL_none h x hx
theorem hav_least {ps:List Prof}{p:Prm}{l:List Fixt}:∀{m k:Nat},(∀y,havL ps p.attr (partsF l p.chan k m)=some y→y.1∈l∧hasG ps p y.1=some y.2∧∀z∈l,hasG ps p z≠none→k≤z.part→y.1.part≤z.part) ∧
  (havL ps p.attr (partsF l p.chan k m)=none→∀z∈l,hasG ps p z≠none→k≤z.part→z.part<k+m→False)
 |0,k=>⟨fun y h=>(by cases h),fun _ z _ _ _ _=>(by omega)⟩
 |m+1,k=>by
  obtain⟨i1,i2⟩:=hav_least (ps:=ps) (p:=p) (l:=l) (m:=m) (k:=k+1)
  rw[partsF,havL_app]
  have key:∀z∈l,hasG ps p z≠none→z.part=(k:Int)→z∈partK l p.chan k∧ffF p.attr (((pfx ps z.prof).map Prof.feats).getD [])≠none:=fun z hz hn hk=>by
   unfold hasG at hn
   by_cases hc:z.chan=p.chan
   ·rw[if_pos hc]at hn
    exact⟨List.mem_filter.2 ⟨hz,by simp[hc,hk]⟩,hn⟩
   ·rw[if_neg hc]at hn;exact absurd rfl hn
  cases h1:havL ps p.attr (partK l p.chan k) with
  |some y =>
   refine⟨fun y' e=>?_,fun e=>by cases e⟩
   have e:y=y':=by simpa using e
   subst e
   obtain⟨a,b⟩:=havL_some h1
   simp only[partK,List.mem_filter,decide_eq_true_eq]at a
   exact⟨a.1,by rw[hasG,if_pos a.2.1,b],fun z hz hn hk=>by omega⟩
  |none =>
   rw[Option.none_or]
   have no:∀z∈l,hasG ps p z≠none→z.part=(k:Int)→False:=fun z hz hn hk=>by
    obtain⟨a,b⟩:=key z hz hn hk
    exact b (havL_none h1 z a)
   refine⟨fun y e=>?_,fun e z hz hn hk hlt=>?_⟩
   ·obtain⟨a,b,c⟩:=i1 y e
    exact⟨a,b,fun z hz hn hk=>c z hz hn (by have:¬z.part=(k:Int):=no z hz hn;omega)⟩
   ·exact i2 e z hz hn (by have:¬z.part=(k:Int):=no z hz hn;omega) (by omega)
theorem fixR_D {ps:List Prof}{l:List Fixt}:∀{r:List Fixt}{j:Nat},l.drop j=r→fixR ps l r j=0→(l.take j).Pairwise (fun x y=>¬(x.chan=y.chan∧x.part=y.part))→l.Pairwise fun x y=>¬(x.chan=y.chan∧x.part=y.part)
 |[],j,hd,_,h=>by
  have:l.length≤j:=List.drop_eq_nil_iff.1 hd
  rwa [List.take_of_length_le this]at h
 |q::r,j,hd,h0,h=>by
  rw[fixR]at h0
  repeat' split at h0
  all_goals first|(rename_i a;exact absurd h0 a)|cases h0|skip
  refine fixR_D (drop_succ hd) h0 ?_
  rw[take_snoc hd]
  refine List.pairwise_append.2 ⟨h,List.pairwise_singleton ..,fun a ha b hb=>?_⟩
  rw[List.mem_singleton.1 hb]
  intro e
  rename_i k _
  exact k (List.any_eq_true.2 ⟨a,ha,by simp[e]⟩)
theorem same_part {l:List Fixt}(h:l.Pairwise fun x y=>¬(x.chan=y.chan∧x.part=y.part)):∀{x y:Fixt},x∈l→y∈l→x.chan=y.chan→x.part=y.part→x=y:=by
 induction l with
 |nil=>intro x y hx;simp at hx
 |cons z r ih =>
  intro x y hx hy hc hp
  have h1:=List.pairwise_cons.1 h
  rcases List.mem_cons.1 hx with e1|e1<;>rcases List.mem_cons.1 hy with e2|e2
  ·rw[e1,e2]
  ·exact absurd ⟨by rw[←e1];exact hc,by rw[←e1];exact hp⟩ (h1.1 y e2)
  ·exact absurd ⟨by rw[←e2];exact hc.symm,by rw[←e2];exact hp.symm⟩ (h1.1 x e1)
  ·exact ih h1.2 e1 e2 hc hp
theorem hasG_chan {ps:List Prof}{p:Prm}{x:Fixt}(h:hasG ps p x≠none):x.chan=p.chan:=by
 unfold hasG at h;split at h
 ·assumption
 ·exact absurd rfl h
theorem own_eq {s:Sho}{p:Prm}(hs:shoC s=0):(ownP s p).1=ownR s p∧decide (0<(ownP s p).2)=(ownR s p).isSome:=by
 have hf:=fix_ok (shoC_parts hs).2.2.2.1
 have hpart:∀x∈s.fixts,1≤x.part∧x.part≤64:=fun x hx=>by
  have:=rng_ok (aloC_ok (hf.2.2.2 x hx)).1;omega
 have hL:=fold_least (ps:=s.profs) (p:=p) (fun q hq=>prof_D hs hq) (r:=s.fixts) (l:=[]) (a:=(none,0)) (fun x hx=>(hpart x hx).1) (.inl ⟨rfl,rfl,by simp⟩)
 rw[List.nil_append]at hL
 have hD:=fixR_D (j:=0) rfl hf.2.2.1 (by simp)
 obtain⟨j1,j2⟩:=hav_least (ps:=s.profs) (p:=p) (l:=s.fixts) (m:=64) (k:=1)
 change Least s.profs p s.fixts (ownP s p).1 (ownP s p).2 at hL
 unfold ownR havR
 rcases hL with⟨a,b,c⟩|⟨x,x1,x2,x3,x4,x5,x6⟩
 ·have:havL s.profs p.attr (partsF s.fixts p.chan 1 64)=none:=by
   cases e:havL s.profs p.attr (partsF s.fixts p.chan 1 64) with
   |none=>rfl
   |some y =>
    obtain⟨k1,k2,_⟩:=j1 y e
    rw[c _ k1]at k2;cases k2
  rw[this,a,b];exact⟨rfl,rfl⟩
 ·cases e:havL s.profs p.attr (partsF s.fixts p.chan 1 64) with
  |none=>exact(j2 e x x1 (by rw[x3];exact x4) (by have:=hpart x x1;omega) (by have:=hpart x x1;omega)).elim
  |some y =>
   obtain⟨k1,k2,k3⟩:=j1 y e
   have h1:=k3 x x1 (by rw[x3];exact x4) (by have:=hpart x x1;omega)
   have h2:=x6 y.1 k1 (by rw[k2];simp)
   have hc1:=hasG_chan (x:=y.1) (by rw[k2];simp)
   have hc2:=hasG_chan (x:=x) (by rw[x3];exact x4)
   have hxy:=same_part hD x1 k1 (by omega) (by omega)
   subst hxy
   refine⟨by rw[←x3,k2];rfl,?_⟩
   rw[x5];simp;omega
end Go.Proofs.YtkpcomdhdjihlaaGreatDoor

namespace Go.Proofs.YtkpcomdhdjihlaaGreatDoor
open Go.Sha
set_option maxRecDepth 100000
def ftsX (ps:List Prof)(x:Fixt):List Ftr:=((pfx ps x.prof).map Prof.feats).getD []
def prmsX (ps:List Prof)(x:Fixt):List Prm:=(ftsX ps x).map fun f=>⟨x.chan,f.attr⟩
def insK (a:List Prm)(p:Prm):List Prm:=if p∈a then a else a++[p]
def keyP (s:Sho):List Prm:=s.fixts.foldl (fun a x=>(prmsX s.profs x).foldl insK a) []
def leP (p q:Prm):Bool:=!befP q p
def parP (s:Sho):List Prm:=(keyP s).mergeSort leP
theorem insK_fold:∀{r a:List Prm},a.Nodup→(r.foldl insK a).Nodup∧∀p,p∈r.foldl insK a↔p∈a∨p∈r
 |[],a,h=>⟨h,fun p=>by simp⟩
 |q::r,a,h=>by
  have h2:(insK a q).Nodup∧∀p,p∈insK a q↔p∈a∨p=q:=by
   unfold insK
   split
   ·rename_i hq
    exact⟨h,fun p=>⟨.inl,fun e=>e.elim (fun e=>e) fun e=>e▸hq⟩⟩
   ·rename_i hq
    refine⟨List.nodup_append.2 ⟨h,List.nodup_cons.2 ⟨by simp,List.nodup_nil⟩,fun x hx y hy e=>?_⟩,fun p=>by simp⟩
    rw[List.mem_singleton]at hy;subst hy;subst e;exact hq hx
  obtain⟨a1,a2⟩:=insK_fold (r:=r) h2.1
  exact⟨a1,fun p=>by rw[List.foldl_cons,a2,h2.2,List.mem_cons,or_assoc]⟩
theorem keyP_fold {ps:List Prof}:∀{r:List Fixt}{a:List Prm},a.Nodup→(r.foldl (fun a x=>(prmsX ps x).foldl insK a) a).Nodup∧∀p,p∈r.foldl (fun a x=>(prmsX ps x).foldl insK a) a↔p∈a∨∃x∈r,p∈prmsX ps x
 |[],a,h=>⟨h,fun p=>by simp⟩
 |x::r,a,h=>by
  obtain⟨b1,b2⟩:=insK_fold (r:=prmsX ps x) h
  obtain⟨a1,a2⟩:=keyP_fold (r:=r) b1
  exact⟨a1,fun p=>by rw[List.foldl_cons,a2,b2];simp[or_assoc]⟩
theorem keyP_ok {s:Sho}:(keyP s).Nodup∧∀p,p∈keyP s↔∃x∈s.fixts,p∈prmsX s.profs x:=by
 obtain⟨a,b⟩:=keyP_fold (ps:=s.profs) (r:=s.fixts) (a:=[]) List.nodup_nil
 exact⟨a,fun p=>by rw[keyP,b];simp⟩
theorem befP_iff {p q:Prm}:befP p q=true↔p.chan<q.chan∨p.chan=q.chan∧p.attr<q.attr:=by
 simp only[befP,Bool.or_eq_true,Bool.and_eq_true,decide_eq_true_eq]
theorem leP_total {p q:Prm}:(leP p q||leP q p)=true:=by
 cases h1:befP q p<;>cases h2:befP p q<;>simp[leP,h1,h2]
 rw[befP_iff]at h1 h2;omega
theorem leP_trans {a b c:Prm}(h1:leP a b=true)(h2:leP b c=true):leP a c=true:=by
 simp only[leP,Bool.not_eq_true',←Bool.not_eq_true,befP_iff]at h1 h2 ⊢
 omega
theorem leP_anti {a b:Prm}(h1:leP a b=true)(h2:leP b a=true):a=b:=by
 simp only[leP,Bool.not_eq_true',←Bool.not_eq_true,befP_iff]at h1 h2
 cases a;cases b;simp only at h1 h2;congr<;>omega
theorem sort_eq {l m:List Prm}(hp:l.Perm m)(hs:m.Pairwise fun a b=>leP a b=true):l.mergeSort leP=m :=
 List.Perm.eq_of_pairwise (le:=fun a b=>leP a b=true) (fun a b _ _ h1 h2=>leP_anti h1 h2) (List.pairwise_mergeSort (le:=leP) (fun _ _ _=>leP_trans) (fun _ _=>leP_total) l) hs ((List.mergeSort_perm l leP).trans hp)
theorem sort_perm {l m:List Prm}(hp:l.Perm m):l.mergeSort leP=m.mergeSort leP :=
 sort_eq (hp.trans (List.mergeSort_perm m leP).symm) (List.pairwise_mergeSort (le:=leP) (fun _ _ _=>leP_trans) (fun _ _=>leP_total) m)
theorem parP_ok {s:Sho}:(parP s).Pairwise (fun a b=>befP a b=true)∧∀p,p∈parP s↔∃x∈s.fixts,p∈prmsX s.profs x:=by
 have hp:=List.mergeSort_perm (keyP s) leP
 refine⟨?_,fun p=>by rw[parP,hp.mem_iff,keyP_ok.2]⟩
 have h1:=List.pairwise_mergeSort (le:=leP) (fun _ _ _=>leP_trans) (fun _ _=>leP_total) (keyP s)
 have h2:(parP s).Nodup:=hp.nodup_iff.2 keyP_ok.1
 refine(List.pairwise_and_iff.2 ⟨h1,h2⟩).imp fun {a b} h=>?_
 simp only[leP,Bool.not_eq_true',←Bool.not_eq_true,befP_iff]at h ⊢
 have:¬(a.chan=b.chan∧a.attr=b.attr):=fun e=>h.2 (by cases a;cases b;simp_all)
 omega
def putR (n:Int):List Int→List Int
 |[]=>[n]
 |x::r=>if x<n then x::putR n r else if x=n then x::r else n::x::r
theorem putR_ok {n:Int}:∀{l:List Int},l.Pairwise (·<·)→(putR n l).Pairwise (·<·)∧∀x,x∈putR n l↔x=n∨x∈l
 |[],_=>⟨by simp[putR],fun x=>by simp[putR]⟩
 |y::r,h=>by
  rw[List.pairwise_cons]at h
  obtain⟨a,b⟩:=putR_ok (n:=n) h.2
  rw[putR]
  split
  ·rename_i h1
   refine⟨List.pairwise_cons.2 ⟨fun x hx=>?_,a⟩,fun x=>by rw[List.mem_cons,b];simp[or_left_comm]⟩
   rcases(b x).1 hx with rfl|hx
   ·exact h1
   ·exact h.1 x hx
  ·split
   ·rename_i h1 h2
    exact⟨List.pairwise_cons.2 h,fun x=>by subst h2;simp⟩
   ·rename_i h1 h2
    refine⟨List.pairwise_cons.2 ⟨fun x hx=>?_,List.pairwise_cons.2 h⟩,fun x=>by simp⟩
    rcases List.mem_cons.1 hx with rfl|hx
    ·omega
    ·have:=h.1 x hx;omega
def givX (ps:List Prof)(c:Int)(a:List Int)(x:Fixt):List Int:=if x.chan=c then(ftsX ps x).foldl (fun a f=>putR f.attr a) a else a
def givR (s:Sho)(c:Int):List Int:=s.fixts.foldl (givX s.profs c) []
theorem givF_ok:∀{l:List Ftr}{a:List Int},a.Pairwise (·<·)→(l.foldl (fun a f=>putR f.attr a) a).Pairwise (·<·)∧∀x,x∈l.foldl (fun a f=>putR f.attr a) a↔x∈a∨∃f∈l,f.attr=x
 |[],a,h=>⟨h,fun x=>by simp⟩
 |f::r,a,h=>by
  obtain⟨b1,b2⟩:=putR_ok (n:=f.attr) h
  obtain⟨a1,a2⟩:=givF_ok (l:=r) b1
  exact⟨a1,fun x=>by rw[List.foldl_cons,a2,b2];simp[or_left_comm,or_assoc,eq_comm (a:=x)]⟩
theorem givL_ok {ps:List Prof}{c:Int}:∀{l:List Fixt}{a:List Int},a.Pairwise (·<·)→(l.foldl (givX ps c) a).Pairwise (·<·)∧∀y,y∈l.foldl (givX ps c) a↔y∈a∨∃x∈l,x.chan=c∧∃f∈ftsX ps x,f.attr=y
 |[],a,h=>⟨h,fun x=>by simp⟩
 |x::r,a,h=>by
  by_cases hx:x.chan=c
  ·obtain⟨b1,b2⟩:=givF_ok (l:=ftsX ps x) h
   obtain⟨a1,a2⟩:=givL_ok (ps:=ps) (c:=c) (l:=r) b1
   rw[List.foldl_cons,givX,if_pos hx]
   exact⟨a1,fun y=>by rw[a2,b2];simp[hx,or_assoc]⟩
  ·obtain⟨a1,a2⟩:=givL_ok (ps:=ps) (c:=c) (l:=r) h
   rw[List.foldl_cons,givX,if_neg hx]
   exact⟨a1,fun y=>by rw[a2];simp[hx]⟩
theorem givR_ok {s:Sho}{c:Int}:(givR s c).Pairwise (·<·)∧∀y,y∈givR s c↔∃x∈s.fixts,x.chan=c∧∃f∈ftsX s.profs x,f.attr=y:=by
 obtain⟨a,b⟩:=givL_ok (ps:=s.profs) (c:=c) (l:=s.fixts) (a:=[]) List.Pairwise.nil
 exact⟨a,fun y=>by rw[givR,b];simp⟩
def patC (s:Sho):Nat→Nat→List Prm
 |_,0=>[]
 |k,m+1=>(givR s k).map (fun a=>(⟨k,a⟩:Prm))++patC s (k+1) m
theorem patC_ok {s:Sho}:∀{m k:Nat},(patC s k m).Pairwise (fun a b=>befP a b=true)∧∀p,p∈patC s k m↔(k:Int)≤p.chan∧p.chan<k+m∧p.attr∈givR s p.chan
 |0,k=>⟨List.Pairwise.nil,fun p=>by simp[patC];omega⟩
 |m+1,k=>by
  obtain⟨a,b⟩:=patC_ok (s:=s) (m:=m) (k:=k+1)
  rw[patC]
  refine⟨List.pairwise_append.2 ⟨?_,a,fun x hx y hy=>?_⟩,fun p=>?_⟩
  ·rw[List.pairwise_map]
   exact givR_ok.1.imp fun {x y} (h:x<y)=>befP_iff (p:=⟨k,x⟩) (q:=⟨k,y⟩) |>.2 (.inr ⟨rfl,h⟩)
  ·obtain⟨z,_,rfl⟩:=List.mem_map.1 hx
   have:=(b y).1 hy
   exact befP_iff.2 (.inl (by have:=this.1;dsimp only;omega))
  ·rw[List.mem_append,b]
   constructor
   ·rintro(h|⟨h1,h2,h3⟩)
    ·obtain⟨z,hz,rfl⟩:=List.mem_map.1 h
     exact⟨by dsimp only;omega,by dsimp only;omega,hz⟩
    ·exact⟨by omega,by omega,h3⟩
   ·rintro⟨h1,h2,h3⟩
    by_cases h:p.chan=k
    ·left
     rw[h]at h3
     exact List.mem_map.2 ⟨p.attr,h3,by cases p;simp_all⟩
    ·right;exact⟨by omega,by omega,h3⟩
theorem par_eq {s:Sho}(h:∀x∈s.fixts,1≤x.chan∧x.chan≤999):parP s=patC s 1 999:=by
 obtain⟨a1,a2⟩:=parP_ok (s:=s)
 obtain⟨b1,b2⟩:=patC_ok (s:=s) (m:=999) (k:=1)
 have nd:∀{l:List Prm},l.Pairwise (fun a b=>befP a b=true)→l.Nodup:=fun h=>h.imp fun {a b} h e=>by
  subst e;rw[befP_iff]at h;omega
 have le:∀{l:List Prm},l.Pairwise (fun a b=>befP a b=true)→l.Pairwise (fun a b=>leP a b=true):=fun h=>h.imp fun {a b} h=>by
  simp only[leP,Bool.not_eq_true',←Bool.not_eq_true];rw[befP_iff]at h ⊢;omega
 refine List.Perm.eq_of_pairwise (le:=fun a b=>leP a b=true) (fun a b _ _ h1 h2=>leP_anti h1 h2) (le a1) (le b1) ((List.perm_ext_iff_of_nodup (nd a1) (nd b1)).2 fun p=>?_)
 rw[a2,b2,givR_ok.2]
 constructor
 ·rintro⟨x,hx,hp⟩
  obtain⟨f,hf,rfl⟩:=List.mem_map.1 hp
  have:=h x hx
  exact⟨by dsimp only;omega,by dsimp only;omega,x,hx,rfl,f,hf,rfl⟩
 ·rintro⟨_,_,x,hx,h1,f,hf,h2⟩
  exact⟨x,hx,List.mem_map.2 ⟨f,hf,by cases p;simp_all⟩⟩
end Go.Proofs.YtkpcomdhdjihlaaGreatDoor

namespace Go.Proofs.YtkpcomdhdjihlaaGreatDoor
open Go.Sha
set_option maxRecDepth 10000
def B27_0:Cd:=(.g [.b 30 .lss 29 28] (.join [1,5,7,19,20,21,27,28,29] (.i 30 .skip (.exit [1,5,19,20,21] 2)) (.join [1,5,7,19,20,21,27,28,29] (.block 3 (.g [.r 31 10 27 29,.d 32 10 31,.s 9 (.alloc 110 [.i 0,.i 0,.i 0,.i 0,.i 0,.i 0,.i 0,.i 0,(.bool false),.nils]),.w 10 9 32] (.z [9] (.reg [.m 33 5,.a 34 0 7,.l 35 34,.a 36 0 9,.l 37 36,.s 38 (.build [.i 0,.i 0] [(0,1,(.t 35)),(1,1,(.t 37))]),.n (.act (.mset (.a [.i,.i])) [.t 33,.t 38,(.c (.bool true))])])))) (.reg [.v 39 .add 29 1,.m 29 39]))))
def B27_1:Cd:=(.g [.b 22 .lss 21 20] (.join [1,5,19,20,21] (.i 22 .skip (.exit [5] 0)) (.join [1,5,19,20,21] (.block 1 (.g [.r 23 7 19 21,.d 24 7 23,.s 7 (.alloc 123 [.i 0,.i 0,(.str []),.i 0,.i 0,.i 0,(.str [])]),.w 7 7 24] (.z [7] (.g [.d 25 9 1,.d 26 7 7,.g' 27 69 25 26,.u 28 27,.c 29 0] (.block 2 (.loop [1,5,7,19,20,21,27,28,29] [] B27_0)))))) (.reg [.v 40 .add 21 1,.m 21 40]))))
def B27_2:Cd:=(.g [.s 43 (.nxt (.t 42)),.j 44 0 43] (.join [10,42] (.i 44 .skip (.exit [10] 4)) (.block 5 (.g [.s 45 (.act .ent [.t 42]),.j 46 0 45,.s 11 (.alloc 71 [.i 0,.i 0]),.w 2 11 46] (.z [11] (.reg [.m 47 10,.d 48 2 11,.s 49 (.bslice 71 2 [.t 48]),.s 50 (.append 71 2 16 (.t 47) (.t 49)),.m 10 50]))))))
theorem F27:compF Tryz.prog 27=some ⟨54,[.tmp 2,.tmp 3],(.g [.q 1 31 0,.s 2 (.mv (.c .nils)),.c 3 0] (.z [1] (.join [1] (.g [.d 12 9 1,.f 13 46 12,.m 4 13] (.g [.m 14 4,.v 15 .neq 14 0] (.i 15 (.g [.m 16 4,.s 2 (.mv (.c .nils)),.m 3 16] (.ret [2,3])) .skip))) (.g [.s 17 (.act .mkmap []),.m 5 17] (.join [5] (.g [.a 18 3 1,.l 19 18,.u 20 19,.c 21 0] (.block 0 (.loop [1,5,19,20,21] [] B27_1))) (.g [.s 10 (.mv (.c .nils))] (.join [10] (.g [.m 41 5,.s 42 (.act .rng [.t 41])] (.block 4 (.loop [10,42] [(10,(71,2))] B27_2))) (.g [.m 51 10,.s 52 (.f 70 [.t 51,(.c (.fn (.func 71) [] []))])] (.g [.m 53 10,.m 2 53,.c 3 0] (.ret [2,3]))))))))))⟩:=by kernel_rfl
end Go.Proofs.YtkpcomdhdjihlaaGreatDoor

namespace Go.Proofs.YtkpcomdhdjihlaaGreatDoor
open Go.Sha
set_option maxRecDepth 100000
variable {g:List (Nat×Obj)}{n:Nat}
def stI (g:List (Nat×Obj))(n:Nat)(a:List Int):St:=⟨n+1,[],[(n,⟨3,1,a.map (V.int .i64),false,false⟩)],⟨[],g,[]⟩⟩
@[push_cast]theorem stI_eq {a:List Int}:stI g n a=⟨n+1,[],[(n,⟨3,1,a.map (V.int .i64),false,false⟩)],⟨[],g,[]⟩⟩:=idq rfl
theorem putR_tw {v:Int}:∀{l:List Int},putR v l=l.takeWhile (fun x=>decide (x<v))++match l.dropWhile (fun x=>decide (x<v)) with
  |[]=>[v]
  |y::r=>if y=v then y::r else v::y::r
 |[]=>rfl
 |x::r=>by
  rw[putR]
  by_cases h:x<v
  ·rw[if_pos h,List.takeWhile_cons_of_pos (by simpa using h),List.dropWhile_cons_of_pos (by simpa using h),putR_tw (l:=r)];rfl
  ·rw[if_neg h,List.takeWhile_cons_of_neg (by simpa using h),List.dropWhile_cons_of_neg (by simpa using h)];rfl
theorem mapO_map {α:Type}{F:V→Option V}{f:α→V}:∀{l:List α},(∀x,F (f x)=some (f x))→mapO F (l.map f)=some (l.map f)
 |[],_=>rfl
 |x::l,h=>by rw[List.map_cons,mapO,h,mapO_map h]
theorem bdI {l:List Int}{v:Int}:V.bdL 0 [.sl (l.map (V.int .i64)),.int .i64 v]=true:=by
 have:=bdL_map' (n:=0) (f:=V.int .i64) (l:=l)
 simp only[V.bdL,V.bd,this,all_true,Bool.and_self]
theorem putR_len {v:Int}:∀{l:List Int},(putR v l).length≤l.length+1
 |[]=>by simp[putR]
 |x::r=>by
  have:=putR_len (v:=v) (l:=r)
  rw[putR];split<;>(try split)<;>simp<;>omega
theorem putR_ne {v:Int}{l:List Int}:putR v l≠[]:=by
 cases l with
 |nil=>simp[putR]
 |cons x r=>rw[putR];split<;>(try split)<;>simp
def nI:List Int→V
 |[]=>.nils
 |a::r=>.sl ((a::r).map (V.int .i64))
@[push_cast]theorem nI_nil:nI []=.nils:=idq rfl
theorem nI_ne {l:List Int}(h:l≠[]):nI l=.sl (l.map (V.int .i64)):=by cases l<;>first|exact absurd rfl h|rfl
theorem nI_put {v:Int}{l:List Int}:nI (putR v l)=.sl ((putR v l).map (V.int .i64)):=nI_ne putR_ne
@[push_cast]theorem nI_snap {l:List Int}{st:St}:snapA st (nI l)=some (.sl (l.map (V.int .i64))):=by cases l<;>rfl
@[push_cast]theorem nI_shut {l:List Int}{st:St}:shutV st (nI l)=.sl (l.map (V.int .i64)):=by cases l<;>rfl
theorem foldF_len:∀{l:List Ftr}{a:List Int},(l.foldl (fun a f=>putR f.attr a) a).length≤a.length+l.length
 |[],a=>by simp
 |f::r,a=>by
  have:=foldF_len (l:=r) (a:=putR f.attr a)
  have:=putR_len (v:=f.attr) (l:=a)
  simp only[List.foldl_cons,List.length_cons];omega
theorem prof_len {s:Sho}(hs:shoC s=0){q:Prof}(hq:q∈s.profs):q.feats.length≤16:=by
 have h:=(shoC_parts hs).2.2.1
 unfold profsCR at h
 split at h
 ·cases h
 ·have:=profsR_all (j:=0) rfl h q hq
  unfold profR at this
  repeat' split at this
  all_goals first|(rename_i a;exact absurd this a)|cases this|omega
theorem givL_len {ps:List Prof}{c:Int}(hq:∀q∈ps,q.feats.length≤16):∀{l:List Fixt}{a:List Int},(l.foldl (givX ps c) a).length≤a.length+16*l.length
 |[],a=>by simp
 |x::r,a=>by
  have h1:=givL_len hq (c:=c) (l:=r) (a:=givX ps c a x)
  have h2:(givX ps c a x).length≤a.length+16:=by
   unfold givX
   split
   ·have:=foldF_len (l:=ftsX ps x) (a:=a)
    have:(ftsX ps x).length≤16:=by
     unfold ftsX
     cases e:pfx ps x.prof with
     |none=>simp
     |some q=>exact hq q (List.mem_of_find?_eq_some e)
    omega
   ·omega
  simp only[List.foldl_cons,List.length_cons];omega
theorem givR_len {s:Sho}{c:Int}(hs:shoC s=0):(givR s c).length≤1024:=by
 have:=givL_len (fun q hq=>prof_len hs hq) (c:=c) (l:=s.fixts) (a:=[])
 have:=(fix_ok (shoC_parts hs).2.2.2.1).2.1
 unfold givR;simp only[List.length_nil]at *;omega
def stQ (g:List (Nat×Obj))(n:Nat)(a:List Prm):St:=⟨n+1,[],[(n,⟨71,2,a.map Prm.v,false,false⟩)],⟨[],g,[]⟩⟩
@[push_cast]theorem stQ_eq {a:List Prm}:stQ g n a=⟨n+1,[],[(n,⟨71,2,a.map Prm.v,false,false⟩)],⟨[],g,[]⟩⟩:=idq rfl
def parS (s:Sho):List Prm:=if shoC s=0 then parP s else[]
theorem fix_chan {s:Sho}(hs:shoC s=0):∀x∈s.fixts,1≤x.chan∧x.chan≤999:=fun x hx=>by
 have:=rng_ok (aloC_ok ((fix_ok (shoC_parts hs).2.2.2.1).2.2.2 x hx)).1;omega
end Go.Proofs.YtkpcomdhdjihlaaGreatDoor

namespace Go.Proofs.YtkpcomdhdjihlaaGreatDoor
open Go.Sha
set_option maxRecDepth 100000
variable {g:List (Nat×Obj)}{n:Nat}
def esP (a:List Prm):List (V×V):=a.map fun p=>(p.v,.bool true)
theorem same_prm {p q:Prm}:sameV p.v q.v=some (decide (p=q)):=by
 cases p;cases q
 rw[show ∀a b c d:Int,sameV (Prm.v ⟨a,b⟩) (Prm.v ⟨c,d⟩)=some ((a == c)&&((b == d)&&true)) from fun a b c d=>rfl]
 simp only[Prm.mk.injEq,Bool.and_true,Option.some.injEq]
 rw[Bool.eq_iff_iff];simp
theorem find_esP {p:Prm}:∀{a:List Prm}{i:Nat},(p ∉ a→findV p.v (esP a) i=some none)∧(p∈a→∃j,a[j]?=some p∧findV p.v (esP a) i=some (some (i+j,.bool true)))
 |[],i=>⟨fun _=>rfl,fun h=>by simp at h⟩
 |q::r,i=>by
  obtain⟨i1,i2⟩:=find_esP (p:=p) (a:=r) (i:=i+1)
  have e:findV p.v (esP (q::r)) i=match(some (decide (p=q)):Option Bool) with
   |some true=>some (some (i,.bool true))
   |some false=>findV p.v (esP r) (i+1)
   |none=>none:=by rw[←same_prm];rfl
  rw[e]
  by_cases h:p=q
  ·subst h
   simp only[decide_true]
   exact⟨fun h=>absurd (List.mem_cons_self ..) h,fun _=>⟨0,rfl,rfl⟩⟩
  ·simp only[decide_eq_false h]
   refine⟨fun h'=>i1 fun h2=>h' (List.mem_cons_of_mem _ h2),fun h'=>?_⟩
   obtain⟨j,j1,j2⟩:=i2 ((List.mem_cons.1 h').resolve_left h)
   exact⟨j+1,j1,by rw[j2,show i+1+j=i+(j+1) by omega]⟩
theorem mset_esP {st:St}{i:Nat}{a:List Prm}{p:Prm}:msetB st i (esP a) p.v (.bool true) (findV p.v (esP a) 0)=some (.und,⟨st.nx,st.mem,st.arr,⟨updO st.x.obj i (.map (esP (insK a p))),st.x.gl,st.x.ty⟩⟩):=by
 by_cases h:p∈a
 ·obtain⟨j,j1,j2⟩:=(find_esP (i:=0)).2 h
  rw[j2,insK,if_pos h,Nat.zero_add]
  have e:(esP a).set j (p.v,.bool true)=esP a:=by
   have hj:=(List.getElem?_eq_some_iff.1 j1).1
   apply List.ext_getElem?
   intro k
   rw[List.getElem?_set]
   split
   ·rename_i e;subst e
    rw[esP,List.getElem?_map,j1,List.length_map,if_pos hj];rfl
   ·rfl
  simp only[msetB,putM,e]
 ·rw[(find_esP (i:=0)).1 h,insK,if_neg h]
  simp[msetB,putM,esP]
@[push_cast]theorem esP_all {a:List Prm}:((esP a).all fun p=>p.1.bd n&&p.2.bd n)=true:=by simp[esP,V.bd,V.bdL]
@[push_cast]theorem esP_len {a:List Prm}:(esP a).length=a.length:=by simp[esP]
@[push_cast]theorem esP_nil:esP []=[]:=idq rfl
def stZ (g:List (Nat×Obj))(n:Nat)(a:List Prm):St:=⟨n,[],[],⟨[(1,.map (esP a))],g,[]⟩⟩
@[push_cast]theorem stZ_eq {a:List Prm}:stZ g n a=⟨n,[],[],⟨[(1,.map (esP a))],g,[]⟩⟩:=idq rfl
theorem L27_0 {l:List Ftr}{x:Fixt}{e1 e19 e20 e21:V}(hl:l.length<140737488355328)(b1:V.bd 3 e1=true)(b19:V.bd 3 e19=true)(b20:V.bd 3 e20=true)(b21:V.bd 3 e21=true):∀r j,l.drop j=r→∀a,
  runL Tryz.prog HH [1,5,7,19,20,21,27,28,29] 3 B27_0 [(1,e1),(5,.mp 1),(7,.ep x.v 0),(19,e19),(20,e20),(21,e21),(27,.sl (l.map Ftr.v)),(28,.int .i64 l.length),(29,.int .i64 j)] (stZ g 3 a)
   = some (.exit 2,[(1,e1),(5,.mp 1),(19,e19),(20,e20),(21,e21)],stZ g 3 ((r.map fun f=>(⟨x.chan,f.attr⟩:Prm)).foldl insK a)):=by
 refine drop_ind (fun j h a=>?_) (fun q r j h hx hd ih a=>?_)
 all_goals rw[runL_of B27_0.eq_1]
 ·have h1:¬(j:Int)<l.length:=by omega
  push_cast[h1,List.foldl_nil,List.map_nil,Ftr.v,Fixt.v]
 ·have h1:(j:Int)<l.length:=by omega
  have hw:=iw1 (j:=j) (by omega)
  have hm:=fun(st:St) (i:Nat)=>mset_esP (st:=st) (i:=i) (a:=a) (p:=⟨x.chan,q.attr⟩)
  have ih:=ih (insK a ⟨x.chan,q.attr⟩)
  push_cast[Prm.v]at hm
  push_cast[h1,hw,hx,Ftr.v,Fixt.v,List.foldl_cons,List.map_cons,b1,b19,b20,b21,hm]at ih ⊢
  exact dn_eq rfl ih
theorem L27_1 {s:Sho}(h0:s.ok)(hs:shoC s=0):∀r j,s.fixts.drop j=r→∀a,
  runL Tryz.prog HH [1,5,19,20,21] 2 B27_1 [(1,.ep s.v 0),(5,.mp 1),(19,.sl (s.fixts.map Fixt.v)),(20,.int .i64 s.fixts.length),(21,.int .i64 j)] (stZ g 2 a)
   = some (.exit 0,[(5,.mp 1)],stZ g 2 (r.foldl (fun a x=>(prmsX s.profs x).foldl insK a) a)):=by
 have hl:=h0.f.1
 have hf:=fix_ok (shoC_parts hs).2.2.2.1
 refine drop_ind (fun j h a=>?_) (fun x r j h hx hd ih a=>?_)
 all_goals rw[runL_of B27_1.eq_1]
 ·have h1:¬(j:Int)<s.fixts.length:=by omega
  push_cast[h1,List.foldl_nil,Sho.v,Fixt.v]
 ·have h1:(j:Int)<s.fixts.length:=by omega
  have hw:=iw1 (j:=j) (by omega)
  obtain⟨q,hq1⟩:=Option.isSome_iff_exists.1 (aloC_some (hf.2.2.2 x (mem_at hd)))
  have hq2:=prof_len hs (List.mem_of_find?_eq_some hq1)
  have h55:=fun(st:St)=>f69 (st:=st) h0.p.1 hq1
  have h0:=L27_0 (g:=g) (l:=q.feats) (x:=x) (e1:=.ep s.v 0) (e19:=.sl (s.fixts.map Fixt.v)) (e20:=.int .i64 s.fixts.length) (e21:=.int .i64 j) (by omega) (by simp[V.bd,V.bdL,bdL_map']) (by simp[V.bd,V.bdL,bdL_map']) rfl rfl _ 0 rfl a
  have e:prmsX s.profs x=q.feats.map fun f=>(⟨x.chan,f.attr⟩:Prm):=by simp[prmsX,ftsX,hq1]
  rw[List.drop_zero,←e]at h0
  have ih:=ih ((prmsX s.profs x).foldl insK a)
  push_cast[Sho.v,Fixt.v,Ftr.v]at h55 h0
  push_cast[h1,hw,hx,Sho.v,Fixt.v,Ftr.v,h55,h0,List.foldl_cons]at ih ⊢
  exact ih
theorem featsR_attr {foot c:Int}{l:List Ftr}:∀{r:List Ftr}{j:Nat},l.drop j=r→featsR foot c l r j=0→∀q∈r,0≤q.attr∧q.attr≤14
 |[],_,_,_,x,hx=>by simp at hx
 |q::r,j,hd,h0,x,hx=>by
  rw[featsR]at h0
  split at h0
  ·rename_i h1
   rcases List.mem_cons.1 hx with rfl|hx
   ·unfold featR at h1
    by_cases c1:x.attr<0∨15≤x.attr
    ·rw[if_pos c1]at h1;cases h1
    ·omega
   ·exact featsR_attr (drop_succ hd) h0 x hx
  ·rename_i h1;exact absurd h0 h1
theorem prof_attr {s:Sho}(hs:shoC s=0){q:Prof}(hq:q∈s.profs):∀f∈q.feats,0≤f.attr∧f.attr≤14:=by
 have h:=(shoC_parts hs).2.2.1
 unfold profsCR at h
 split at h
 ·cases h
 ·have:=profsR_all (j:=0) rfl h q hq
  unfold profR at this
  repeat' split at this
  all_goals first|(rename_i a;exact absurd this a)|cases this|skip
  exact featsR_attr (j:=0) rfl this
theorem keyP_rng {s:Sho}(hs:shoC s=0):∀p∈keyP s,(1≤p.chan∧p.chan≤999)∧0≤p.attr∧p.attr≤14:=fun p hp=>by
 obtain⟨x,hx,hp⟩:=(keyP_ok.2 p).1 hp
 obtain⟨f,hf,rfl⟩:=List.mem_map.1 hp
 refine⟨fix_chan hs x hx,?_⟩
 unfold ftsX at hf
 cases e:pfx s.profs x.prof with
 |none=>rw[e]at hf;simp at hf
 |some q=>rw[e]at hf;exact prof_attr hs (List.mem_of_find?_eq_some e) f hf
theorem keyP_len {s:Sho}(hs:shoC s=0):(keyP s).length≤20000:=by
 have h1:=keyP_rng hs
 have h2:(keyP s).Perm (patC s 1 999):=(List.mergeSort_perm (keyP s) leP).symm.trans (by rw[←par_eq (fix_chan hs)];exact .refl _)
 have h3:(keyP s).length≤64*16:=by
  have:∀(r:List Fixt) (a:List Prm),(∀x∈r,(ftsX s.profs x).length≤16)→(r.foldl (fun a x=>(prmsX s.profs x).foldl insK a) a).length≤a.length+r.length*16:=by
   intro r
   induction r with
   |nil=>intro a _;simp
   |cons x r ih =>
    intro a hx
    have k1:=ih ((prmsX s.profs x).foldl insK a) (fun y hy=>hx y (List.mem_cons_of_mem _ hy))
    have k2:∀(l a:List Prm),(l.foldl insK a).length≤a.length+l.length:=by
     intro l
     induction l with
     |nil=>intro a;simp
     |cons p l ih=>intro a;have:=ih (insK a p);have:(insK a p).length≤a.length+1:=by { unfold insK;split<;>simp };simp only[List.foldl_cons,List.length_cons];omega
    have k3:=k2 (prmsX s.profs x) a
    have k4:=hx x (List.mem_cons_self ..)
    have k5:(prmsX s.profs x).length=(ftsX s.profs x).length:=by simp[prmsX]
    simp only[List.foldl_cons,List.length_cons];omega
  have h4:=this s.fixts [] fun x _=>by
   unfold ftsX
   cases e:pfx s.profs x.prof with
   |none=>simp
   |some q=>exact prof_len hs (List.mem_of_find?_eq_some e)
  have:=(fix_ok (shoC_parts hs).2.2.2.1).2.1
  unfold keyP;simp only[List.length_nil]at *;omega
 omega
def pre13 : Cd := (.g [.s 1 (.box 31 (.t 0)),.s 2 (.mv (.c .nils)),.s 3 (.mv (.i 0))]
 (.z [1] (.join [1] (.g [.s 12 (.load (some 9) (.t 1)),.s 13 (.f 46 [(.t 12)]),.s 4 (.m 13)]
 (.g [.s 14 (.m 4),.s 15 (.bin .neq (.t 14) (.i 0))]
 (.i 15 (.g [.s 16 (.m 4),.s 2 (.mv (.c .nils)),.s 3 (.m 16)]
 (.ret [2, 3]))
 .skip)))
 (.g [.s 17 (.act .mkmap []),.s 5 (.m 17)]
 (.join [5] (.g [.s 18 (.a 3 1),.s 19 (.l 18),.s 20 (.len (.t 19)),.s 21 (.mv (.i 0))]
 (.block 0 (.loop [1, 5, 19, 20, 21] [] B27_1)))
 (.g [.s 10 (.mv (.c .nils))] .skip))))))
def post13 : Cd := (.g [.s 51 (.m 10),.s 52 (.f 70 [(.t 51), (.c (.fn (.func 71) [] []))])]
 (.g [.s 53 (.m 10),.s 2 (.m 53),.s 3 (.mv (.i 0))]
 (.ret [2, 3])))
def mid13 : Cd := (.join [10] (.g [.s 41 (.m 5),.s 42 (.act .rng [(.t 41)])]
 (.block 4 (.loop [10, 42] [(10, (71, 2))] B27_2))) post13)
theorem run_pre {s:Sho}(h:s.ok)(hs:shoC s=0):runC Tryz.prog HH pre13 (argEnv 0 [s.v]) (stN g 0)=some (.normal,[(10,.nils),(5,.mp 1)],stZ g 2 (keyP s)):=by
 have h15:=fun(st:St)=>f46 (st:=st) h
 have h0:=L27_1 (g:=g) h hs _ 0 rfl []
 rw[List.drop_zero,show s.fixts.foldl (fun a x=>(prmsX s.profs x).foldl insK a) []=keyP s from rfl]at h0
 rw[pre13]
 push_cast[Sho.v,Fixt.v]at h15 h0
 push_cast[Sho.v,Fixt.v,h15,h0,hs]
def seeP (s:Sho)(l:List Nat):List Prm:=l.map fun j=>(keyP s).getD j default
def stY (g:List (Nat×Obj))(s:Sho)(seen:List Nat):St:=⟨4,[],[(3,⟨71,2,(seeP s seen).map Prm.v,true,false⟩)],⟨[(2,.iter 1 (esP (keyP s)).length seen),(1,.map (esP (keyP s)))],g,[]⟩⟩
theorem es_get {a:List Prm}{j:Nat}{kv:V×V}(h:(esP a)[j]?=some kv):kv=((a.getD j default).v,.bool true)∧j<a.length:=by
 rw[esP,List.getElem?_map]at h
 obtain⟨p,hp,rfl⟩:=Option.map_eq_some_iff.1 h
 exact⟨by rw[List.getD_eq_getElem?_getD,hp];rfl,(List.getElem?_eq_some_iff.1 hp).1⟩
def k27 : Cd := (.join [10, 42] (.i 44 .skip (.exit [10] 4)) (.block 5 (.g [.s 45 (.act .ent [(.t 42)]),.s 46 (.ext 0 (.t 45)),.s 11 (.alloc 71 [(.i 0), (.i 0)]),.n (.store 2 (.t 11) (.t 46))]
 (.z [11] (.reg [.s 47 (.m 10),.s 48 (.load (some 2) (.t 11)),.s 49 (.bslice 71 2 [(.t 48)]),.s 50 (.append 71 2 16 (.t 47) (.t 49)),.s 10 (.m 50)])))))
theorem run_end {s:Sho}{seen:List Nat}:runC Tryz.prog HH k27 ((44,.bool false)::(43,.tup [.bool false])::[(10,.osl 3 seen.length),(42,.ptr 2 0)]) (stY g s seen)=some (.exit 4,[(10,.osl 3 seen.length)],stY g s seen):=by
 rw[k27,stY]
 push_cast
theorem run_step {s:Sho}{seen:List Nat}{j:Nat}(hj:j<(keyP s).length)(hlen:seen.length<100000):∃e2 s2,runC Tryz.prog HH k27 ((44,.bool true)::(43,.tup [.bool true,((keyP s).getD j default).v,.bool true])::[(10,.osl 3 seen.length),(42,.ptr 2 0)]) ⟨4,[],[(3,⟨71,2,(seeP s seen).map Prm.v,true,false⟩)],⟨[(2,.iter 1 (esP (keyP s)).length (seen++[j])),(1,.map (esP (keyP s)))],g,[]⟩⟩=some (.normal,e2,s2)
  ∧ WeakEnv 4 e2 [(10,.osl 3 (seen++[j]).length),(42,.ptr 2 0)]∧Weak 4 s2 (stY g s (seen++[j])):=by
 have he:(esP (keyP s))[j]?=some (((keyP s).getD j default).v,.bool true):=by
  rw[esP,List.getElem?_map,List.getElem?_eq_getElem hj,List.getD_eq_getElem?_getD,List.getElem?_eq_getElem hj];rfl
 have hE:actV .ent [.ptr 2 0] ⟨4,[],[(3,⟨71,2,(seeP s seen).map Prm.v,true,false⟩)],⟨[(2,.iter 1 (esP (keyP s)).length (seen++[j])),(1,.map (esP (keyP s)))],g,[]⟩⟩=some (.tup [((keyP s).getD j default).v,.bool true],⟨4,[],[(3,⟨71,2,(seeP s seen).map Prm.v,true,false⟩)],⟨[(2,.iter 1 (esP (keyP s)).length (seen++[j])),(1,.map (esP (keyP s)))],g,[]⟩⟩):=by
  simp[actV,entV,Sha.look,he]
 have h4:roomV (seen.length+1) 16=true:=roomV_lit (by omega) (by omega)
 have hs:(seeP s seen).length=seen.length:=by simp[seeP]
 have hn:seeP s (seen++[j])=seeP s seen++[(keyP s).getD j default]:=by simp[seeP]
 generalize (keyP s).getD j default=p at *
 refine⟨[(10,.osl 3 (seen.length+1)),(50,.osl 3 (seen.length+1)),(49,.osl 5 1),(48,p.v),(47,.osl 3 seen.length),(11,.ep p.v 0),(11,.ptr 4 0),(46,p.v),(45,.tup [p.v,.bool true]),(10,.osl 3 seen.length),(42,.ptr 2 0)],
  ⟨6,[],[(5,⟨71,2,[p.v],false,false⟩),(3,⟨71,2,(seeP s seen).map Prm.v++[p.v],true,false⟩)],⟨[(2,.iter 1 (keyP s).length (seen++[j])),(1,.map (esP (keyP s)))],g,[]⟩⟩,?_,fun i v hv=>?_,?_⟩
 ·rw[k27]
  push_cast[Prm.v]at hE
  push_cast[hE,Prm.v,h4,hs]
 ·simp only[Sha.look]at hv
  split at hv
  ·rename_i e;subst e;cases hv;exact⟨rfl,by simp[Sha.look]⟩
  ·split at hv
   ·rename_i e;subst e;cases hv;exact⟨rfl,by simp[Sha.look]⟩
   ·cases hv
 ·have e:stY g s (seen++[j])=cutS 4 ⟨6,[],[(5,⟨71,2,[p.v],false,false⟩),(3,⟨71,2,(seeP s seen).map Prm.v++[p.v],true,false⟩)],⟨[(2,.iter 1 (keyP s).length (seen++[j])),(1,.map (esP (keyP s)))],g,[]⟩⟩:=by
   rw[stY,hn]
   simp[cutS,keepL,esP]
  rw[e]
  refine cutS_weak ?_
  push_cast[cutB,belowL,Prm.v,Ob.bd]
def stX (g:List (Nat×Obj))(s:Sho)(seen:List Nat):St:=⟨4,[],[(3,⟨71,2,((seeP s seen).map Prm.v).mergeSort leV,true,false⟩)],⟨[(2,.iter 1 (esP (keyP s)).length seen),(1,.map (esP (keyP s)))],g,[]⟩⟩
theorem ok_prm {p:Prm}(h:(1≤p.chan∧p.chan≤999)∧0≤p.attr∧p.attr≤14):okPV p.v=true:=by
 simp only[Prm.v,okPV,Bool.and_eq_true,decide_eq_true_eq];omega
theorem seeP_perm {s:Sho}{seen:List Nat}(h:seen.Perm (List.range (keyP s).length)):(seeP s seen).Perm (keyP s):=by
 refine(h.map _).trans ?_
 have:(List.range (keyP s).length).map (fun j=>(keyP s).getD j default)=keyP s:=by
  apply List.ext_getElem?
  intro i
  rw[List.getElem?_map]
  by_cases hi:i<(keyP s).length
  ·rw[List.getElem?_range hi,Option.map_some,List.getD_eq_getElem?_getD,List.getElem?_eq_getElem hi];rfl
  ·rw[List.getElem?_eq_none (by simpa using hi),List.getElem?_eq_none (by omega)];rfl
 rw[this]
theorem see_sort {s:Sho}{seen:List Nat}(h:seen.Perm (List.range (keyP s).length)):((seeP s seen).map Prm.v).mergeSort leV=(parP s).map Prm.v:=by
 rw[←List.map_mergeSort (r:=leP) (f:=Prm.v) (fun a _ b _=>by cases a;cases b;rfl),sort_perm (seeP_perm h)];rfl
theorem run_post {s:Sho}(hs:shoC s=0){seen:List Nat}(h:seen.Perm (List.range (keyP s).length)):runC Tryz.prog HH post13 [(10,.osl 3 seen.length)] (stY g s seen)=some (.ret,[(2,.osl 3 seen.length),(3,.int .i64 0)],stX g s seen):=by
 have hp:=seeP_perm h
 have h56:run Tryz.prog HH 70 [.osl 3 seen.length,.fn (.func 71) [] []] (stY g s seen)=some (.ret (.tup []),stX g s seen):=by
  refine run_H ?_
  have hl:=h.length_eq
  have:=keyP_len hs
  rw[List.length_range]at hl
  have hc:((seeP s seen).map Prm.v).length=seen.length∧seen.length≤100000000∧2=2∧true=true∧((seeP s seen).map Prm.v).all okPV=true:=by
   refine⟨by simp[seeP],by omega,rfl,rfl,?_⟩
   rw[List.all_map,List.all_eq_true]
   intro p hpm
   exact ok_prm (keyP_rng hs p (hp.mem_iff.1 hpm))
  show(if((seeP s seen).map Prm.v).length=seen.length∧seen.length≤100000000∧2=2∧true=true∧((seeP s seen).map Prm.v).all okPV=true then _ else _)=_
  rw[if_pos hc];rfl
 rw[post13]
 rw[stY,stX]at *
 push_cast at h56
 push_cast[h56]
theorem mixed:Tryz.prog.follows .mixedOrders=true:=by kernel_rfl
theorem v27 (hH:ESound Tryz.prog HH){s:Sho}(h:s.ok){st:St}:VCalls Tryz.prog 27 [s.v] st (fun x y=>x=.ret (.tup [.sl ((parS s).map Prm.v),.int .i64 (shoC s)])∧y=st):=by
 by_cases hs:shoC s=0
 ·refine VCalls_shutW (by simp) (VCalls_WD F27 (Nat.le_of_ble_eq_true rfl) fun N=>?_)
  show WD _ ⟨N,[]⟩ (pre13.put mid13) (argEnv 0 [s.v]) (stN st.x.gl 0) _
  refine WD.run mixed hH (run_pre h hs) ?_
  show WD _ _ mid13 _ _ _
  refine WD.join (WD.seq (WD.ev mixed hH (x:=.normal) (e:=[(42,.ptr 2 0),(41,.mp 1),(10,.nils),(5,.mp 1)]) (s:=⟨3,[],[],⟨[(2,.iter 1 (esP (keyP s)).length []),(1,.map (esP (keyP s)))],st.x.gl,[]⟩⟩) ?_ ?_))
  ·have hR:actV .rng [.mp 1] ⟨2,[],[],⟨[(1,.map (esP (keyP s)))],st.x.gl,[]⟩⟩=some (.ptr 2 0,⟨3,[],[],⟨[(2,.iter 1 (esP (keyP s)).length []),(1,.map (esP (keyP s)))],st.x.gl,[]⟩⟩):=rfl
   push_cast at hR
   push_cast[hR]
  ·show WD _ _ (.block 4 _) _ _ _
   refine WD.block (WD.ownW rfl ?_)
   show WD _ _ (.loop [10,42] [] (.seq (.reg [⟨some 43,.nxt (.t 42),none⟩,⟨some 44,.ext 0 (.t 43),none⟩]) k27)) _ _ _
   refine WD.rng (it:=2) (mp:=1) (es:=esP (keyP s)) (fun seen e z=>e=[(10,.osl 3 seen.length),(42,.ptr 2 0)]∧z=stY st.x.gl s seen∧seen.length≤20000) 4 (by decide) ?_ ?_ (Nat.le_refl _) ?_ ?_
   ·rintro seen e z ⟨rfl,rfl,_⟩
    exact⟨rfl,rfl,rfl,rfl⟩
   ·refine⟨_,_,⟨rfl,rfl,by simp⟩,fun i v hv=>?_,?_⟩
    ·simp only[Sha.look]at hv
     split at hv
     ·rename_i e;subst e;cases hv;exact⟨rfl,by simp[Sha.look]⟩
     ·split at hv
      ·rename_i e;subst e;cases hv;exact⟨rfl,by simp[Sha.look]⟩
      ·cases hv
    ·have e:stY st.x.gl s []=cutS 4 ⟨4,[],[(3,⟨71,2,[],true,false⟩)],⟨[(2,.iter 1 (esP (keyP s)).length []),(1,.map (esP (keyP s)))],st.x.gl,[]⟩⟩:=rfl
     rw[e]
     refine cutS_weak ?_
     push_cast[cutB,belowL,Prm.v,Ob.bd]
   ·rintro seen e z ⟨rfl,rfl,_⟩ hp
    rw[esP_len]at hp
    refine WD.ev mixed hH run_end ?_
    show WD _ _ post13 [(10,.osl 3 seen.length)] (stY st.x.gl s seen) _
    refine WD.ev mixed hH (run_post hs hp) ⟨.ret (.tup [.osl 3 seen.length,.int .i64 0]),stX st.x.gl s seen,rfl,?_⟩
    have e:=see_sort hp
    have hlen:(parP s).length=seen.length:=by rw[parP,List.length_mergeSort,←(seeP_perm hp).length_eq];simp[seeP]
    rw[stX,parS,if_pos hs,hs,e]
    push_cast[hlen,Prm.v]
   ·rintro seen j e z kv ⟨rfl,rfl,hl⟩ hj hn hlt2
    have:=keyP_len hs
    rw[esP_len]at hlt2
    obtain⟨rfl,hlt⟩:=es_get hj
    obtain⟨e2,s2,a1,a2,a3⟩:=run_step (g:=st.x.gl) (s:=s) (seen:=seen) hlt (by omega)
    exact WD.ev mixed hH a1 ⟨_,_,⟨rfl,rfl,by rw[List.length_append,List.length_singleton];omega⟩,a2,a3⟩
 ·refine(run_sound mixed hH) 27 _ _ _ _ ?_
  have h15:=fun(st:St)=>f46 (st:=st) h
  push_cast[Sho.v,Prm.v]at h15
  rw[run_shut F27 rfl rfl (by simp)]
  push_cast[Sho.v,Prm.v,h15,hs,parS,List.map_nil]
end Go.Proofs.YtkpcomdhdjihlaaGreatDoor

namespace Go.Proofs.YtkpcomdhdjihlaaGreatDoor
open Go.Sha
set_option maxRecDepth 10000
theorem F30:compF Tryz.prog 30=some ⟨43,[.tmp 6,.tmp 7],(.g [.q 3 31 0,.q 4 71 1,.q 5 73 2,.c 6 0,.c 7 0] (.z [3,4,5] (.join [3,4,5] (.g [.d 13 9 3,.f 14 46 13,.m 8 14] (.g [.m 15 8,.v 16 .neq 15 0] (.i 16 (.g [.m 17 8,.c 6 0,.m 7 17] (.ret [6,7])) .skip))) (.join [3,4,5] (.g [.d 18 2 5,.f 19 73 18,.m 9 19] (.g [.m 20 9,.v 21 .neq 20 0] (.i 21 (.g [.m 22 9,.c 6 0,.m 7 22] (.ret [6,7])) .skip))) (.join [3,4,5] (.g [.d 23 2 4,.f 24 74 23,.m 10 24] (.g [.m 25 10,.v 26 .neq 25 0] (.i 26 (.g [.m 27 10,.c 6 0,.m 7 27] (.ret [6,7])) .skip))) (.g [.d 29 9 3,.d 30 2 4,.g' 31 75 29 30,.m 28 31,.j 32 0 28,.j 33 1 28,.s 11 (.alloc 110 [.i 0,.i 0,.i 0,.i 0,.i 0,.i 0,.i 0,.i 0,(.bool false),.nils]),.w 10 11 32,.m 12 33] (.z [11] (.g [.a 34 5 3,.l 35 34,.d 36 2 5,.d 37 2 4,.a 38 5 11,.l 39 38,.s 40 (.f 76 [.t 35,.t 36,.t 37,.t 39]),.j 41 0 40,.j 42 1 40,.m 6 41,.m 7 42] (.ret [6,7])))))))))⟩:=by kernel_rfl
def B76_0:Cd:=(.g [.b 23 .lss 22 21] (.join [0,3,5,6,20,21,22] (.i 23 .skip (.exit [0,3,5,6] 0)) (.join [0,3,5,6,20,21,22] (.block 1 (.g [.r 24 1 20 22,.l 25 24,.m 11 25] (.g [.m 26 11,.v 27 .neq 26 0] (.i 27 (.g [.m 28 11,.c 8 0,.m 9 28] (.ret [8,9])) .skip)))) (.reg [.v 29 .add 22 1,.m 22 29]))))
theorem F76:compF Tryz.prog 76=some ⟨49,[.tmp 8,.tmp 9],(.g [.q 5 73 1,.q 6 71 2,.c 8 0,.c 9 0] (.z [5,6] (.join [0,3,5,6] (.join [0,3,5,6,20,21,22] (.greg [[],[],[],[],[],[],[false,false,false,false,false,false],[],[true]] [.m 14 0,.f 15 133 14,.d 16 2 5,.f 17 73 16,.d 18 2 6,.s 19 (.f 134 [.t 18,.i 1]),.s 20 (.bslice 35 1 [.t 15,.t 17,.t 19]),.u 21 20,.c 22 0]) (.block 0 (.loop [0,3,5,6,20,21,22] [] B76_0))) (.join [0,3,5,6] (.g [.m 30 3,.f 31 132 30,.z 32 31] (.i 32 (.g [.c 8 0,.c 9 2] (.ret [8,9])) .skip)) (.join [0,3,5,6] (.g [.a 33 0 5,.l 34 33,.v 35 .eql 34 0] (.i 35 (.g [.a 36 1 5,.l 37 36,.m 8 37,.c 9 0] (.ret [8,9])) .skip)) (.join [3] (.g [.m 39 0,.a 40 0 5,.l 41 40,.d 42 2 6,.s 43 (.f 135 [.t 39,.t 41,.t 42]),.m 38 43,.j 44 0 38,.j 45 1 38,.m 12 44,.m 13 45] (.g [.m 46 13] (.i 46 (.g [.m 47 12,.m 8 47,.c 9 0] (.ret [8,9])) .skip))) (.g [.m 48 3,.m 8 48,.c 9 0] (.ret [8,9]))))))))⟩:=by kernel_rfl
def B135_0:Cd:=(.g [.b 29 .lss 28 27] (.join [0,8,26,27,28] (.i 29 .skip (.exit [] 0)) (.join [0,8,26,27,28] (.block 1 (.g [.r 30 2 26 28,.d 31 2 30,.s 11 (.alloc 71 [.i 0,.i 0]),.w 2 11 31] (.z [11] (.q (.dreg 12 [.m 33 0,.m 34 8,.r 35 2 33 34,.a 36 1 35,.l 37 36,.d 38 2 11,.s 39 (.f 204 [.t 37,.t 38,(.c (.fn (.func 205) [] []))]),.m 32 39,.j 40 0 32,.j 41 1 32,.m 12 40,.m 13 41]) (.g [.m 42 13] (.i 42 (.g [.m 43 0,.m 44 8,.r 45 2 43 44,.a 46 1 45,.l 47 46,.m 48 12,.r 49 3 47 48,.a 50 2 49,.l 51 50,.m 6 51,.k 7 true] (.ret [6,7])) .skip)))))) (.reg [.v 52 .add 28 1,.m 28 52]))))
theorem F135:compF Tryz.prog 135=some ⟨53,[.tmp 6,.tmp 7],(.g [.q 5 71 2,.c 6 0,.k 7 false] (.z [5] (.g [.m 15 0,.m 16 1,.g' 17 203 15 16,.m 14 17,.j 18 0 14,.j 19 1 14,.m 8 18,.m 9 19] (.join [0,5,8] (.g [.m 20 9,.z 21 20] (.i 21 (.g [.c 6 0,.k 7 false] (.ret [6,7])) .skip)) (.join [] (.g [.d 22 2 5,.a 23 1 5,.l 24 23,.s 25 (.build [.i 0,.i 0] [(1,1,(.t 24))]),.s 26 (.bslice 71 2 [.t 22,.t 25]),.u 27 26,.c 28 0] (.block 0 (.loop [0,8,26,27,28] [] B135_0))) (.g [.c 6 0,.k 7 false] (.ret [6,7])))))))⟩:=by kernel_rfl
theorem F203:compF Tryz.prog 203=some ⟨11,[.tmp 4,.tmp 5],(.g [.c 4 0,.k 5 false] (.g [.m 6 0,.m 7 1,.s 8 (.f 269 [.t 6,.t 7,(.c (.fn (.func 270) [] []))]),.j 9 0 8,.j 10 1 8,.m 4 9,.m 5 10] (.ret [4,5])))⟩:=by kernel_rfl
def B204_0:Cd:=(.join [0,2,4,8,9,10] (.g [.m 15 9,.m 16 10,.b 17 .lss 15 16] (.i 17 .skip (.exit [0,2,4,8,9] 0))) (.block 1 (.g [.m 18 9,.m 19 10,.b 20 .add 18 19,.s 21 (.cvi .u64 (.t 20)),.s 22 (.bin .shr (.t 21) (.c (.int .u64 1))),.s 23 (.cvi .i64 (.t 22)),.m 11 23] (.q (.dreg 8 [.m 24 2,.m 25 0,.m 26 11,.r 27 3 25 26,.d 28 3 27,.d 29 2 4,.s 30 (.call (.t 24) [.t 28,.t 29]),.v 31 .lss 30 0]) (.i 31 (.reg [.m 32 11,.v 33 .add 32 1,.m 9 33]) (.reg [.m 34 11,.m 10 34]))))))
theorem F204:compF Tryz.prog 204=some ⟨49,[.tmp 6,.tmp 7],(.g [.q 4 71 1,.c 6 0,.k 7 false] (.z [4] (.g [.m 12 0,.u 13 12,.m 8 13] (.g [.m 14 8,.c 9 0,.m 10 14] (.join [0,2,4,8,9] (.block 0 (.loop [0,2,4,8,9,10] [] B204_0)) (.join [6,7] (.dreg 16 [.m 35 9,.m 36 9,.m 37 8,.b 38 .lss 36 37,.m 39 38,.my 40 2 39,.my 41 0 39,.my 42 9 39,.ry 43 3 41 42 39,.y 44 (.load (some 3) (.t 43)) 39,.y 45 (.load (some 2) (.t 4)) 39,.y 46 (.call (.t 40) [.t 44,.t 45]) 39,.vy 47 .eql 46 0 39,.e 48 39 47,.m 6 35,.m 7 48]) (.ret [6,7])))))))⟩:=by kernel_rfl
theorem F205:compF Tryz.prog 205=some ⟨9,[.tmp 4],(.g [.q 2 182 0,.q 3 71 1,.c 4 0] (.z [2,3] (.q (.dreg 5 [.d 5 3 2,.f 6 207 5,.d 7 2 3,.g' 8 206 6 7,.m 4 8]) (.ret [4]))))⟩:=by kernel_rfl
def B269_0:Cd:=(.join [0,1,2,8,9,10] (.g [.m 15 9,.m 16 10,.b 17 .lss 15 16] (.i 17 .skip (.exit [0,1,2,8,9] 0))) (.block 1 (.g [.m 18 9,.m 19 10,.b 20 .add 18 19,.s 21 (.cvi .u64 (.t 20)),.s 22 (.bin .shr (.t 21) (.c (.int .u64 1))),.s 23 (.cvi .i64 (.t 22)),.m 11 23] (.g [.m 24 2,.m 25 0,.m 26 11,.r 27 2 25 26,.d 28 2 27,.m 29 1,.s 30 (.call (.t 24) [.t 28,.t 29]),.v 31 .lss 30 0] (.i 31 (.reg [.m 32 11,.v 33 .add 32 1,.m 9 33]) (.reg [.m 34 11,.m 10 34]))))))
theorem F269:compF Tryz.prog 269=some ⟨49,[.tmp 6,.tmp 7],(.g [.c 6 0,.k 7 false] (.g [.m 12 0,.u 13 12,.m 8 13] (.g [.m 14 8,.c 9 0,.m 10 14] (.join [0,1,2,8,9] (.block 0 (.loop [0,1,2,8,9,10] [] B269_0)) (.join [6,7] (.reg [.m 35 9,.m 36 9,.m 37 8,.b 38 .lss 36 37,.m 39 38,.my 40 2 39,.my 41 0 39,.my 42 9 39,.ry 43 2 41 42 39,.y 44 (.load (some 2) (.t 43)) 39,.my 45 1 39,.y 46 (.call (.t 40) [.t 44,.t 45]) 39,.vy 47 .eql 46 0 39,.e 48 39 47,.m 6 35,.m 7 48]) (.ret [6,7]))))))⟩:=by kernel_rfl
theorem F270:compF Tryz.prog 270=some ⟨9,[.tmp 4],(.g [.q 2 99 0,.c 4 0] (.z [2] (.g [.a 5 0 2,.l 6 5,.m 7 1,.b 8 .sub 6 7,.m 4 8] (.ret [4]))))⟩:=by kernel_rfl
end Go.Proofs.YtkpcomdhdjihlaaGreatDoor

namespace Go.Proofs.YtkpcomdhdjihlaaGreatDoor
open Go.Sha
set_option maxRecDepth 100000
variable {g:List (Nat×Obj)}{n:Nat}
def bsI (c:Nat→Int)(i j:Nat):Nat:=if h:i<j then if c ((i+j) / 2)<0 then bsI c ((i+j) / 2+1) j else bsI c i ((i+j) / 2) else i
termination_by j-i
theorem bsI_ok {c:Nat→Int}{N:Nat}(hm:∀a b,a<b→b<N→c b≤0→c a<0):∀{i j:Nat},i≤j→j≤N→(∀k<i,c k<0)→(∀k,j≤k→k<N→0≤c k)→i≤bsI c i j∧bsI c i j≤j∧(∀k<bsI c i j,c k<0)∧∀k,bsI c i j≤k→k<N→0≤c k:=by
 intro i j
 induction i,j using bsI.induct c with
 |case1 i j h h2 ih =>
  intro hij hj h3 h4
  rw[bsI,dif_pos h,if_pos h2]
  have:=ih (by omega) hj (fun k hk=>by
   rcases Nat.lt_or_ge k ((i+j) / 2) with e|e
   ·exact hm k ((i+j) / 2) e (by omega) (by omega)
   ·rw[show k=(i+j) / 2 by omega];exact h2) h4
  exact⟨by omega,this.2.1,this.2.2.1,this.2.2.2⟩
 |case2 i j h h2 ih =>
  intro hij hj h3 h4
  rw[bsI,dif_pos h,if_neg h2]
  have:=ih (by omega) (by omega) h3 (fun k hk hk2=>by
   rcases Nat.lt_or_ge ((i+j) / 2) k with e|e
   ·apply Classical.byContradiction;intro e2
    exact h2 (hm ((i+j) / 2) k e hk2 (by omega))
   ·rw[show k=(i+j) / 2 by omega];omega)
  exact⟨this.1,by omega,this.2.2.1,this.2.2.2⟩
 |case3 i j h =>
  intro hij hj h3 h4
  rw[bsI,dif_neg h]
  exact⟨Nat.le_refl _,hij,h3,fun k hk hk2=>h4 k (by omega) hk2⟩
theorem bs_find {α:Type}[Inhabited α]{l:List α}{c:α→Int}(hs:l.Pairwise fun a b=>c b≤0→c a<0) :
  let r:=bsI (fun k=>c (l.getD k default)) 0 l.length
  r≤l.length∧(∀x,l.find? (fun x=>decide (c x=0))=some x→r<l.length∧(∀d,l.getD r d=x)∧c x=0)∧(l.find? (fun x=>decide (c x=0))=none→¬(r<l.length∧c (l.getD r default)=0)):=by
 intro r
 have hg:∀k d,k<l.length→l.getD k d∈l∧l[k]?=some (l.getD k d):=fun k d hk=>by
  rw[List.getD_eq_getElem?_getD,List.getElem?_eq_getElem hk];exact⟨List.getElem_mem hk,rfl⟩
 have hm:∀a b,a<b→b<l.length→c (l.getD b default)≤0→c (l.getD a default)<0:=fun a b hab hb h=>by
  have h1:=(hg a default (by omega)).2
  have h2:=(hg b default hb).2
  rw[List.getElem?_eq_getElem (by omega)]at h1 h2
  have:=List.pairwise_iff_getElem.1 hs a b (by omega) hb hab
  rw[Option.some.inj h1,Option.some.inj h2]at this
  exact this h
 obtain⟨_,r1,r2,r3⟩:=bsI_ok (c:=fun k=>c (l.getD k default)) hm (i:=0) (j:=l.length) (by omega) (Nat.le_refl _) (fun k hk=>by omega) (fun k h1 h2=>by omega)
 refine⟨r1,fun x hx=>?_,fun hx h=>?_⟩
 ·have h0:c x=0:=by simpa using List.find?_some hx
  obtain⟨k,hk⟩:=List.mem_iff_getElem?.1 (List.mem_of_find?_eq_some hx)
  have hkl:=(List.getElem?_eq_some_iff.1 hk).1
  have hkx:∀d,l.getD k d=x:=fun d=>by rw[List.getD_eq_getElem?_getD,hk];rfl
  have e1:r≤k:=by
   apply Classical.byContradiction;intro e
   have:=r2 k (by omega);rw[hkx]at this;omega
  have e2:r=k:=by
   apply Classical.byContradiction;intro e
   have a:=hm r k (by omega) hkl (by rw[hkx];omega)
   have b:=r3 r (Nat.le_refl _) (by omega)
   omega
  rw[e2];exact⟨hkl,hkx,h0⟩
 ·have:=List.find?_eq_none.1 hx _ (hg r default h.1).1
  rw[decide_eq_true_eq]at this;exact this h.2
theorem f270 {x:Pal}{v:Int}{st:St}:run Tryz.prog HH 270 [x.v,.int .i64 v] st=some (.ret (.int .i64 (IntKind.i64.wrap (x.num-v))),st):=by
 rw[run_shut F270 rfl rfl (by simp)]
 push_cast[Pal.v]
theorem halfI {i j:Nat}(h:i+j<4611686018427387904):IntKind.i64.wrap ((IntKind.u64.wrap (IntKind.i64.wrap ((i:Int)+j))).fdiv (2 ^ min 1 IntKind.u64.bits))=(((i+j) / 2:Nat):Int):=by
 have w1:IntKind.i64.wrap ((i:Int)+j)=((i+j:Nat):Int):=by rw[←Int.natCast_add];exact iwrap (by omega) (by omega)
 have w2:IntKind.u64.wrap ((i+j:Nat):Int)=((i+j:Nat):Int):=by
  unfold IntKind.wrap;simp[IntKind.bits,IntKind.signed];omega
 rw[w1,w2,show(2 ^ min 1 IntKind.u64.bits:Int)=2 from rfl,Int.fdiv_eq_ediv_of_nonneg _ (by omega),show(((i+j:Nat):Int) / 2)=(((i+j) / 2:Nat):Int) by simp]
 exact iwrap (by omega) (by omega)
theorem L269 {l:List Pal}{v:Int}(hl:l.length<140737488355328):∀i j,i≤j→j≤l.length→runL Tryz.prog HH [0,1,2,8,9,10] n B269_0 [(0,.sl (l.map Pal.v)),(1,.int .i64 v),(2,.fn (.func 270) [] []),(8,.int .i64 l.length),(9,.int .i64 i),(10,.int .i64 j)] (stN g n)
  = some (.exit 0,[(0,.sl (l.map Pal.v)),(1,.int .i64 v),(2,.fn (.func 270) [] []),(8,.int .i64 l.length),(9,.int .i64 (bsI (fun k=>IntKind.i64.wrap ((l.getD k default).num-v)) i j))],stN g n):=by
 intro i j
 induction i,j using bsI.induct (fun k=>IntKind.i64.wrap ((l.getD k default).num-v)) with
 |case1 i j h h2 ih =>
  intro hij hj
  have ih:=ih (by omega) hj
  rw[bsI,dif_pos h,if_pos h2,runL_of B269_0.eq_1]
  have h1:(i:Int)<j:=by omega
  have h3:=halfI (i:=i) (j:=j) (by omega)
  have h4:(((i+j) / 2:Nat):Int)<l.length:=by omega
  have h5:IntKind.i64.wrap ((((i+j) / 2:Nat):Int)+1)=(((i+j) / 2+1:Nat):Int):=iwrap (by omega) (by omega)
  have h207:=fun(st:St)=>f270 (x:=l.getD ((i+j) / 2) default) (v:=v) (st:=st)
  generalize hk:(i+j) / 2=k at *
  push_cast[Pal.v]at ih h207
  push_cast[h1,h3,h4,h5,h207,Pal.v,h2]
  exact ih
 |case2 i j h h2 ih =>
  intro hij hj
  have ih:=ih (by omega) (by omega)
  rw[bsI,dif_pos h,if_neg h2,runL_of B269_0.eq_1]
  have h1:(i:Int)<j:=by omega
  have h3:=halfI (i:=i) (j:=j) (by omega)
  have h4:(((i+j) / 2:Nat):Int)<l.length:=by omega
  have h207:=fun(st:St)=>f270 (x:=l.getD ((i+j) / 2) default) (v:=v) (st:=st)
  generalize hk:(i+j) / 2=k at *
  push_cast[Pal.v]at ih h207
  push_cast[h1,h3,h4,h207,Pal.v,h2]
  exact ih
 |case3 i j h =>
  intro hij hj
  rw[bsI,dif_neg h,runL_of B269_0.eq_1]
  have h1:¬(i:Int)<j:=by omega
  push_cast[h1,Pal.v]
def bsP (l:List Pal)(v:Int):Nat:=bsI (fun k=>IntKind.i64.wrap ((l.getD k default).num-v)) 0 l.length
theorem f269 {l:List Pal}{v:Int}(hl:l.length<140737488355328){st:St}:run Tryz.prog HH 269 [.sl (l.map Pal.v),.int .i64 v,.fn (.func 270) [] []] st=some (.ret (.tup [.int .i64 (bsP l v),.bool (decide ((bsP l v:Int)<l.length)&&IntKind.i64.wrap ((l.getD (bsP l v) default).num-v) == 0)]),st):=by
 have h0:=fun n=>L269 (g:=st.x.gl) (n:=n) (v:=v) hl 0 l.length (by omega) (Nat.le_refl _)
 have h207:=fun(st:St)=>f270 (x:=l.getD (bsP l v) default) (v:=v) (st:=st)
 rw[run_shut F269 rfl rfl (by simp)]
 rw[show bsI (fun k=>IntKind.i64.wrap ((l.getD k default).num-v)) 0 l.length=bsP l v from rfl]at h0
 push_cast[Pal.v]at h0 h207
 push_cast[Pal.v,h0,h207]
 exact dn_eq (by omega) rfl
theorem f205 {x:Hue}{q:Prm}{st:St}:run Tryz.prog HH 205 [x.v,q.v] st=some (.ret (.int .i64 (cmpP x.p q)),st):=by
 have h:=fun(st:St)=>f207 (x:=x) (st:=st)
 have h2:=fun(st:St)=>f206 (x:=x.p) (y:=q) (st:=st)
 push_cast[Hue.v,Prm.v,Hue.p]at h h2
 rw[run_shut F205 rfl rfl (by simp)]
 push_cast[Hue.v,Prm.v,h,h2]
theorem L204 {l:List Hue}{q:Prm}(hl:l.length<140737488355328):∀i j,i≤j→j≤l.length→runL Tryz.prog HH [0,2,4,8,9,10] n B204_0 [(0,.sl (l.map Hue.v)),(2,.fn (.func 205) [] []),(4,.ep q.v 0),(8,.int .i64 l.length),(9,.int .i64 i),(10,.int .i64 j)] (stN g n)
  = some (.exit 0,[(0,.sl (l.map Hue.v)),(2,.fn (.func 205) [] []),(4,.ep q.v 0),(8,.int .i64 l.length),(9,.int .i64 (bsI (fun k=>cmpP (l.getD k default).p q) i j))],stN g n):=by
 intro i j
 induction i,j using bsI.induct (fun k=>cmpP (l.getD k default).p q) with
 |case1 i j h h2 ih =>
  intro hij hj
  have ih:=ih (by omega) hj
  rw[bsI,dif_pos h,if_pos h2,runL_of B204_0.eq_1]
  have h1:(i:Int)<j:=by omega
  have h3:=halfI (i:=i) (j:=j) (by omega)
  have h4:(((i+j) / 2:Nat):Int)<l.length:=by omega
  have h5:IntKind.i64.wrap ((((i+j) / 2:Nat):Int)+1)=(((i+j) / 2+1:Nat):Int):=iwrap (by omega) (by omega)
  have h163:=fun(st:St)=>f205 (x:=l.getD ((i+j) / 2) default) (q:=q) (st:=st)
  generalize hk:(i+j) / 2=k at *
  push_cast[Hue.v,Prm.v]at ih h163
  push_cast[h1,h3,h4,h5,h163,Hue.v,Prm.v,h2]
  exact ih
 |case2 i j h h2 ih =>
  intro hij hj
  have ih:=ih (by omega) (by omega)
  rw[bsI,dif_pos h,if_neg h2,runL_of B204_0.eq_1]
  have h1:(i:Int)<j:=by omega
  have h3:=halfI (i:=i) (j:=j) (by omega)
  have h4:(((i+j) / 2:Nat):Int)<l.length:=by omega
  have h163:=fun(st:St)=>f205 (x:=l.getD ((i+j) / 2) default) (q:=q) (st:=st)
  generalize hk:(i+j) / 2=k at *
  push_cast[Hue.v,Prm.v]at ih h163
  push_cast[h1,h3,h4,h163,Hue.v,Prm.v,h2]
  exact ih
 |case3 i j h =>
  intro hij hj
  rw[bsI,dif_neg h,runL_of B204_0.eq_1]
  have h1:¬(i:Int)<j:=by omega
  push_cast[h1,Hue.v,Prm.v]
def bsH (l:List Hue)(q:Prm):Nat:=bsI (fun k=>cmpP (l.getD k default).p q) 0 l.length
theorem f204 {l:List Hue}{q:Prm}(hl:l.length<140737488355328){st:St}:run Tryz.prog HH 204 [.sl (l.map Hue.v),q.v,.fn (.func 205) [] []] st=some (.ret (.tup [.int .i64 (bsH l q),.bool (decide ((bsH l q:Int)<l.length)&&cmpP (l.getD (bsH l q) default).p q == 0)]),st):=by
 have h0:=fun n=>L204 (g:=st.x.gl) (n:=n) (q:=q) hl 0 l.length (by omega) (Nat.le_refl _)
 have h163:=fun(st:St)=>f205 (x:=l.getD (bsH l q) default) (q:=q) (st:=st)
 rw[run_shut F204 rfl rfl (by simp)]
 rw[show bsI (fun k=>cmpP (l.getD k default).p q) 0 l.length=bsH l q from rfl]at h0
 push_cast[Hue.v,Prm.v]at h0 h163
 push_cast[Hue.v,Prm.v,h0,h163]
 exact dn_eq (by omega) rfl
theorem palsR_all {l:List Pal}:∀{r:List Pal}{j:Nat},l.drop j=r→palsR l r j=0→(∀q∈r,1≤q.num∧q.num≤1048576∧hueLR q.hues=0)∧((l.take j).Pairwise (fun a b=>a.num<b.num)→l.Pairwise fun a b=>a.num<b.num)
 |[],j,hd,_=>by
  have:l.length≤j:=List.drop_eq_nil_iff.1 hd
  rw[List.take_of_length_le this];exact⟨by simp,fun h=>h⟩
 |q::r,j,hd,h=>by
  rw[palsR]at h
  split at h
  ·cases h
  ·rename_i h1
   split at h
   ·cases h
   ·rename_i h2
    split at h
    ·rename_i h3
     obtain⟨a,b⟩:=palsR_all (drop_succ hd) h
     refine⟨fun x hx=>?_,fun hp=>b ?_⟩
     ·rcases List.mem_cons.1 hx with rfl|hx
      ·exact⟨by omega,by omega,h3⟩
      ·exact a x hx
     ·rw[take_snoc hd]
      refine List.pairwise_append.2 ⟨hp,List.pairwise_singleton ..,fun y hy z hz=>?_⟩
      rw[List.mem_singleton.1 hz]
      obtain⟨k,hk⟩:=List.mem_iff_getElem?.1 hy
      have hj:=drop_le hd
      rw[List.getElem?_take]at hk
      split at hk
      ·rename_i hkj
       have e:l.getD (j-1) default=l[j-1]:=by rw[List.getD_eq_getElem?_getD,List.getElem?_eq_getElem (by omega)];rfl
       rw[e]at h2
       rcases Nat.lt_or_ge k (j-1) with hk2|hk2
       ·have hm:=List.pairwise_iff_getElem.1 hp k (j-1) (by simp;omega) (by simp;omega) hk2
        rw[List.getElem_take,List.getElem_take]at hm
        rw[List.getElem?_eq_getElem (by omega)]at hk
        rw[←Option.some.inj hk];omega
       ·have:k=j-1:=by omega
        subst this
        rw[List.getElem?_eq_getElem (by omega)]at hk
        rw[←Option.some.inj hk];omega
      ·cases hk
    ·rename_i h3;exact absurd h h3
theorem huesR_all {l:List Hue}:∀{r:List Hue}{j:Nat},l.drop j=r→huesR l r j=0→(∀q∈r,prmC 0 q.p=0∧lvl q.lev)∧((l.take j).Pairwise (fun a b=>befP a.p b.p=true)→l.Pairwise fun a b=>befP a.p b.p=true)
 |[],j,hd,_=>by
  have:l.length≤j:=List.drop_eq_nil_iff.1 hd
  rw[List.take_of_length_le this];exact⟨by simp,fun h=>h⟩
 |q::r,j,hd,h=>by
  rw[huesR]at h
  split at h
  ·cases h
  ·rename_i h1
   split at h
   ·cases h
   ·rename_i h2
    obtain⟨a,b⟩:=huesR_all (drop_succ hd) h
    refine⟨fun x hx=>?_,fun hp=>b ?_⟩
    ·rcases List.mem_cons.1 hx with rfl|hx
     ·refine⟨?_,Classical.byContradiction fun e=>h1 (.inr (.inr (.inr (.inr e))))⟩
      unfold prmC;rw[if_neg];simp only[Hue.p];omega
     ·exact a x hx
    ·rw[take_snoc hd]
     refine List.pairwise_append.2 ⟨hp,List.pairwise_singleton ..,fun y hy z hz=>?_⟩
     rw[List.mem_singleton.1 hz]
     obtain⟨k,hk⟩:=List.mem_iff_getElem?.1 hy
     have hj:=drop_le hd
     rw[List.getElem?_take]at hk
     split at hk
     ·rename_i hkj
      have e:l.getD (j-1) default=l[j-1]:=by rw[List.getD_eq_getElem?_getD,List.getElem?_eq_getElem (by omega)];rfl
      have h3:befP l[j-1].p q.p=true:=by
       rw[←e];cases hb:befP (l.getD (j-1) default).p q.p with
       |true=>rfl
       |false=>exact absurd ⟨by omega,hb⟩ h2
      rcases Nat.lt_or_ge k (j-1) with hk2|hk2
      ·have hm:=List.pairwise_iff_getElem.1 hp k (j-1) (by simp;omega) (by simp;omega) hk2
       rw[List.getElem_take,List.getElem_take]at hm
       rw[List.getElem?_eq_getElem (by omega)]at hk
       rw[←Option.some.inj hk]
       simp only[befP,Bool.or_eq_true,Bool.and_eq_true,decide_eq_true_eq]at hm h3 ⊢
       omega
      ·have:k=j-1:=by omega
       subst this
       rw[List.getElem?_eq_getElem (by omega)]at hk
       rw[←Option.some.inj hk];exact h3
     ·cases hk
theorem pals_ok {l:List Pal}(h:palsCR l=0):(∀q∈l,1≤q.num∧q.num≤1048576∧hueLR q.hues=0)∧l.Pairwise fun a b=>a.num<b.num:=by
 unfold palsCR at h
 split at h
 ·cases h
 ·obtain⟨a,b⟩:=palsR_all (j:=0) rfl h
  exact⟨a,b List.Pairwise.nil⟩
theorem hues_ok {l:List Hue}(h:hueLR l=0):(∀q∈l,prmC 0 q.p=0∧lvl q.lev)∧l.Pairwise fun a b=>befP a.p b.p=true:=by
 unfold hueLR at h
 split at h
 ·cases h
 ·obtain⟨a,b⟩:=huesR_all (j:=0) rfl h
  exact⟨a,b List.Pairwise.nil⟩
end Go.Proofs.YtkpcomdhdjihlaaGreatDoor

namespace Go.Proofs.YtkpcomdhdjihlaaGreatDoor
open Go.Sha
set_option maxRecDepth 100000
variable {g:List (Nat×Obj)}{n:Nat}
def palF (l:List Pal)(v:Int):Option Pal:=l.find? fun x=>decide (x.num=v)
def hueF (l:List Hue)(c a:Int):Option Hue:=l.find? fun x=>decide (x.chan=c∧x.attr=a)
theorem pals_len {l:List Pal}(h:palsCR l=0):l.length≤32:=by
 unfold palsCR at h;split at h
 ·cases h
 ·omega
theorem hues_len {l:List Hue}(h:hueLR l=0):l.length≤256:=by
 unfold hueLR at h;split at h
 ·cases h
 ·omega
theorem find_congr {α:Type}{p q:α→Bool}:∀{l:List α},(∀x∈l,p x=q x)→l.find? p=l.find? q
 |[],_=>rfl
 |x::r,h=>by
  rw[List.find?_cons,List.find?_cons,h x (List.mem_cons_self ..),find_congr (l:=r) fun y hy=>h y (List.mem_cons_of_mem _ hy)]
theorem f203 {l:List Pal}{v:Int}(h:palsCR l=0)(hv:-1≤v∧v≤1048576) :
  (∀x,palF l v=some x→∃k:Nat,k<l.length∧(∀d,l.getD k d=x)∧∀st,run Tryz.prog HH 203 [.sl (l.map Pal.v),.int .i64 v] st=some (.ret (.tup [.int .i64 k,.bool true]),st)) ∧
  (palF l v=none→∃k:Nat,∀st,run Tryz.prog HH 203 [.sl (l.map Pal.v),.int .i64 v] st=some (.ret (.tup [.int .i64 k,.bool false]),st)):=by
 obtain⟨h1,h2⟩:=pals_ok h
 have hl:=pals_len h
 have w:∀x∈l,IntKind.i64.wrap (x.num-v)=x.num-v:=fun x hx=>by have:=h1 x hx;exact iwrap (by omega) (by omega)
 have hp:l.Pairwise fun a b=>IntKind.i64.wrap (b.num-v)≤0→IntKind.i64.wrap (a.num-v)<0 :=
  (List.Pairwise.and_mem.1 h2).imp fun {a b} ⟨ha,hb,hab⟩ hc=>by rw[w b hb]at hc;rw[w a ha];omega
 have hf:palF l v=l.find? fun x=>decide (IntKind.i64.wrap (x.num-v)=0):=find_congr fun x hx=>by
  rw[w x hx];exact decide_eq_decide.2 (by omega)
 obtain⟨r1,r2,r3⟩:=bs_find (c:=fun x:Pal=>IntKind.i64.wrap (x.num-v)) hp
 have h206:=fun(st:St)=>f269 (l:=l) (v:=v) (st:=st) (by omega)
 change bsP l v≤l.length at r1
 rw[hf]
 refine⟨fun x hx=>⟨bsP l v,(r2 x hx).1,(r2 x hx).2.1,fun st=>?_⟩,fun hx=>⟨bsP l v,fun st=>?_⟩⟩
 ·have e:(decide ((bsP l v:Int)<l.length)&&IntKind.i64.wrap ((l.getD (bsP l v) default).num-v) == 0)=true:=by
   have a:=(r2 x hx).1;have b:=(r2 x hx).2.1 default;have c:=(r2 x hx).2.2
   change bsP l v<l.length at a
   change l.getD (bsP l v) default=x at b
   rw[b]
   simp only[Bool.and_eq_true,decide_eq_true_eq,beq_iff_eq]
   exact⟨by omega,c⟩
  rw[e]at h206
  rw[run_shut F203 rfl rfl (by simp)]
  push_cast[Pal.v,h206]
 ·have e:(decide ((bsP l v:Int)<l.length)&&IntKind.i64.wrap ((l.getD (bsP l v) default).num-v) == 0)=false:=by
   have a:=r3 hx
   rw[Bool.eq_false_iff];intro e
   simp only[Bool.and_eq_true,decide_eq_true_eq,beq_iff_eq]at e
   exact a ⟨by have:=e.1;change bsP l v<l.length;omega,e.2⟩
  rw[e]at h206
  rw[run_shut F203 rfl rfl (by simp)]
  push_cast[Pal.v,h206]
theorem f204' {l:List Hue}{q:Prm}(h:hueLR l=0)(hq:prmC 0 q=0) :
  (∀x,hueF l q.chan q.attr=some x→∃k:Nat,k<l.length∧(∀d,l.getD k d=x)∧∀st,run Tryz.prog HH 204 [.sl (l.map Hue.v),q.v,.fn (.func 205) [] []] st=some (.ret (.tup [.int .i64 k,.bool true]),st)) ∧
  (hueF l q.chan q.attr=none→∃k:Nat,∀st,run Tryz.prog HH 204 [.sl (l.map Hue.v),q.v,.fn (.func 205) [] []] st=some (.ret (.tup [.int .i64 k,.bool false]),st)):=by
 obtain⟨h1,h2⟩:=hues_ok h
 have hl:=hues_len h
 have hq':=prmC_ok hq
 have w:∀x∈l,cmpP x.p q=if ¬x.chan=q.chan then x.chan-q.chan else x.attr-q.attr:=fun x hx=>by
  have:=prmC_ok (h1 x hx).1
  simp only[Hue.p]at this
  have w1:IntKind.i64.wrap (x.chan-q.chan)=x.chan-q.chan:=iwrap (by omega) (by omega)
  have w2:IntKind.i64.wrap (x.attr-q.attr)=x.attr-q.attr:=iwrap (by omega) (by omega)
  simp only[cmpP,Hue.p,w1,w2]
 have hp:l.Pairwise fun a b=>cmpP b.p q≤0→cmpP a.p q<0 :=
  (List.Pairwise.and_mem.1 h2).imp fun {a b} ⟨ha,hb,hab⟩ hc=>by
   rw[w b hb]at hc;rw[w a ha]
   simp only[befP,Hue.p,Bool.or_eq_true,Bool.and_eq_true,decide_eq_true_eq]at hab
   split at hc<;>split<;>omega
 have hf:hueF l q.chan q.attr=l.find? fun x=>decide (cmpP x.p q=0):=find_congr fun x hx=>by
  rw[w x hx];refine decide_eq_decide.2 ?_;split<;>omega
 obtain⟨r1,r2,r3⟩:=bs_find (c:=fun x:Hue=>cmpP x.p q) hp
 have h162:=fun(st:St)=>f204 (l:=l) (q:=q) (st:=st) (by omega)
 rw[hf]
 refine⟨fun x hx=>⟨bsH l q,(r2 x hx).1,(r2 x hx).2.1,fun st=>?_⟩,fun hx=>⟨bsH l q,fun st=>?_⟩⟩
 ·rw[h162]
  have a:=(r2 x hx).1;have b:=(r2 x hx).2.1 default;have c:=(r2 x hx).2.2
  change bsH l q<l.length at a
  change l.getD (bsH l q) default=x at b
  rw[b,show(decide ((bsH l q:Int)<l.length)&&cmpP x.p q == 0)=true by simp only[Bool.and_eq_true,decide_eq_true_eq,beq_iff_eq];exact⟨by omega,c⟩]
 ·rw[h162]
  have a:=r3 hx
  rw[show(decide ((bsH l q:Int)<l.length)&&cmpP (l.getD (bsH l q) default).p q == 0)=false by
   rw[Bool.eq_false_iff];intro e
   simp only[Bool.and_eq_true,decide_eq_true_eq,beq_iff_eq]at e
   exact a ⟨by have:=e.1;change bsH l q<l.length;omega,e.2⟩]
def hueV (l:List Pal)(v:Int)(p:Prm):Option Int:=(palF l v).bind fun x=>((hueF x.hues p.chan p.attr).or (hueF x.hues 0 p.attr)).map Hue.lev
theorem f135 {l:List Pal}{v:Int}{p:Prm}(h:palsCR l=0)(hv:-1≤v∧v≤1048576)(hp:prmC 1 p=0){st:St}:run Tryz.prog HH 135 [.sl (l.map Pal.v),.int .i64 v,p.v] st=some (.ret (.tup [.int .i64 ((hueV l v p).getD 0),.bool (hueV l v p).isSome]),st):=by
 obtain⟨s1,s2⟩:=f203 h hv
 have hp':=prmC_ok hp
 cases hx:palF l v with
 |none =>
  obtain⟨k,h161⟩:=s2 hx
  rw[run_shut F135 rfl rfl (by simp)]
  push_cast[Pal.v,Prm.v,h161,hueV,hx,Option.bind_none,Option.isSome_none]
 |some x =>
  obtain⟨k,k1,k2,h161⟩:=s1 x hx
  have k3:(k:Int)<l.length:=by omega
  have hh:=((pals_ok h).1 x (List.mem_of_find?_eq_some hx)).2.2
  obtain⟨t1,t2⟩:=f204' (q:=p) hh (by unfold prmC;rw[if_neg (by omega)])
  obtain⟨u1,u2⟩:=f204' (q:=⟨0,p.attr⟩) hh (by unfold prmC;rw[if_neg (by simp only;omega)])
  have e:hueV l v p=((hueF x.hues p.chan p.attr).or (hueF x.hues 0 p.attr)).map Hue.lev:=by rw[hueV,hx];rfl
  rw[e]
  cases hy:hueF x.hues p.chan p.attr with
  |some y =>
   obtain⟨i,i1,i2,h162⟩:=t1 y hy
   have i3:(i:Int)<x.hues.length:=by omega
   push_cast[Pal.v,Prm.v,Hue.v]at h161 h162
   rw[run_shut F135 rfl rfl (by simp)]
   push_cast[Pal.v,Prm.v,Hue.v,h161,h162,k2,k3,i2,i3,runL_of B135_0.eq_1,Option.some_or,Option.isSome_some]
  |none =>
   obtain⟨i,h162⟩:=t2 hy
   cases hz:hueF x.hues 0 p.attr with
   |some y =>
    obtain⟨j,j1,j2,h162'⟩:=u1 y hz
    have j3:(j:Int)<x.hues.length:=by omega
    push_cast[Pal.v,Prm.v,Hue.v]at h161 h162 h162'
    rw[run_shut F135 rfl rfl (by simp)]
    push_cast[Pal.v,Prm.v,Hue.v,h161,h162,h162',k2,k3,j2,j3,runL_of B135_0.eq_1,Option.none_or,Option.isSome_some]
   |none =>
    obtain⟨j,h162'⟩:=u2 hz
    push_cast[Pal.v,Prm.v,Hue.v]at h161 h162 h162'
    rw[run_shut F135 rfl rfl (by simp)]
    push_cast[Pal.v,Prm.v,Hue.v,h161,h162,h162',k2,k3,runL_of B135_0.eq_1,Option.none_or,Option.isSome_none]
def lvV (l:List Pal)(v:Val)(p:Prm)(home:Int):Int:=if v.pal=0 then v.lev else(hueV l v.pal p).getD home
theorem valC_ok {v:Val}(h:valC v=0):v.pal=0∧lvl v.lev∨-1≤v.pal∧¬v.pal=0∧v.pal≤1048576∧v.lev=0:=by
 unfold valC at h;split at h
 ·assumption
 ·omega
theorem f76 {l:List Pal}{v:Val}{p:Prm}{home:Int}(hb:∀q∈l,q.hues.length<140737488355328)(h:palsCR l=0)(hv:valC v=0)(hp:prmC 1 p=0)(hh:lvl home){st:St}:run Tryz.prog HH 76 [.sl (l.map Pal.v),v.v,p.v,.int .i64 home] st=some (.ret (.tup [.int .i64 (lvV l v p home),.int .i64 0]),st):=by
 have hl:=pals_len h
 have h104:=fun(st:St)=>f133 (l:=l) (st:=st) (by omega) hb
 rw[palsC_eq,h]at h104
 have h66:=fun(st:St)=>f73 (x:=v) (st:=st)
 have h119:=fun(st:St)=>f134 (x:=p) (c:=1) (st:=st)
 have h118:=fun(st:St)=>f132 (v:=home) (st:=st)
 rw[hv]at h66;rw[hp]at h119;rw[decide_eq_true hh]at h118
 have hv':=valC_ok hv
 by_cases h1:v.pal=0
 ·have h1':=eq_true h1
  push_cast[Pal.v,Val.v,Prm.v]at h104 h66 h119
  rw[run_shut F76 rfl rfl (by simp)]
  push_cast[Pal.v,Val.v,Prm.v,h104,h66,h119,h118,runL_of B76_0.eq_1,h1',lvV]
 ·have h120:=fun(st:St)=>f135 (st:=st) h (v:=v.pal) (by omega) hp
  cases hx:hueV l v.pal p with
  |none =>
   rw[hx]at h120
   push_cast[Pal.v,Val.v,Prm.v,Option.isSome_none]at h104 h66 h119 h120
   rw[run_shut F76 rfl rfl (by simp)]
   push_cast[Pal.v,Val.v,Prm.v,h104,h66,h119,h118,h120,runL_of B76_0.eq_1,h1,lvV,hx]
  |some y =>
   rw[hx]at h120
   push_cast[Pal.v,Val.v,Prm.v,Option.isSome_some]at h104 h66 h119 h120
   rw[run_shut F76 rfl rfl (by simp)]
   push_cast[Pal.v,Val.v,Prm.v,h104,h66,h119,h118,h120,runL_of B76_0.eq_1,h1,lvV,hx]
theorem featsR_all {foot c:Int}{l:List Ftr}:∀{r:List Ftr}{j:Nat},l.drop j=r→featsR foot c l r j=0→∀q∈r,∃b,featR foot c q b=0
 |[],_,_,_,x,hx=>by simp at hx
 |q::r,j,hd,h,x,hx=>by
  rw[featsR]at h
  split at h
  ·rename_i h1
   rcases List.mem_cons.1 hx with rfl|hx
   ·exact⟨_,h1⟩
   ·exact featsR_all (drop_succ hd) h x hx
  ·rename_i h1;exact absurd h h1
theorem featR_home {foot c:Int}{q:Ftr}{b:List Ftr}(h:featR foot c q b=0):lvl q.home∧(q.attr<0∨15≤q.attr→False):=by
 unfold featR at h
 by_cases c1:q.attr<0∨15≤q.attr
 ·rw[if_pos c1]at h;cases h
 ·refine⟨?_,c1⟩
  have key:innR c q=0→lvl q.home:=fun h=>by
   unfold innR insR at h
   split at h
   ·cases h
   ·by_cases a:¬lvl q.home∨q.low<0∨q.high<q.low∨(if q.bits=8 then 255 else 65535)<q.high
    ·rw[if_pos a]at h;cases h
    ·exact Classical.byContradiction fun e=>a (.inl e)
  rw[if_neg c1]at h
  split at h
  ·cases h
  ·split at h
   ·cases h
   ·split at h
    ·cases h
    ·split at h
     ·cases h
     ·split at h
      ·cases h
      ·exact key h
theorem prof_feat {s:Sho}(hs:shoC s=0){q:Prof}(hq:q∈s.profs){f:Ftr}(hf:f∈q.feats):lvl f.home∧(f.attr<0∨15≤f.attr→False):=by
 have h:=(shoC_parts hs).2.2.1
 unfold profsCR at h
 split at h
 ·cases h
 ·have:=profsR_all (j:=0) rfl h q hq
  unfold profR at this
  repeat' split at this
  all_goals first|(rename_i a;exact absurd this a)|cases this|skip
  obtain⟨b,hb⟩:=featsR_all (j:=0) rfl this f hf
  exact featR_home hb
theorem own_in {s:Sho}{p:Prm}{f:Ftr}(h:ownR s p=some f):f.attr=p.attr∧∃x∈s.fixts,x.chan=p.chan∧∃q,pfx s.profs x.prof=some q∧q∈s.profs∧f∈q.feats:=by
 obtain⟨y,hy,rfl⟩:=Option.map_eq_some_iff.1 h
 obtain⟨a,b⟩:=havL_some hy
 obtain⟨c1,c2,_⟩:=partsF_mem a
 cases hq:pfx s.profs y.1.prof with
 |none=>rw[hq]at b;cases b
 |some q =>
  rw[hq]at b
  have hb:=List.find?_some b
  rw[decide_eq_true_eq]at hb
  exact⟨hb,y.1,c1,c2,q,hq,List.mem_of_find?_eq_some hq,List.mem_of_find?_eq_some b⟩
theorem own_home {s:Sho}{p:Prm}(hs:shoC s=0):lvl ((ownR s p).getD F0).home:=by
 cases h:ownR s p with
 |none=>decide
 |some f =>
  obtain⟨_,x,_,_,q,_,h1,h2⟩:=own_in h
  exact(prof_feat hs h1 h2).1
def levE (s:Sho)(p:Prm)(v:Val):Int:=if ¬shoC s=0 then shoC s else if ¬valC v=0 then valC v else prmC 1 p
def levV (s:Sho)(p:Prm)(v:Val):Int:=if levE s p v=0 then lvV s.pals v p ((ownR s p).getD F0).home else 0
theorem f30 {s:Sho}{p:Prm}{v:Val}(h:s.ok){st:St}:run Tryz.prog HH 30 [s.v,p.v,v.v] st=some (.ret (.tup [.int .i64 (levV s p v),.int .i64 (levE s p v)]),st):=by
 have h15:=fun(st:St)=>f46 (st:=st) h
 have h66:=fun(st:St)=>f73 (x:=v) (st:=st)
 have h67:=fun(st:St)=>f74 (x:=p) (st:=st)
 by_cases h1:shoC s=0
 ·have hf:=fix_ok (shoC_parts h1).2.2.2.1
  have hp:=(shoC_parts h1).2.2.2.2.2.1
  have h68:=fun(st:St)=>f75 (p:=p) (st:=st) (by omega) (by omega) (fun q hq=>(h.p.2.1 q hq).a) (fun x hx=>aloC_some (hf.2.2.2 x hx))
  rw[(own_eq (p:=p) h1).1]at h68
  by_cases h2:valC v=0
  ·by_cases h3:prmC 1 p=0
   ·have h69:=fun(st:St)=>f76 (st:=st) h.l.2 hp h2 h3 (own_home (p:=p) h1)
    push_cast[Sho.v,Prm.v,Val.v,Ftr.v,Pal.v]at h15 h66 h67 h68 h69
    rw[run_shut F30 rfl rfl (by simp)]
    push_cast[Sho.v,Prm.v,Val.v,Ftr.v,Pal.v,h15,h66,h67,h68,h69,h1,h2,h3,levV,levE]
   ·push_cast[Sho.v,Prm.v,Val.v]at h15 h66 h67
    rw[run_shut F30 rfl rfl (by simp)]
    push_cast[Sho.v,Prm.v,Val.v,h15,h66,h67,h1,h2,h3,levV,levE]
  ·push_cast[Sho.v,Val.v]at h15 h66
   rw[run_shut F30 rfl rfl (by simp)]
   push_cast[Sho.v,Prm.v,Val.v,h15,h66,h1,h2,levV,levE]
 ·push_cast[Sho.v]at h15
  rw[run_shut F30 rfl rfl (by simp)]
  push_cast[Sho.v,Prm.v,Val.v,h15,h1,levV,levE]
end Go.Proofs.YtkpcomdhdjihlaaGreatDoor

namespace Go.Proofs.YtkpcomdhdjihlaaGreatDoor
open Go.Sha
set_option maxRecDepth 10000
theorem F60:compF Tryz.prog 60=some ⟨13,[.tmp 4,.tmp 5],(.g [.q 2 31 0,.c 4 0,.c 5 0] (.z [2] (.g [.d 6 9 2,.a 7 6 2,.l 8 7,.m 9 1,.s 10 (.f 118 [.t 6,.t 8,.t 9,(.c (.fn (.func 119) [] []))]),.j 11 0 10,.j 12 1 10,.m 4 11,.m 5 12] (.ret [4,5]))))⟩:=by kernel_rfl
theorem F118:compF Tryz.prog 118=some ⟨23,[.tmp 8,.tmp 9],(.g [.q 4 31 0,.q 6 3 2,.q 7 111 3,.c 8 0,.c 9 0] (.z [4,6,7] (.join [1,6,7] (.g [.d 12 9 4,.f 13 46 12,.m 10 13] (.g [.m 14 10,.v 15 .neq 14 0] (.i 15 (.g [.m 16 10,.c 8 0,.m 9 16] (.ret [8,9])) .skip))) (.g [.m 17 1,.s 18 (.mkfn (.func 183) [] [.t 7,.t 6]),.g' 19 182 17 18,.m 11 19] (.join [11] (.g [.m 20 11,.v 21 .lss 20 0] (.i 21 (.g [.c 8 0,.c 9 6] (.ret [8,9])) .skip)) (.g [.m 22 11,.m 8 22,.c 9 0] (.ret [8,9])))))))⟩:=by kernel_rfl
theorem F119:compF Tryz.prog 119=some ⟨5,[.tmp 2],(.g [.q 1 55 0,.c 2 0] (.z [1] (.g [.a 3 0 1,.l 4 3,.m 2 4] (.ret [2]))))⟩:=by kernel_rfl
def B182_0:Cd:=(.g [.b 9 .lss 8 7] (.join [0,1,7,8] (.i 9 .skip (.exit [] 0)) (.join [0,1,7,8] (.block 1 (.g [.m 10 8,.m 5 10] (.g [.m 11 1,.m 12 0,.m 13 5,.r 14 3 12 13,.d 15 3 14,.s 16 (.call (.t 11) [.t 15])] (.i 16 (.g [.m 17 5,.m 4 17] (.ret [4])) .skip)))) (.reg [.v 18 .add 8 1,.m 8 18]))))
theorem F182:compF Tryz.prog 182=some ⟨19,[.tmp 4],(.g [.c 4 0] (.join [] (.g [.m 6 0,.u 7 6,.c 8 0] (.block 0 (.loop [0,1,7,8] [] B182_0))) (.g [.c 4 (-1)] (.ret [4]))))⟩:=by kernel_rfl
theorem F183:compF Tryz.prog 183=some ⟨10,[.tmp 4],(.g [.q 3 55 0,.k 4 false] (.z [3] (.q (.dreg 6 [.l 5 1,.d 6 3 3,.s 7 (.call (.t 5) [.t 6]),.l 8 2,.b 9 .eql 7 8,.m 4 9]) (.ret [4]))))⟩:=by kernel_rfl
end Go.Proofs.YtkpcomdhdjihlaaGreatDoor

namespace Go.Proofs.YtkpcomdhdjihlaaGreatDoor
open Go.Sha
set_option maxRecDepth 100000
variable {g:List (Nat×Obj)}{n:Nat}
def fndI' (c i:Int):Int:=if ¬c=0 then 0 else if i<0 then 0 else i
def fndE (c i:Int):Int:=if ¬c=0 then c else if i<0 then 6 else 0
theorem f119 {x:Lst}{st:St}:run Tryz.prog HH 119 [x.v] st=some (.ret (.int .i64 x.num),st):=by
 rw[run_shut F119 rfl rfl (by simp)]
 push_cast[Lst.v]
theorem f183 {x:Lst}{v:Int}{st:St}:run Tryz.prog HH 183 [x.v,.ep (.agg [.fn (.func 119) [] []]) 0,.ep (.agg [.int .i64 v]) 0] st=some (.ret (.bool (x.num == v)),st):=by
 have h:=fun(st:St)=>f119 (x:=x) (st:=st)
 push_cast[Lst.v]at h
 rw[run_shut F183 rfl rfl (by simp)]
 push_cast[Lst.v,h]
theorem f182 {l:List Lst}{v:Int}(hl:l.length<140737488355328){st:St}:run Tryz.prog HH 182 [.sl (l.map Lst.v),.fn (.func 183) [] [.ep (.agg [.fn (.func 119) [] []]) 0,.ep (.agg [.int .i64 v]) 0]] st=some (.ret (.int .i64 (ix (fun x=>x.num == v) l 0)),st) :=
 IxF (f:=Lst.v) (n:=some 3) (fun _=>rfl) (fun _=>rfl) F182 rfl (by simp) hl (fun q _ _=>f183) (fun _ _=>rfl) (fun _=>rfl)
theorem f118 {s:Sho}{v:Int}(h:s.ok){st:St}:run Tryz.prog HH 118 [s.v,.sl (s.lsts.map Lst.v),.int .i64 v,.fn (.func 119) [] []] st=some (.ret (.tup [.int .i64 (fndI' (shoC s) (ix (fun x=>x.num == v) s.lsts 0)),.int .i64 (fndE (shoC s) (ix (fun x=>x.num == v) s.lsts 0))]),st):=by
 have h15:=fun(st:St)=>f46 (st:=st) h
 have hi:=fun(st:St)=>f182 (v:=v) (st:=st) h.k.1
 push_cast[Sho.v]at h15
 rw[run_shut F118 rfl rfl (by simp)]
 push_cast[Sho.v,h15,hi,fndI',fndE]
theorem f60 {s:Sho}{v:Int}(h:s.ok){st:St}:run Tryz.prog HH 60 [s.v,.int .i64 v] st=some (.ret (.tup [.int .i64 (fndI' (shoC s) (ix (fun x=>x.num == v) s.lsts 0)),.int .i64 (fndE (shoC s) (ix (fun x=>x.num == v) s.lsts 0))]),st):=by
 have h1:=fun(st:St)=>f118 (v:=v) (st:=st) h
 push_cast[Sho.v]at h1
 rw[run_shut F60 rfl rfl (by simp)]
 push_cast[Sho.v,h1]
end Go.Proofs.YtkpcomdhdjihlaaGreatDoor

namespace Go.Proofs.YtkpcomdhdjihlaaGreatDoor
open Go.Sha
set_option maxRecDepth 10000
end Go.Proofs.YtkpcomdhdjihlaaGreatDoor

namespace Go.Proofs.YtkpcomdhdjihlaaGreatDoor
open Go.Sha
set_option maxRecDepth 100000
variable {g:List (Nat×Obj)}{n:Nat}
def theatre:Sho:=⟨[],[],[⟨[115,112,111,116],3,0,[⟨0,8,0,0,0,0,0,255,false,[]⟩,⟨1,16,1,2,0,32768,0,65535,false,[]⟩]⟩],[⟨1,1,[115,112,111,116],1,1,1,[]⟩,⟨2,1,[115,112,111,116],1,4,1,[]⟩],[],[⟨5,[⟨0,1,100⟩]⟩],[⟨7,0,[]⟩],[],[]⟩
end Go.Proofs.YtkpcomdhdjihlaaGreatDoor

namespace Go.Proofs.YtkpcomdhdjihlaaGreatDoor
open Go.Sha
set_option maxRecDepth 100000
def thS:Sho:={ theatre with lsts:=[⟨7,0,[⟨[49],[],[⟨⟨1,0⟩,⟨0,32768⟩,1⟩,⟨⟨2,1⟩,⟨5,0⟩,1⟩],[⟨1500,0,0,0,0,0⟩],false,false,-1,[],0⟩]⟩] }
def hPar:List V→Option VRes
 |[v]=>if V.beq v thS.v=true then some (.ret (.tup [.sl ([⟨1,0⟩,⟨1,1⟩,⟨2,0⟩,⟨2,1⟩].map Prm.v),.int .i64 0])) else none
 |_=>none
def hNoE:List V→Option VRes
 |[v]=>some (.ret v)
 |_=>none
def HK:EvF:=⟨HH.raw,fun f args st=>bif Nat.beq f 170 then(hNoE args).map fun r=>(r,st) else bif Nat.beq f 27 then(hPar args).map fun r=>(r,st) else HH f args st⟩
@[push_cast]theorem HK_raw:HK.raw=[70,98,166,233,234,300,344]:=idq rfl
abbrev Row:Type:=List (List UInt8)
@[reducible] def rowV (r:Row):V:=.sl (r.map .str)
@[reducible] def tabV (l:List Row):V:=.sl (l.map rowV)
def Tok (l:List Row):Prop:=l.length<140737488355328∧∀r∈l,r.length<140737488355328∧∀s∈r,s.length<140737488355328
end Go.Proofs.YtkpcomdhdjihlaaGreatDoor

namespace Go.Proofs.YtkpcomdhdjihlaaGreatDoor
open Go.Sha
set_option maxRecDepth 10000
def B41_0:Cd:=(.join [0,1,5] (.g [.m 11 5,.m 12 0,.u 13 12,.b 14 .lss 11 13] (.i 14 .skip (.exit [] 0))) (.join [0,1,5] (.block 1 (.q (.dreg 9 [.m 17 0,.m 18 5,.r 19 1 17 18,.l 20 19,.m 21 1,.m 22 5,.r 23 1 21 22,.l 24 23,.b 25 .neq 20 24]) (.i 25 (.g [.k 4 false] (.ret [4])) .skip))) (.reg [.m 15 5,.v 16 .add 15 1,.m 5 16])))
theorem F41:compF Tryz.prog 41=some ⟨26,[.tmp 4],(.g [.k 4 false] (.join [0,1] (.g [.m 6 0,.u 7 6,.m 8 1,.u 9 8,.b 10 .neq 7 9] (.i 10 (.g [.k 4 false] (.ret [4])) .skip)) (.join [] (.g [.c 5 0] (.block 0 (.loop [0,1,5] [] B41_0))) (.g [.k 4 true] (.ret [4])))))⟩:=by kernel_rfl
def B102_0:Cd:=(.g [.b 27 .lss 26 25] (.join [0,3,11,12,13,24,25,26] (.i 27 .skip (.exit [0,3,11,12,13] 2)) (.join [0,3,11,12,13,24,25,26] (.block 3 (.g [.r 28 1 24 26,.l 29 28,.m 7 29] (.g [.m 30 7,.m 31 3,.g' 32 169 30 31,.v 33 .geq 32 0] (.i 33 (.g [.c 2 3] (.ret [2])) .skip)))) (.reg [.v 34 .add 26 1,.m 26 34]))))
end Go.Proofs.YtkpcomdhdjihlaaGreatDoor

namespace Go.Proofs.YtkpcomdhdjihlaaGreatDoor
open Go.Sha
set_option maxRecDepth 100000
variable {g:List (Nat×Obj)}{n:Nat}
theorem f169 {s:List UInt8}{st:St}:run Tryz.prog HK 169 [.str s,.fn (.func 168) [] []] st=some (.ret (.int .i64 (oddI s)),st):=run_H rfl
theorem odd_ge {s:List UInt8}:(0≤oddI s)=¬(s.all plainB=true):=by
 unfold oddI
 rw[eq_iff_iff]
 split
 ·rename_i i h
  obtain⟨hi,h1,_⟩:=List.findIdx?_eq_some_iff_getElem.1 h
  refine⟨fun _ ha=>?_,fun _=>by omega⟩
  rw[List.all_eq_true]at ha
  rw[ha _ (List.getElem_mem hi)]at h1
  simp at h1
 ·rename_i h
  refine⟨fun h=>by omega,fun ha=>absurd ?_ ha⟩
  rw[List.findIdx?_eq_none_iff]at h
  rw[List.all_eq_true]
  intro x hx
  have:=h x hx
  simpa using this
def celE:Row→Int
 |[]=>0
 |s::r=>if s.all plainB=true then celE r else 3
def rowsE (k:Nat):List Row→Int
 |[]=>0
 |r::l=>if r.length=k then if celE r=0 then rowsE k l else celE r else 14
def tabE (l:List Row):Int:=if 4096<l.length then 5 else rowsE (l.getD 0 default).length l
theorem L102_0 {l:List Row}{c:Row}{i:Nat}(hl:c.length<140737488355328):∀r j,c.drop j=r→runL Tryz.prog HK [0,3,11,12,13,24,25,26] n B102_0 [(0,.sl (l.map rowV)),(3,.fn (.func 168) [] []),(11,.sl (l.map rowV)),(12,.int .i64 l.length),(13,.int .i64 i),(24,.sl (c.map .str)),(25,.int .i64 c.length),(26,.int .i64 j)] (stN g n)=lpX 2 (stN g n) [(0,.sl (l.map rowV)),(3,.fn (.func 168) [] []),(11,.sl (l.map rowV)),(12,.int .i64 l.length),(13,.int .i64 i)] 2 (celE r):=by
 refine drop_ind (fun j h=>?_) (fun q r j h hx hd ih=>?_)
 all_goals rw[runL_of B102_0.eq_1]
 ·have h1:¬(j:Int)<c.length:=by omega
  push_cast[h1,celE]
 ·have h1:(j:Int)<c.length:=by omega
  have hw:=iw1 (j:=j) (by omega)
  push_cast[h1,hw,hx,f169,odd_ge,rowV]at ih ⊢
  simp only[ih,celE,lps,Int.reduceEq,not_false_eq_true]
  all_goals ((repeat' split)<;>simp_all)
theorem L41 {a:Row}(hl:a.length<140737488355328):∀r j,a.drop j=r→runL Tryz.prog HK [0,1,5] n B41_0 [(0,.sl (a.map .str)),(1,.sl (a.map .str)),(5,.int .i64 j)] (stN g n)=some (.exit 0,[],stN g n):=by
 refine drop_ind (fun j h=>?_) (fun q r j h hx hd ih=>?_)
 all_goals rw[runL_of B41_0.eq_1]
 ·have h1:¬(j:Int)<a.length:=by omega
  push_cast[h1]
 ·have h1:(j:Int)<a.length:=by omega
  have hw:=iw1 (j:=j) (by omega)
  push_cast[h1,hw,hx]at ih ⊢
  simp only[ih,lps,Int.reduceEq,not_false_eq_true]
theorem f41 {a:Row}(hl:a.length<140737488355328){st:St}:run Tryz.prog HK 41 [.sl (a.map .str),.sl (a.map .str)] st=some (.ret (.bool true),st):=by
 rw[run_shut F41 rfl rfl (by simp)]
 have hL0:=fun n=>L41 (g:=st.x.gl) (n:=n) hl _ 0 rfl
 push_cast at hL0
 push_cast[hL0,lpE,lpX,lpI,lpB]
end Go.Proofs.YtkpcomdhdjihlaaGreatDoor

namespace Go.Proofs.YtkpcomdhdjihlaaGreatDoor
open Go.Sha
set_option maxRecDepth 10000
def B6_0:Cd:=(.g [.b 56 .lss 55 54] (.join [3,12,53,54,55] (.i 56 .skip (.exit [3,12] 0)) (.join [3,12,53,54,55] (.block 1 (.g [.r 57 4 53 55,.d 58 4 57,.s 14 (.alloc 75 [.i 0,.i 0,.i 0,.i 0]),.w 4 14 58] (.z [14] (.reg [.m 59 12,.a 60 0 14,.d 61 2 60,.a 62 2 14,.d 63 2 62,.n (.act (.mset (.a [.i,.i])) [.t 59,.t 61,.t 63])])))) (.reg [.v 64 .add 55 1,.m 55 64]))))
def B6_1:Cd:=(.g [.b 79 .lss 78 77] (.join [3,12,16,17,76,77,78] (.i 79 .skip (.exit [16] 2)) (.join [3,12,16,17,76,77,78] (.block 3 (.g [.r 80 2 76 78,.d 81 2 80,.s 19 (.alloc 71 [.i 0,.i 0]),.w 2 19 81] (.z [19] (.join [3,12,16,17,19,76,77,78] (.g [.a 82 0 19,.l 83 82,.m 84 17,.b 85 .neq 83 84] (.i 85 (.g [.m 86 16,.a 87 0 19,.l 88 87,.f 89 29 88,.s 90 (.bslice 9 1 [.t 89,(.w []),(.w [])]),.f 91 28 90,.s 92 (.bslice 58 1 [.t 91]),.s 93 (.append 58 1 24 (.t 86) (.t 92)),.m 16 93] (.reg [.a 94 0 19,.l 95 94,.m 17 95])) .skip)) (.g [.m 97 12,.d 98 2 19,.s 99 (.act (.look (.a [.i,.i]) (.agg [.i 0,.i 0]) true) [.t 97,.t 98]),.m 96 99,.j 100 0 96,.j 101 1 96,.s 20 (.alloc 73 [.i 0,.i 0]),.w 2 20 100,.m 21 101] (.join [3,12,16,17,19,20,76,77,78] (.g [.m 102 21,.z 103 102] (.i 103 (.reg [.s 104 (.build [.i 0,.i 0] [(0,1,(.i (-1)))]),.w 2 20 104]) .skip)) (.g [.d 106 9 3,.d 107 2 19,.d 108 2 20,.s 109 (.f 30 [.t 106,.t 107,.t 108]),.m 105 109,.j 110 0 105,.j 111 1 105,.m 22 110,.m 23 111] (.g [.m 113 22,.f 114 31 113,.m 112 114,.j 115 0 112,.j 116 1 112,.m 24 115,.m 25 116] (.g [.m 117 16,.m 118 16,.u 119 118,.v 120 .sub 119 1,.r 121 1 117 120,.l 122 121,.m 26 122] (.join [3,12,16,17,19,24,26,76,77,78] (.g [.a 123 1 19,.l 124 123,.v 125 .eql 124 0] (.i 125 (.g [.m 126 26,.m 127 24,.s 128 (.iadr 1 (.t 126) (.i 1)),.w 1 128 127] (.exit [3,12,16,17,76,77,78] 3)) .skip)) (.g [.a 130 1 19,.l 131 130,.f 132 32 131,.m 129 132,.j 133 0 129,.j 134 1 129,.m 27 133,.m 28 134] (.join [3,12,16,17,24,26,27,76,77,78] (.g [.m 135 26,.s 136 (.iadr 1 (.t 135) (.i 2)),.l 137 136,.s 138 (.bin .neq (.t 137) (.w []))] (.i 138 (.reg [.m 139 26,.s 140 (.iadr 1 (.t 139) (.i 2)),.l 141 140,.s 142 (.bin .add (.t 141) (.w [44,32])),.s 143 (.iadr 1 (.t 139) (.i 2)),.w 1 143 142]) .skip)) (.reg [.m 144 26,.s 145 (.iadr 1 (.t 144) (.i 2)),.l 146 145,.m 147 27,.s 148 (.bin .add (.t 147) (.w [32])),.m 149 24,.b 150 .add 148 149,.b 151 .add 146 150,.s 152 (.iadr 1 (.t 144) (.i 2)),.w 1 152 151]))))))))))))) (.reg [.v 153 .add 78 1,.m 78 153]))))
theorem F6:compF Tryz.prog 6=some ⟨155,[.tmp 6,.tmp 7],(.g [.q 3 31 0,.s 6 (.mv (.c .nils)),.c 7 0] (.z [3] (.g [.d 30 9 3,.m 31 1,.g' 32 24 30 31,.m 29 32,.j 33 0 29,.j 34 1 29,.s 8 (.alloc 55 [.i 0,.i 0,.nils]),.w 3 8 33,.m 9 34] (.z [8] (.join [2,3,8] (.g [.m 35 9,.v 36 .neq 35 0] (.i 36 (.g [.m 37 9,.s 6 (.mv (.c .nils)),.m 7 37] (.ret [6,7])) .skip)) (.join [2,3,8] (.g [.m 38 2,.f 39 25 38,.m 10 39] (.g [.m 40 10,.v 41 .neq 40 0] (.i 41 (.g [.m 42 10,.s 6 (.mv (.c .nils)),.m 7 42] (.ret [6,7])) .skip))) (.g [.d 44 3 8,.m 45 2,.g' 46 26 44 45,.m 43 46,.j 47 0 43,.j 48 1 43,.m 11 47,.m 9 48] (.join [3,11] (.g [.m 49 9,.v 50 .neq 49 0] (.i 50 (.g [.m 51 9,.s 6 (.mv (.c .nils)),.m 7 51] (.ret [6,7])) .skip)) (.g [.s 52 (.act .mkmap []),.m 12 52] (.join [3,12] (.g [.m 53 11,.u 54 53,.c 55 0] (.block 0 (.loop [3,12,53,54,55] [] B6_0))) (.g [.d 66 9 3,.f 67 27 66,.m 65 67,.j 68 0 65,.j 69 1 65,.m 15 68,.m 9 69] (.join [3,12,15] (.g [.m 70 9,.v 71 .neq 70 0] (.i 71 (.g [.m 72 9,.s 6 (.mv (.c .nils)),.m 7 72] (.ret [6,7])) .skip)) (.g [.s 73 (.bslice 9 1 [(.w [99,104,97,110,110,101,108]),(.w [105,110,116,101,110,115,105,116,121]),(.w [111,116,104,101,114,115])]),.f 74 28 73,.s 75 (.bslice 58 1 [.t 74]),.m 16 75] (.g [.c 17 0] (.join [16] (.g [.m 76 15,.u 77 76,.c 78 0] (.block 2 (.loop [3,12,16,17,76,77,78] [(16,(58,1))] B6_1))) (.g [.m 154 16,.m 6 154,.c 7 0] (.ret [6,7])))))))))))))))))⟩:=by kernel_rfl
theorem F28:compF Tryz.prog 28=some ⟨4,[.tmp 2],(.g [.s 2 (.mv (.c .nils))] (.g [.m 3 0,.m 2 3] (.ret [2])))⟩:=by kernel_rfl
end Go.Proofs.YtkpcomdhdjihlaaGreatDoor

namespace Go.Proofs.YtkpcomdhdjihlaaGreatDoor
open Go.Sha Go.RowKit
set_option maxRecDepth 100000
variable {g:List (Nat×Obj)}{n:Nat}{T:EvF}
theorem callable28:Callable Tryz.prog 28:=⟨_,Tryz.func28,by kernel_rfl,by kernel_rfl⟩
theorem v28 (d:V)(st:St):VCalls Tryz.prog 28 [d] st fun r s=>r=.ret d∧s=st:=by
 refine .inl ⟨callable28,fun w A vs hs hr=>?_⟩
 obtain⟨u,rfl,h1⟩:=hr.one
 have hc:Calls Tryz.prog 28 #[u] w fun e w'=>e=.returned u∧Below w.heap.size w w':=by
  go_enter Tryz.func28,Tryz.ntmps28
  go_wp2
  go_ret
  exact⟨rfl,Below.refl _ _⟩
 refine hc.mono fun e w' ⟨he,hb⟩=>?_
 subst he
 exact⟨.ret d,A,st,⟨rfl,rfl⟩,h1.mono (Ext.below hs hb),hs.below hb,Ext.below hs hb⟩
structure QT (T:EvF):Prop where
 raw:T.raw=[70,98,166,233,234,300,344]
 n55:∀args st,T 28 args st=none
theorem f28 (hT:QT T){l:List V}(hb:V.bdL 0 l=true){st:St}:run Tryz.prog T 28 [.sl l] st=some (.ret (.sl l),st):=by
 rw[run_shut F28 (hT.n55 _ _) rfl (by simpa [V.bdL,V.bd] using hb)]
 push_cast[hb]
def esV (a:List (Prm×Val)):List (V×V):=a.map fun x=>(x.1.v,x.2.v)
def mapF (a:List (Prm×Val))(p:Prm):Option (Nat×Val):=(a.findIdx? fun x=>decide (p=x.1)).map fun i=>(i,(a.getD i default).2)
theorem find_esV {p:Prm}:∀{a:List (Prm×Val)}{i:Nat},findV p.v (esV a) i=some ((mapF a p).map fun x=>(i+x.1,x.2.v))
 |[],i=>rfl
 |q::r,i=>by
  have ih:=find_esV (p:=p) (a:=r) (i:=i+1)
  have e:findV p.v (esV (q::r)) i=match(some (decide (p=q.1)):Option Bool) with
   |some true=>some (some (i,q.2.v))
   |some false=>findV p.v (esV r) (i+1)
   |none=>none:=by rw[←same_prm];rfl
  rw[e]
  by_cases h:p=q.1
  ·simp[h,mapF,List.findIdx?_cons]
  ·simp only[decide_eq_false h,ih,mapF,List.findIdx?_cons]
   cases hr:r.findIdx? fun x=>decide (p=x.1) with
   |none=>simp[hr]
   |some j=>simp[hr];omega
def insMg (a:List (Prm×Val))(x:Prm×Val):List (Prm×Val):=match mapF a x.1 with
 |some (i,_)=>a.set i x
 |none=>a++[x]
theorem mset_esV {st:St}{i:Nat}{a:List (Prm×Val)}{p:Prm}{v:Val}:msetB st i (esV a) p.v v.v (findV p.v (esV a) 0)=some (.und,⟨st.nx,st.mem,st.arr,⟨updO st.x.obj i (.map (esV (insMg a (p,v)))),st.x.gl,st.x.ty⟩⟩):=by
 rw[find_esV,insMg]
 cases mapF a p with
 |none=>simp[msetB,putM,esV]
 |some x=>simp[msetB,putM,esV,List.map_set]
def pre26:Cd:=(.g [.q 3 31 0,.s 6 (.mv (.c .nils)),.c 7 0] (.z [3] (.g [.d 30 9 3,.m 31 1,.g' 32 24 30 31,.m 29 32,.j 33 0 29,.j 34 1 29,.s 8 (.alloc 55 [.i 0,.i 0,.nils]),.w 3 8 33,.m 9 34] (.z [8] (.join [2,3,8] (.g [.m 35 9,.v 36 .neq 35 0] (.i 36 (.g [.m 37 9,.s 6 (.mv (.c .nils)),.m 7 37] (.ret [6,7])) .skip)) (.join [2,3,8] (.g [.m 38 2,.f 39 25 38,.m 10 39] (.g [.m 40 10,.v 41 .neq 40 0] (.i 41 (.g [.m 42 10,.s 6 (.mv (.c .nils)),.m 7 42] (.ret [6,7])) .skip))) (.g [.d 44 3 8,.m 45 2,.g' 46 26 44 45,.m 43 46,.j 47 0 43,.j 48 1 43,.m 11 47,.m 9 48] (.join [3,11] (.g [.m 49 9,.v 50 .neq 49 0] (.i 50 (.g [.m 51 9,.s 6 (.mv (.c .nils)),.m 7 51] (.ret [6,7])) .skip)) (.g [.s 52 (.act .mkmap []),.m 12 52] (.join [3,12] (.g [.m 53 11,.u 54 53,.c 55 0] (.block 0 (.loop [3,12,53,54,55] [] B6_0))) (.g [.d 66 9 3,.f 67 27 66,.m 65 67,.j 68 0 65,.j 69 1 65,.m 15 68,.m 9 69] (.join [3,12,15] (.g [.m 70 9,.v 71 .neq 70 0] (.i 71 (.g [.m 72 9,.s 6 (.mv (.c .nils)),.m 7 72] (.ret [6,7])) .skip)) (.g [.s 73 (.bslice 9 1 [(.w [99,104,97,110,110,101,108]),(.w [105,110,116,101,110,115,105,116,121]),(.w [111,116,104,101,114,115])]),.f 74 28 73,.s 75 (.bslice 58 1 [.t 74]),.m 16 75] (.g [.c 17 0] .skip))))))))))))))
def mid26:Cd:=(.join [16] (.g [.m 76 15,.u 77 76,.c 78 0] (.block 2 (.loop [3,12,16,17,76,77,78] [(16,(58,1))] B6_1))) (.g [.m 154 16,.m 6 154,.c 7 0] (.ret [6,7])))
theorem F6':compF Tryz.prog 6=some ⟨155,[.tmp 6,.tmp 7],pre26.put mid26⟩:=F6
@[reducible] def entV (x:Prm×Val):V:=.agg [.int .i64 x.1.chan,.int .i64 x.1.attr,.int .i64 x.2.pal,.int .i64 x.2.lev]
def stMg (g:List (Nat×Obj))(n:Nat)(a:List (Prm×Val)):St:=⟨n,[],[],⟨[(2,.map (esV a))],g,[]⟩⟩
@[push_cast]theorem stMg_eq {a:List (Prm×Val)}:stMg g n a=⟨n,[],[],⟨[(2,.map (esV a))],g,[]⟩⟩:=idq rfl
@[push_cast]theorem esV_all {a:List (Prm×Val)}:((esV a).all fun p=>p.1.bd n&&p.2.bd n)=true:=by simp[esV,V.bd,V.bdL]
@[push_cast]theorem esV_nil:esV []=[]:=idq rfl
theorem L6_0 {l:List (Prm×Val)}{v3:V}(hl:l.length<140737488355328)(b3:V.bd 3 v3=true):∀r j,l.drop j=r→∀a,
  runL Tryz.prog T [3,12,53,54,55] 3 B6_0 [(3,v3),(12,.mp 2),(53,.sl (l.map entV)),(54,.int .i64 l.length),(55,.int .i64 j)] (stMg g 3 a)
   = some (.exit 0,[(3,v3),(12,.mp 2)],stMg g 3 (r.foldl insMg a)):=by
 refine drop_ind (fun j h a=>?_) (fun q r j h hx hd ih a=>?_)
 all_goals rw[runL_of B6_0.eq_1]
 ·have h1:¬(j:Int)<l.length:=by omega
  push_cast[h1,List.foldl_nil]
 ·have h1:(j:Int)<l.length:=by omega
  have hw:=iw1 (j:=j) (by omega)
  have hm:=fun(st:St) (i:Nat)=>mset_esV (st:=st) (i:=i) (a:=a) (p:=q.1) (v:=q.2)
  have ih:=ih (insMg a q)
  push_cast[Prm.v,Val.v]at hm
  push_cast[h1,hw,hx,List.foldl_cons,b3,hm,entV]at ih ⊢
  exact dn_eq rfl ih
abbrev RunAt (T:EvF)(g:List (Nat×Obj))(k:FuncId)(args:List V)(r:VRes):Prop:=∀nx mem arr obj ty,run Tryz.prog T k args ⟨nx,mem,arr,⟨obj,g,ty⟩⟩=some (r,⟨nx,mem,arr,⟨obj,g,ty⟩⟩)
structure MagH (T:EvF) (g:List (Nat×Obj)) (s:Sho) (lst:Int) (cue:List UInt8) (L:Lst) (lk:List (Prm×Val)) (ps:List Prm):Prop where
 r65:RunAt T g 24 [s.v,.int .i64 lst] (.ret (.tup [L.v,.int .i64 0]))
 r80:RunAt T g 25 [.str cue] (.ret (.int .i64 0))
 r39:RunAt T g 26 [L.v,.str cue] (.ret (.tup [.sl (lk.map entV),.int .i64 0]))
 r40:RunAt T g 27 [s.v] (.ret (.tup [.sl (ps.map Prm.v),.int .i64 0]))
 ll:lk.length<140737488355328
 lp:ps.length<1000000
 q:QT T
abbrev hdM:Row:=[[99,104,97,110,110,101,108],[105,110,116,101,110,115,105,116,121],[111,116,104,101,114,115]]
def stPg (g:List (Nat×Obj))(a:List (Prm×Val)):St:=⟨5,[],[(4,⟨58,1,[rowV hdM],false,false⟩),(3,⟨9,1,hdM.map .str,false,false⟩)],⟨[(2,.map (esV a))],g,[]⟩⟩
theorem run_pre26 {s:Sho}{lst:Int}{cue:List UInt8}{L:Lst}{lk:List (Prm×Val)}{ps:List Prm}(h:MagH T g s lst cue L lk ps):runC Tryz.prog T pre26 (argEnv 0 [s.v,.int .i64 lst,.str cue]) (stN g 0)
  = some (.normal,[(17,.int .i64 0),(16,.osl 4 1),(75,.osl 4 1),(74,rowV hdM),(73,.osl 3 3),(3,.ep s.v 0),(12,.mp 2),(15,.sl (ps.map Prm.v))],stPg g (lk.foldl insMg [])):=by
 have h65:=h.r65
 have h80:=h.r80
 have h39:=h.r39
 have h40:=h.r40
 have h0:=L6_0 (T:=T) (g:=g) (v3:=.ep s.v 0) h.ll (by simp[V.bd,V.bdL,bdL_map']) _ 0 rfl []
 rw[List.drop_zero]at h0
 have h66:=fun(st:St)=>f28 h.q (l:=[.str [99,104,97,110,110,101,108],.str [105,110,116,101,110,115,105,116,121],.str [111,116,104,101,114,115]]) rfl (st:=st)
 rw[pre26]
 push_cast[Sho.v,Lst.v,Prm.v]at h65 h80 h39 h40 h0
 push_cast[h.q.raw,Sho.v,Lst.v,Prm.v,h65,h80,h39,h40,h0,h66,stPg,rowV,List.map_cons,List.map_nil]
end Go.Proofs.YtkpcomdhdjihlaaGreatDoor

namespace Go.Proofs.YtkpcomdhdjihlaaGreatDoor
open Go.Sha Go.RowKit
set_option maxRecDepth 100000
variable {g:List (Nat×Obj)}{n:Nat}{T:EvF}
def Y26:Cd:=(.g [.m 97 12,.d 98 2 19,.s 99 (.act (.look (.a [.i,.i]) (.agg [.i 0,.i 0]) true) [.t 97,.t 98]),.m 96 99,.j 100 0 96,.j 101 1 96,.s 20 (.alloc 73 [.i 0,.i 0]),.w 2 20 100,.m 21 101] (.join [3,12,16,17,19,20,76,77,78] (.g [.m 102 21,.z 103 102] (.i 103 (.reg [.s 104 (.build [.i 0,.i 0] [(0,1,(.i (-1)))]),.w 2 20 104]) .skip)) (.g [.d 106 9 3,.d 107 2 19,.d 108 2 20,.s 109 (.f 30 [.t 106,.t 107,.t 108]),.m 105 109,.j 110 0 105,.j 111 1 105,.m 22 110,.m 23 111] (.g [.m 113 22,.f 114 31 113,.m 112 114,.j 115 0 112,.j 116 1 112,.m 24 115,.m 25 116] (.g [.m 117 16,.m 118 16,.u 119 118,.v 120 .sub 119 1,.r 121 1 117 120,.l 122 121,.m 26 122] (.join [3,12,16,17,19,24,26,76,77,78] (.g [.a 123 1 19,.l 124 123,.v 125 .eql 124 0] (.i 125 (.g [.m 126 26,.m 127 24,.s 128 (.iadr 1 (.t 126) (.i 1)),.w 1 128 127] (.exit [3,12,16,17,76,77,78] 3)) .skip)) (.g [.a 130 1 19,.l 131 130,.f 132 32 131,.m 129 132,.j 133 0 129,.j 134 1 129,.m 27 133,.m 28 134] (.join [3,12,16,17,24,26,27,76,77,78] (.g [.m 135 26,.s 136 (.iadr 1 (.t 135) (.i 2)),.l 137 136,.s 138 (.bin .neq (.t 137) (.w []))] (.i 138 (.reg [.m 139 26,.s 140 (.iadr 1 (.t 139) (.i 2)),.l 141 140,.s 142 (.bin .add (.t 141) (.w [44,32])),.s 143 (.iadr 1 (.t 139) (.i 2)),.w 1 143 142]) .skip)) (.reg [.m 144 26,.s 145 (.iadr 1 (.t 144) (.i 2)),.l 146 145,.m 147 27,.s 148 (.bin .add (.t 147) (.w [32])),.m 149 24,.b 150 .add 148 149,.b 151 .add 146 150,.s 152 (.iadr 1 (.t 144) (.i 2)),.w 1 152 151])))))))))
def valM (a:List (Prm×Val))(p:Prm):Val:=match mapF a p with
 |some (_,v)=>v
 |none=>⟨-1,0⟩
structure ParH (T:EvF) (g:List (Nat×Obj)) (s:Sho) (a:List (Prm×Val)) (p:Prm) (lev:Int) (dig txt wrd:List UInt8):Prop where
 r43:∃e,RunAt T g 30 [s.v,p.v,(valM a p).v] (.ret (.tup [.int .i64 lev,.int .i64 e]))
 r81:∃e,RunAt T g 31 [.int .i64 lev] (.ret (.tup [.str txt,.int .i64 e]))
 r82:∃e,RunAt T g 32 [.int .i64 p.attr] (.ret (.tup [.str wrd,.int .i64 e]))
 r68:RunAt T g 29 [.int .i64 p.chan] (.ret (.str dig))
 lt:txt.length≤1000
 lw:wrd.length≤1000
 q:QT T
def cell2 (t wrd txt:List UInt8):List UInt8:=if t=[] then wrd++32::txt else t++44::32::(wrd++32::txt)
def rowM (p:Prm)(c i t wrd txt:List UInt8):Row:=if p.attr=0 then[c,txt,t] else[c,i,cell2 t wrd txt]
theorem run_Y {s:Sho}{a:List (Prm×Val)}{p:Prm}{lev:Int}{dig txt wrd c i t:List UInt8}{N rid k:Nat}{last:Int}{X:List V}{v76 v77 v59:V}(h:ParH T g s a p lev dig txt wrd)(hr:rid≠4)(hX:X.length=k+1)(hk:k<100000)(hg:X.getD k .und=.osl rid 3)(ht:t.length≤10000000000) :
  ∃x e' m',runC Tryz.prog T Y26 [(3,.ep s.v 0),(12,.mp 2),(16,.osl 4 (k+1)),(17,.int .i64 last),(19,.ep p.v 0),(76,v76),(77,v77),(78,v59)] ⟨N,[],[(rid,⟨9,1,[.str c,.str i,.str t],true,false⟩),(4,⟨58,1,X,false,false⟩)],⟨[(2,.map (esV a))],g,[]⟩⟩
   = some (x,e',⟨N+1,[(N,m')],[(rid,⟨9,1,(rowM p c i t wrd txt).map .str,true,false⟩),(4,⟨58,1,X,false,false⟩)],⟨[(2,.map (esV a))],g,[]⟩⟩)∧(x=.normal∨x=.exit 3)∧V.bdL (N+1) m'=true ∧
   restr [3,12,16,17,76,77,78] e'=[(3,.ep s.v 0),(12,.mp 2),(16,.osl 4 (k+1)),(17,.int .i64 last),(76,v76),(77,v77),(78,v59)]:=by
 obtain⟨e43,h43⟩:=h.r43
 obtain⟨e81,h81⟩:=h.r81
 obtain⟨e82,h82⟩:=h.r82
 have hlt:=h.lt
 have hlw:=h.lw
 have hr':¬4=rid:=fun e=>hr e.symm
 have hw:IntKind.i64.wrap ((k:Int)+1-1)=(k:Int):=by rw[iwrap (by omega) (by omega)];omega
 have hkl:(k:Int)<k+1:=by omega
 have hf:=find_esV (p:=p) (a:=a) (i:=0)
 have hkv:keyV (KT.a [Kd.i,Kd.i]) (.agg [.int .i64 p.chan,.int .i64 p.attr])=true:=rfl
 generalize hz:runC Tryz.prog T Y26 _ _=z
 rw[Y26]at hz
 unfold valM at h43
 cases hm:mapF a p with
 |none =>
  rw[hm]at h43 hf
  simp only[Option.map_none]at hf h43
  by_cases ha:p.attr=0
  ·push_cast[Sho.v,Prm.v,Val.v,ha]at h43 h81 h82 hf hkv
   push_cast[h.q.raw,Sho.v,Prm.v,Val.v,h43,h81,h82,hr,hr',hX,hw,hkl,hg,hf,ha,hkv,List.set_cons_succ,List.set_cons_zero]at hz
   subst hz
   exact⟨_,_,_,by rw[rowM,if_pos ha];rfl,.inr rfl,rfl,rfl⟩
  ·push_cast[Sho.v,Prm.v,Val.v]at h43 h81 h82 hf
   by_cases h0:t=[]
   ·push_cast[h.q.raw,Sho.v,Prm.v,Val.v,h43,h81,h82,hr,hr',hX,hw,hkl,hg,hf,ha,hkv,h0,List.set_cons_succ,List.set_cons_zero]at hz
    have hz:=(dn_eq (by omega) rfl).symm.trans hz
    subst hz
    exact⟨_,_,_,by rw[rowM,if_neg ha,cell2,if_pos h0];rfl,.inl rfl,rfl,rfl⟩
   ·push_cast[h.q.raw,Sho.v,Prm.v,Val.v,h43,h81,h82,hr,hr',hX,hw,hkl,hg,hf,ha,hkv,h0,List.set_cons_succ,List.set_cons_zero,List.length_cons,List.length_nil,List.getD_cons_succ,List.getD_cons_zero,V.cells]at hz
    have hz:=(dn_eq (by omega) rfl).symm.trans hz
    subst hz
    exact⟨_,_,_,by rw[rowM,if_neg ha,cell2,if_neg h0];rfl,.inl rfl,rfl,rfl⟩
 |some x =>
  obtain⟨j,v⟩:=x
  rw[hm]at h43 hf
  simp only[Option.map_some]at hf h43
  by_cases ha:p.attr=0
  ·push_cast[Sho.v,Prm.v,Val.v,ha]at h43 h81 h82 hf hkv
   push_cast[h.q.raw,Sho.v,Prm.v,Val.v,h43,h81,h82,hr,hr',hX,hw,hkl,hg,hf,ha,hkv,List.set_cons_succ,List.set_cons_zero]at hz
   subst hz
   exact⟨_,_,_,by rw[rowM,if_pos ha];rfl,.inr rfl,rfl,rfl⟩
  ·push_cast[Sho.v,Prm.v,Val.v]at h43 h81 h82 hf
   by_cases h0:t=[]
   ·push_cast[h.q.raw,Sho.v,Prm.v,Val.v,h43,h81,h82,hr,hr',hX,hw,hkl,hg,hf,ha,hkv,h0,List.set_cons_succ,List.set_cons_zero]at hz
    have hz:=(dn_eq (by omega) rfl).symm.trans hz
    subst hz
    exact⟨_,_,_,by rw[rowM,if_neg ha,cell2,if_pos h0];rfl,.inl rfl,rfl,rfl⟩
   ·push_cast[h.q.raw,Sho.v,Prm.v,Val.v,h43,h81,h82,hr,hr',hX,hw,hkl,hg,hf,ha,hkv,h0,List.set_cons_succ,List.set_cons_zero,List.length_cons,List.length_nil,List.getD_cons_succ,List.getD_cons_zero,V.cells]at hz
    have hz:=(dn_eq (by omega) rfl).symm.trans hz
    subst hz
    exact⟨_,_,_,by rw[rowM,if_neg ha,cell2,if_neg h0];rfl,.inl rfl,rfl,rfl⟩
end Go.Proofs.YtkpcomdhdjihlaaGreatDoor

namespace Go.Proofs.YtkpcomdhdjihlaaGreatDoor
open Go.Sha Go.RowKit
set_option maxRecDepth 100000
variable {g:List (Nat×Obj)}{n:Nat}{T:EvF}
def dIns:List Ins:=[.m 86 16,.a 87 0 19,.l 88 87,.f 89 29 88,.s 90 (.bslice 9 1 [.t 89,(.w []),(.w [])]),.f 91 28 90,.s 92 (.bslice 58 1 [.t 91]),.s 93 (.append 58 1 24 (.t 86) (.t 92)),.m 16 93]
def D26:Cd:=.g dIns (.reg [.a 94 0 19,.l 95 94,.m 17 95])
def C26:Cd:=.g [.a 82 0 19,.l 83 82,.m 84 17,.b 85 .neq 83 84] (.i 85 D26 .skip)
abbrev eL (s:Sho)(k:Nat)(last:Int)(p:Prm)(v76 v77 v59:V):Env:=[(3,.ep s.v 0),(12,.mp 2),(16,.osl 4 k),(17,.int .i64 last),(19,.ep p.v 0),(76,v76),(77,v77),(78,v59)]
abbrev L2:List Nat:=[3,12,16,17,19,76,77,78]
theorem newRow {F:Fr}{s:Sho}{a:List (Prm×Val)}{p:Prm}{dig:List UInt8}{N k:Nat}{last:Int}{X:List V}{v76 v77 v59:V}{Q:Post}(hH:ESound Tryz.prog T)(h68:RunAt T g 29 [.int .i64 p.chan] (.ret (.str dig)))(hN:4<N)(hX:X.length=k)(hXc:∀x∈X,x.cells.length=1)(hk:k<100000)
  (hq:∀e:Env,Sha.look e 16=some (.osl 4 (k+1))→(∀i,i∈[3,12,17,19,76,77,78]→Sha.look e i=Sha.look (eL s k last p v76 v77 v59) i)→Q .normal e ⟨N+2,[],[(N+1,⟨58,1,[.osl N 3],false,false⟩),(N,⟨9,1,[.str dig,.str [],.str []],true,false⟩),(4,⟨58,1,X++[.osl N 3],false,false⟩)],⟨[(2,.map (esV a))],g,[]⟩⟩) :
  WD Tryz.prog F (.reg dIns) (eL s k last p v76 v77 v59) ⟨N,[],[(4,⟨58,1,X,false,false⟩)],⟨[(2,.map (esV a))],g,[]⟩⟩ Q:=by
 refine WD.regR [none,none,none,none,some true,none,some false,some true,none] ?_
 have hn1:¬N=4:=by omega
 have hn2:¬N+1=4:=by omega
 have hn3:¬N=N+1:=by omega
 have hroom:roomV (k+1) 24=true:=by
  have h1:k+1≤maxLen:=by unfold maxLen;omega
  have h2:(k+1)*24≤140737488355328:=by omega
  unfold roomV
  rw[decide_eq_true h1,decide_eq_true h2];rfl
 rw[dIns]
 refine vcR_op rfl (v:=.osl 4 k) rfl ?_
 refine vcR_op rfl (v:=.ep p.v 0) rfl ?_
 refine vcR_op rfl (v:=.int .i64 p.chan) rfl ?_
 refine vcR_call ?_
 show VCalls Tryz.prog 29 [.int .i64 p.chan] _ _
 refine(run_sound mixed hH 29 _ _ _ _ (h68 _ _ _ _ _)).mono ?_
 rintro _ _ ⟨rfl,rfl⟩
 refine vcR_raw true (v:=.osl N 3) (st':=⟨N+1,[],[(N,⟨9,1,[.str dig,.str [],.str []],true,false⟩),(4,⟨58,1,X,false,false⟩)],⟨[(2,.map (esV a))],g,[]⟩⟩) rfl ?_
 refine vcR_call ?_
 show VCalls Tryz.prog 28 [.osl N 3] _ _
 refine(v28 _ _).mono ?_
 rintro _ _ ⟨rfl,rfl⟩
 refine vcR_raw false (v:=.osl (N+1) 1) (st':=⟨N+2,[],[(N+1,⟨58,1,[.osl N 3],false,false⟩),(N,⟨9,1,[.str dig,.str [],.str []],true,false⟩),(4,⟨58,1,X,false,false⟩)],⟨[(2,.map (esV a))],g,[]⟩⟩) ?_ ?_
 ·simp[Sha.stR,bslR,Opd.get,setD,Sha.look,partOk,V.cells,newArr]
 refine vcR_raw true (v:=.osl 4 (k+1)) (st':=⟨N+2,[],[(N+1,⟨58,1,[.osl N 3],false,false⟩),(N,⟨9,1,[.str dig,.str [],.str []],true,false⟩),(4,⟨58,1,X++[.osl N 3],false,false⟩)],⟨[(2,.map (esV a))],g,[]⟩⟩) ?_ ?_
 ·have hX':X.length=k:=hX
  simp[Sha.stR,appR,Opd.get,setD,Sha.look,V.cells,elemsV,appG,appA,hn1,hn2,hn3,updA,hroom,hX']
 refine vcR_op rfl (v:=.osl 4 (k+1)) rfl ?_
 refine hq _ rfl (fun i hi=>?_)
 simp only[List.mem_cons,List.not_mem_nil,or_false]at hi
 rcases hi with rfl|rfl|rfl|rfl|rfl|rfl|rfl<;>rfl
end Go.Proofs.YtkpcomdhdjihlaaGreatDoor

namespace Go.Proofs.YtkpcomdhdjihlaaGreatDoor
open Go.Sha Go.RowKit
set_option maxRecDepth 100000
variable {g:List (Nat×Obj)}{n:Nat}{T:EvF}
abbrev Trip:Type:=List UInt8×List UInt8×List UInt8
structure Sht where
 cl:List Row
 op:Option Trip
 last:Int
def Trip.row (r:Trip):Row:=[r.1,r.2.1,r.2.2]
def Sht.rows (x:Sht):List Row:=x.cl++(match x.op with|none=>[]|some r=>[Trip.row r])
def rowT (p:Prm)(r:Trip)(wrd txt:List UInt8):Trip:=if p.attr=0 then(r.1,txt,r.2.2) else(r.1,r.2.1,cell2 r.2.2 wrd txt)
theorem rowM_T {p:Prm}{r:Trip}{wrd txt:List UInt8}:rowM p r.1 r.2.1 r.2.2 wrd txt=Trip.row (rowT p r wrd txt):=by
 unfold rowM rowT Trip.row;split<;>rfl
def openM (dig:List UInt8)(x:Sht)(p:Prm):Sht:=if p.chan=x.last then x else⟨x.rows,some (dig,[],[]),p.chan⟩
def Sht.len (x:Sht):Nat:=x.rows.length
def arrS (rid:Nat)(x:Sht):List (Nat×Arr):=match x.op with
 |none=>[(4,⟨58,1,x.cl.map rowV,false,false⟩)]
 |some r=>[(rid,⟨9,1,[.str r.1,.str r.2.1,.str r.2.2],true,false⟩),(4,⟨58,1,x.cl.map rowV++[.osl rid 3],false,false⟩)]
def stSh (g:List (Nat×Obj))(a:List (Prm×Val))(N rid:Nat)(x:Sht):St:=⟨N,[],arrS rid x,⟨[(2,.map (esV a))],g,[]⟩⟩
theorem sho_bd {s:Sho}:V.bd n (.ep s.v 0)=true:=by simp[V.bd,V.bdL,bdL_map']
theorem weL {e:Env}{s:Sho}{k N:Nat}{last:Int}{p:Prm}{v76 v77 v59:V}(hN:4<N)(b1:V.bd N v76=true)(b2:V.bd N v77=true)(b3:V.bd N v59=true)(h:∀i,i∈L2→Sha.look e i=Sha.look (eL s k last p v76 v77 v59) i):WeakEnv N e (eL s k last p v76 v77 v59):=by
 intro i v hv
 have hi:i∈L2:=by
  simp only[Sha.look]at hv
  (repeat' split at hv)<;>first|(cases hv;done)|(rename_i e;rw[←e];simp)
 refine⟨?_,(h i hi).trans hv⟩
 simp only[Sha.look]at hv
 (repeat' split at hv)<;>first
  |(cases hv;done)
  |(cases hv;first|exact sho_bd|assumption|(simp[V.bd];done)|(simp[V.bd];omega))
theorem map_bd {a:List (Prm×Val)}:(Ob.map (esV a)).bd n=true:=esV_all
theorem rowsV_bd {l:List Row}:V.bdL n (l.map rowV)=true:=by rw[bdL_map'];simp[V.bd,bdL_map']
theorem str3_bd {r:Trip}:V.bdL n [.str r.1,.str r.2.1,.str r.2.2]=true:=by simp[V.bdL,V.bd]
theorem weak4 {g:List (Nat×Obj)}{a:List (Prm×Val)}{N:Nat}{A:List (Nat×Arr)}{X:List V}(hN:4<N)(hA:Sha.look A 4=some ⟨58,1,X,false,false⟩)(hb:V.bdL N X=true):Weak N ⟨N,[],A,⟨[(2,.map (esV a))],g,[]⟩⟩ ⟨N,[],[(4,⟨58,1,X,false,false⟩)],⟨[(2,.map (esV a))],g,[]⟩⟩ where
 nx:=rfl
 le:=Nat.le_refl _
 mem id cs h:=by cases h
 arr id ar h:=by
  simp only[Sha.look]at h
  split at h
  ·rename_i e;subst e;cases h;exact⟨hN,hA⟩
  ·cases h
 bdm id cs h:=by cases h
 bda id ar h:=by
  simp only[Sha.look]at h
  split at h
  ·cases h;exact hb
  ·cases h
 x:=by
  refine⟨fun id o h=>?_,rfl,fun id T h=>by cases h⟩
  simp only[Sha.look]at h
  split at h
  ·rename_i e;subst e;cases h;exact⟨by show 2<N;omega,rfl⟩
  ·cases h
 bdx id o h:=by
  simp only[Sha.look]at h
  split at h
  ·cases h;exact map_bd
  ·cases h
theorem weak5 {g:List (Nat×Obj)}{a:List (Prm×Val)}{N rid:Nat}{A:List (Nat×Arr)}{M:List (Nat×List V)}{Y X:List V}(hN:4<N)(hr:rid<N)(hA:Sha.look A 4=some ⟨58,1,X,false,false⟩)(hR:Sha.look A rid=some ⟨9,1,Y,true,false⟩)(hb:V.bdL N X=true)(hb2:V.bdL N Y=true):Weak N ⟨N,M,A,⟨[(2,.map (esV a))],g,[]⟩⟩ ⟨N,[],[(rid,⟨9,1,Y,true,false⟩),(4,⟨58,1,X,false,false⟩)],⟨[(2,.map (esV a))],g,[]⟩⟩ where
 nx:=rfl
 le:=Nat.le_refl _
 mem id cs h:=by cases h
 arr id ar h:=by
  simp only[Sha.look]at h
  split at h
  ·rename_i e;subst e;cases h;exact⟨hr,hR⟩
  ·split at h
   ·rename_i e;subst e;cases h;exact⟨hN,hA⟩
   ·cases h
 bdm id cs h:=by cases h
 bda id ar h:=by
  simp only[Sha.look]at h
  split at h
  ·cases h;exact hb2
  ·split at h
   ·cases h;exact hb
   ·cases h
 x:=by
  refine⟨fun id o h=>?_,rfl,fun id T h=>by cases h⟩
  simp only[Sha.look]at h
  split at h
  ·rename_i e;subst e;cases h;exact⟨by show 2<N;omega,rfl⟩
  ·cases h
 bdx id o h:=by
  simp only[Sha.look]at h
  split at h
  ·cases h;exact map_bd
  ·cases h
theorem closeRow {F:Fr}{c:Cd}{e e':Env}{a:List (Prm×Val)}{N rid:Nat}{x:Sht}{Q:Post}(hr:rid≠4)(hN:4<N)(hrN:rid<N)(he:WeakEnv N e e')(k:WD Tryz.prog F c e' ⟨N,[],[(4,⟨58,1,x.rows.map rowV,false,false⟩)],⟨[(2,.map (esV a))],g,[]⟩⟩ Q):WD Tryz.prog F c e (stSh g a N rid x) Q:=by
 unfold stSh arrS
 unfold Sht.rows at k
 cases hx:x.op with
 |none =>
  rw[hx]at k
  simp only[List.append_nil]at k
  exact WD.weak (Nat.le_refl _) (weak4 hN (by simp[Sha.look]) rowsV_bd) he k
 |some r =>
  rw[hx]at k
  have hr':¬4=rid:=fun e=>hr e.symm
  refine WD.freeze (id:=rid) (ar:=⟨9,1,[.str r.1,.str r.2.1,.str r.2.2],true,false⟩) (by simp[Sha.look]) ?_
  refine WD.snapEl (o:=4) (j:=x.cl.length) (x:=.osl rid 3) (y:=.sl [.str r.1,.str r.2.1,.str r.2.2]) (ro:=⟨58,1,x.cl.map rowV++[.osl rid 3],false,false⟩) (by simp[updA,Sha.look,hr,hr']) (by simp) (by simp[snapA_osl,updA,Sha.look,snapO]) ?_
  refine WD.weak (Nat.le_refl _) (weak4 (X:=(x.cl++[Trip.row r]).map rowV) hN ?_ rowsV_bd) he k
  simp[updA,Sha.look,hr,hr',List.set_append,Trip.row]
end Go.Proofs.YtkpcomdhdjihlaaGreatDoor

namespace Go.Proofs.YtkpcomdhdjihlaaGreatDoor
open Go.Sha Go.RowKit
set_option maxRecDepth 100000
variable {g:List (Nat×Obj)}{n:Nat}{T:EvF}
theorem len_some {x:Sht}{r:Trip}(h:x.op=some r):x.rows=x.cl++[Trip.row r]:=by rw[Sht.rows,h]
theorem WD_C {F:Fr}{s:Sho}{a:List (Prm×Val)}{p:Prm}{dig:List UInt8}{N rid:Nat}{x:Sht}{v76 v77 v59:V}{Q:Post}(hH:ESound Tryz.prog T)(h68:RunAt T g 29 [.int .i64 p.chan] (.ret (.str dig)))(hN:4<N)(hr:4<rid)(hrN:rid<N)(hx:x.rows.length<100000)
  (b1:∀n,V.bd n v76=true) (b2:∀n,V.bd n v77=true) (b3:∀n,V.bd n v59=true)
  (hq:∀e N' rid',restr L2 e=eL s (openM dig x p).rows.length p.chan p v76 v77 v59→4<rid'→rid'<N'→N≤N'→Q .normal e (stSh g a N' rid' (openM dig x p))) :
  WD Tryz.prog F C26 (eL s x.rows.length x.last p v76 v77 v59) (stSh g a N rid x) Q:=by
 have hrun:∀st:St,runC Tryz.prog T (.reg [.a 82 0 19,.l 83 82,.m 84 17,.b 85 .neq 83 84]) (eL s x.rows.length x.last p v76 v77 v59) st=some (.normal,(85,.bool (p.chan != x.last))::(84,.int .i64 x.last)::(83,.int .i64 p.chan)::(82,.ep p.v 0)::eL s x.rows.length x.last p v76 v77 v59,st):=fun st=>by
  push_cast[Prm.v]
 refine WD.seq (WD.ev mixed hH (hrun _) ?_)
 show WD _ _ (.i 85 D26 .skip) _ _ _
 by_cases hc:p.chan=x.last
 ·have e1:openM dig x p=x:=by rw[openM,if_pos hc]
  rw[e1]at hq
  refine WD.cond (t:=false) (by simp[Opd.get,Sha.look,hc]) (fun h=>by cases h) (fun _=>?_)
  refine WD.ev mixed hH (x:=.normal) (e:=(85,.bool (p.chan != x.last))::(84,.int .i64 x.last)::(83,.int .i64 p.chan)::(82,.ep p.v 0)::eL s x.rows.length x.last p v76 v77 v59) (s:=stSh g a N rid x) (by push_cast) ?_
  refine hq _ _ _ ?_ hr hrN (Nat.le_refl _)
  rw[hc];rfl
 ·have e1:openM dig x p=⟨x.rows,some (dig,[],[]),p.chan⟩:=by rw[openM,if_neg hc]
  rw[e1]at hq
  refine WD.cond (t:=true) (by simp[Opd.get,Sha.look,hc]) (fun _=>?_) (fun h=>by cases h)
  refine closeRow (e':=eL s x.rows.length x.last p v76 v77 v59) (by omega) hN hrN (weL hN (b1 _) (b2 _) (b3 _) (fun i hi=>?_)) ?_
  ·simp only[List.mem_cons,List.not_mem_nil,or_false]at hi
   rcases hi with rfl|rfl|rfl|rfl|rfl|rfl|rfl|rfl<;>rfl
  refine WD.seq (newRow hH h68 hN (by simp) (fun y hy=>by obtain⟨r,_,rfl⟩:=List.mem_map.1 hy;rfl) hx (fun e h16 ho=>?_))
  show WD _ _ (.reg [.a 94 0 19,.l 95 94,.m 17 95]) _ _ _
  have hn1:¬N=4:=by omega
  have hn3:¬N=3:=by omega
  have hn2:¬N+1=4:=by omega
  refine WD.weak (n:=N+2) (env':=eL s (x.rows.length+1) x.last p v76 v77 v59) (Nat.le_refl _) (weak5 (N:=N+2) (rid:=N) (X:=x.rows.map rowV++[.osl N 3]) (Y:=[.str dig,.str [],.str []]) (by omega) (by omega) (by simp[Sha.look,hn1,hn2,hn3]) (by simp[Sha.look]) ?_ (by simp[V.bdL,V.bd])) (weL (by omega) (b1 _) (b2 _) (b3 _) (fun i hi=>?_)) ?_
  ·rw[bdL_append,rowsV_bd];simp[V.bdL,V.bd]
  ·simp only[List.mem_cons,List.not_mem_nil,or_false]at hi
   rcases hi with rfl|rfl|rfl|rfl|rfl|rfl|rfl|rfl<;>first|exact h16|exact ho _ (by simp)
  refine WD.ev mixed hH (x:=.normal) (e:=(17,.int .i64 p.chan)::(95,.int .i64 p.chan)::(94,.ep p.v 0)::eL s (x.rows.length+1) x.last p v76 v77 v59) (s:=⟨N+2,[],[(N,⟨9,1,[.str dig,.str [],.str []],true,false⟩),(4,⟨58,1,x.rows.map rowV++[.osl N 3],false,false⟩)],⟨[(2,.map (esV a))],g,[]⟩⟩) (by push_cast[Prm.v]) ?_
  refine hq _ (N+2) N ?_ hN (by omega) (by omega)
  simp only[Sht.rows,List.length_append,List.length_cons,List.length_nil]
  rfl
abbrev L1:List Nat:=[3,12,16,17,76,77,78]
def X26:Cd:=.g [.r 80 2 76 78,.d 81 2 80,.s 19 (.alloc 71 [.i 0,.i 0]),.w 2 19 81] (.z [19] (.join L2 C26 Y26))
theorem B26_eq:B6_1=.g [.b 79 .lss 78 77] (.join L1 (.i 79 .skip (.exit [16] 2)) (.join L1 (.block 3 X26) (.reg [.v 153 .add 78 1,.m 78 153]))):=rfl
abbrev eH (s:Sho)(ps:List Prm)(k:Nat)(last:Int)(j:Nat):Env:=[(3,.ep s.v 0),(12,.mp 2),(16,.osl 4 k),(17,.int .i64 last),(76,.sl (ps.map Prm.v)),(77,.int .i64 ps.length),(78,.int .i64 j)]
def stpM (dig wrd txt:Prm→List UInt8)(x:Sht)(p:Prm):Sht:=⟨(openM (dig p) x p).cl,(openM (dig p) x p).op.map fun r=>rowT p r (wrd p) (txt p),p.chan⟩
theorem prms_bd {ps:List Prm}:V.bd n (.sl (ps.map Prm.v))=true:=by simp[V.bd,bdL_map',V.bdL]
theorem weH {e:Env}{s:Sho}{ps:List Prm}{k N j:Nat}{last:Int}(hN:4<N)(h:∀i,i∈L1→Sha.look e i=Sha.look (eH s ps k last j) i):WeakEnv N e (eH s ps k last j):=by
 intro i v hv
 have hi:i∈L1:=by
  simp only[Sha.look]at hv
  (repeat' split at hv)<;>first|(cases hv;done)|(rename_i e;rw[←e];simp)
 refine⟨?_,(h i hi).trans hv⟩
 simp only[Sha.look]at hv
 (repeat' split at hv)<;>first
  |(cases hv;done)
  |(cases hv;first|exact sho_bd|exact prms_bd|(simp[V.bd];done)|(simp[V.bd];omega))
theorem open_some {s:Sht}{p:Prm}{dig:List UInt8}(h0:s.op=none→s.last=0)(hc:p.chan≠0):∃r,(openM dig s p).op=some r:=by
 unfold openM
 split
 ·rename_i h
  cases hs:s.op with
  |none=>exact absurd (h.trans (h0 hs)) hc
  |some r=>exact⟨r,rfl⟩
 ·exact⟨_,rfl⟩
theorem stSh_none {a:List (Prm×Val)}{N r r':Nat}{x:Sht}(h:x.op=none):stSh g a N r x=stSh g a N r' x:=by simp only[stSh,arrS,h]
theorem WD_round {F:Fr}{s:Sho}{a:List (Prm×Val)}{ps:List Prm}{p:Prm}{lev:Int}{dig wrd txt:List UInt8}{N rid j:Nat}{x:Sht}{Q:Post}(hH:ESound Tryz.prog T)(hP:ParH T g s a p lev dig txt wrd)(hc0:p.chan≠0)(hN:4<N)(hr:x.op≠none→4<rid∧rid<N)(h0:x.op=none→x.last=0)
  (hj:j<ps.length) (hp:∀d,ps.getD j d=p) (hlp:ps.length≤50000) (hxl:x.rows.length≤j+1) (ht:∀r,x.op=some r→r.2.2.length≤j*3000)
  (hq:∀(r:Trip) (e:Env) (N' rid':Nat) m',(openM dig x p).op=some r→4<rid'→rid'<N'→(∀i,i∈L1→Sha.look e i=Sha.look (eH s ps (openM dig x p).rows.length p.chan (j+1)) i)→V.bdL (N'+1) m'=true →
   Q .normal e ⟨N'+1,[(N',m')],arrS rid' ⟨(openM dig x p).cl,some (rowT p r wrd txt),p.chan⟩,⟨[(2,.map (esV a))],g,[]⟩⟩) :
  WD Tryz.prog F B6_1 (eH s ps x.rows.length x.last j) (stSh g a N rid x) Q:=by
 rw[B26_eq]
 have hjl:(j:Int)<ps.length:=by omega
 have hrun:runC Tryz.prog T (.g [.b 79 .lss 78 77] (.join L1 (.i 79 .skip (.exit [16] 2)) .skip)) (eH s ps x.rows.length x.last j) (stSh g a N rid x)=some (.normal,eH s ps x.rows.length x.last j,stSh g a N rid x):=by
  push_cast[hjl]
 show WD _ _ (Cd.put (.g [.b 79 .lss 78 77] (.join L1 (.i 79 .skip (.exit [16] 2)) .skip)) (.join L1 (.block 3 X26) (.reg [.v 153 .add 78 1,.m 78 153]))) _ _ _
 refine WD.run mixed hH hrun (WD.join (WD.block ?_))
 have hrun2:∃e,runC Tryz.prog T (.g [.r 80 2 76 78,.d 81 2 80,.s 19 (.alloc 71 [.i 0,.i 0]),.w 2 19 81] (.z [19] .skip)) (eH s ps x.rows.length x.last j) (stSh g a N rid x)=some (.normal,e,stSh g a (N+1) rid x)∧∀i,i∈L2→Sha.look e i=Sha.look (eL s x.rows.length x.last p (.sl (ps.map Prm.v)) (.int .i64 ps.length) (.int .i64 j)) i:=by
  generalize hz:runC Tryz.prog T _ _ (stSh g a N rid x)=z
  unfold stSh at hz
  push_cast[hjl,hp,Prm.v]at hz
  subst hz
  refine⟨_,rfl,fun i hi=>?_⟩
  simp only[List.mem_cons,List.not_mem_nil,or_false]at hi
  rcases hi with rfl|rfl|rfl|rfl|rfl|rfl|rfl|rfl<;>rfl
 obtain⟨e2,hrun2,he2⟩:=hrun2
 show WD _ _ (Cd.put (.g [.r 80 2 76 78,.d 81 2 80,.s 19 (.alloc 71 [.i 0,.i 0]),.w 2 19 81] (.z [19] .skip)) (.join L2 C26 Y26)) _ _ _
 refine WD.run mixed hH hrun2 (WD.join ?_)
 refine WD.sub (env':=eL s x.rows.length x.last p (.sl (ps.map Prm.v)) (.int .i64 ps.length) (.int .i64 j)) (fun i v hv=>?_) ?_
 ·have hi:i∈L2:=by
   simp only[Sha.look]at hv
   (repeat' split at hv)<;>first|(cases hv;done)|(rename_i e;rw[←e];simp)
  exact(he2 i hi).trans hv
 obtain⟨rid1,h1,h2,h3⟩:∃rid1,4<rid1∧rid1<N+1∧stSh g a (N+1) rid x=stSh g a (N+1) rid1 x:=by
  cases ho:x.op with
  |none=>exact⟨5,by omega,by omega,stSh_none ho⟩
  |some r=>obtain⟨q1,q2⟩:=hr (by rw[ho];simp);exact⟨rid,q1,by omega,rfl⟩
 rw[h3]
 refine WD_C hH hP.r68 (by omega) h1 h2 (by omega) (fun n=>prms_bd) (fun n=>by simp[V.bd]) (fun n=>by simp[V.bd]) (fun e N' rid' he hr' hrN' hNN=>?_)
 show WD _ _ Y26 (restr L2 e) _ _
 rw[he]
 obtain⟨r,hro⟩:=open_some h0 hc0
 have hcl:(openM dig x p).cl.length≤j+1:=by
  unfold openM
  split
  ·have:=hxl;unfold Sht.rows at this;simp at this;omega
  ·exact hxl
 have hrl:r.2.2.length≤j*3000:=by
  unfold openM at hro
  split at hro
  ·exact ht r hro
  ·cases hro;simp
 have hlen:(openM dig x p).rows.length=(openM dig x p).cl.length+1:=by rw[len_some hro];simp
 rw[hlen]at hq ⊢
 generalize openM dig x p=y at *
 unfold stSh arrS
 rw[hro]
 dsimp only
 obtain⟨xx,e',m',hY,hxx,hm,hre⟩:=run_Y (g:=g) (N:=N') (rid:=rid') (k:=y.cl.length) (last:=p.chan) (c:=r.1) (i:=r.2.1) (t:=r.2.2) (X:=y.cl.map rowV++[.osl rid' 3]) (v76:=.sl (ps.map Prm.v)) (v77:=.int .i64 ps.length) (v59:=.int .i64 j) hP (by omega) (by simp) (by omega) (by simp) (by omega)
 refine WD.ev mixed hH hY ?_
 have key:WD Tryz.prog F (.reg [.v 153 .add 78 1,.m 78 153]) (restr L1 e') ⟨N'+1,[(N',m')],[(rid',⟨9,1,(rowM p r.1 r.2.1 r.2.2 wrd txt).map .str,true,false⟩),(4,⟨58,1,y.cl.map rowV++[.osl rid' 3],false,false⟩)],⟨[(2,.map (esV a))],g,[]⟩⟩ Q:=by
  rw[hre]
  have hw:=iw1 (j:=j) (by omega)
  refine WD.ev mixed hH (x:=.normal) (e:=(78,.int .i64 (j+1:Nat))::(153,.int .i64 (j+1:Nat))::[(3,.ep s.v 0),(12,.mp 2),(16,.osl 4 (y.cl.length+1)),(17,.int .i64 p.chan),(76,.sl (ps.map Prm.v)),(77,.int .i64 ps.length),(78,.int .i64 j)]) (s:=⟨N'+1,[(N',m')],[(rid',⟨9,1,(rowM p r.1 r.2.1 r.2.2 wrd txt).map .str,true,false⟩),(4,⟨58,1,y.cl.map rowV++[.osl rid' 3],false,false⟩)],⟨[(2,.map (esV a))],g,[]⟩⟩) (by push_cast[hw]) ?_
  rw[rowM_T]
  refine hq r _ N' rid' m' hro hr' hrN' (fun i hi=>?_) hm
  simp only[List.mem_cons,List.not_mem_nil,or_false]at hi
  rcases hi with rfl|rfl|rfl|rfl|rfl|rfl|rfl<;>rfl
 rcases hxx with rfl|rfl
 ·exact key
 ·exact(show ∀(Q1:Post) e s,Q1 .normal e s→blockPost 3 Q1 (.exit 3) e s from fun Q1 e s h=>by simp only[blockPost,if_true];exact h) _ _ _ key
end Go.Proofs.YtkpcomdhdjihlaaGreatDoor

namespace Go.Proofs.YtkpcomdhdjihlaaGreatDoor
open Go.Sha Go.RowKit
set_option maxRecDepth 100000
variable {g:List (Nat×Obj)}{n:Nat}{T:EvF}
def sh0:Sht:=⟨[hdM],none,0⟩
def shtM (dig wrd txt:Prm→List UInt8)(l:List Prm):Sht:=l.foldl (stpM dig wrd txt) sh0
def InvM (s:Sho)(a:List (Prm×Val))(ps:List Prm)(dig wrd txt:Prm→List UInt8)(g:List (Nat×Obj))(m:Nat)(e:Env)(st:St):Prop :=
 ∃j x N rid,m+j=ps.length∧e=eH s ps x.rows.length x.last j∧st=stSh g a N rid x∧4<N∧(x.op≠none→4<rid∧rid<N)∧(x.op=none→x.last=0)∧x.rows.length≤j+1∧(∀r,x.op=some r→r.2.2.length≤j*3000)∧x=shtM dig wrd txt (ps.take j)
def post26:Cd:=.g [.m 154 16,.m 6 154,.c 7 0] (.ret [6,7])
theorem rowT_len {p:Prm}{r:Trip}{wrd txt:List UInt8}(h1:wrd.length≤1000)(h2:txt.length≤1000):(rowT p r wrd txt).2.2.length≤r.2.2.length+3000:=by
 unfold rowT cell2
 split
 ·simp
 ·split<;>simp<;>omega
theorem v6 (hH:ESound Tryz.prog T){st:St}{s:Sho}{lst:Int}{cue:List UInt8}{L:Lst}{lk:List (Prm×Val)}{ps:List Prm}{lev:Prm→Int}{dig wrd txt:Prm→List UInt8}(hM:MagH T st.x.gl s lst cue L lk ps)(hP:∀p∈ps,ParH T st.x.gl s (lk.foldl insMg []) p (lev p) (dig p) (txt p) (wrd p)∧p.chan≠0)(hlp:ps.length≤50000) :
  VCalls Tryz.prog 6 [s.v,.int .i64 lst,.str cue] st fun x y=>x=.ret (.tup [.sl ((shtM dig wrd txt ps).rows.map rowV),.int .i64 0])∧y=st:=by
 refine VCalls_shutW (by simp) (VCalls_WD F6' (Nat.le_of_ble_eq_true rfl) fun N=>?_)
 show WD _ ⟨N,[]⟩ (pre26.put mid26) (argEnv 0 [s.v,.int .i64 lst,.str cue]) (stN st.x.gl 0) _
 refine WD.run mixed hH (run_pre26 hM) ?_
 show WD _ _ mid26 _ _ _
 refine WD.join (WD.seq (WD.ev mixed hH (x:=.normal) (e:=[(78,.int .i64 0),(77,.int .i64 ps.length),(76,.sl (ps.map Prm.v)),(17,.int .i64 0),(16,.osl 4 1),(75,.osl 4 1),(74,rowV hdM),(73,.osl 3 3),(3,.ep s.v 0),(12,.mp 2),(15,.sl (ps.map Prm.v))]) (s:=stPg st.x.gl (lk.foldl insMg [])) (by unfold stPg;push_cast) ?_))
 show WD _ _ (.block 2 (.loop [3,12,16,17,76,77,78] [(16,(31,1))] B6_1)) _ _ _
 generalize hg:st.x.gl=g at *
 generalize ha:lk.foldl insMg []=a at *
 refine WD.block (WD.loopG (InvM s a ps dig wrd txt g) (fun m e z ⟨j,x,N,rid,_,_,hz,hN,_⟩=>by subst hz;show 5≤N;omega) ?_ ?_)
 ·refine⟨ps.length,eH s ps 1 0 0,stSh g a 5 0 sh0,⟨0,sh0,5,0,by omega,rfl,rfl,by omega,fun h=>absurd rfl h,fun _=>rfl,by simp[sh0,Sht.rows],fun r h=>(by cases h),(by rw[List.take_zero];rfl)⟩,?_,?_⟩
  ·refine weH (by show 4<5;omega) (fun i hi=>?_)
   simp only[List.mem_cons,List.not_mem_nil,or_false]at hi
   rcases hi with rfl|rfl|rfl|rfl|rfl|rfl|rfl<;>rfl
  ·exact weak4 (N:=5) (by omega) rfl (by simp[V.bdL,V.bd,rowV])
 ·rintro m e z ⟨j,x,N',rid,hm,rfl,rfl,hN,hr,h0,hxl,ht,hx⟩
  by_cases hj:j<ps.length
  ·have hp:∀d,ps.getD j d=ps[j]:=fun d=>by rw[List.getD_eq_getElem?_getD,List.getElem?_eq_getElem hj];rfl
   obtain⟨hP1,hP2⟩:=hP _ (List.getElem_mem hj)
   generalize hpj:ps[j]=p at *
   refine WD_round hH hP1 hP2 hN hr h0 hj hp hlp hxl ht (fun r e N2 rid2 m2 hro h1 h2 he hm2=>?_)
   have hst:stpM dig wrd txt x p=⟨(openM (dig p) x p).cl,some (rowT p r (wrd p) (txt p)),p.chan⟩:=by rw[stpM,hro];rfl
   have hlen:(stpM dig wrd txt x p).rows.length=(openM (dig p) x p).rows.length:=by rw[hst,len_some hro];simp[Sht.rows]
   have hrl:r.2.2.length≤j*3000:=by
    unfold openM at hro
    split at hro
    ·exact ht r hro
    ·cases hro;simp
   refine⟨m-1,eH s ps (stpM dig wrd txt x p).rows.length p.chan (j+1),stSh g a (N2+1) rid2 (stpM dig wrd txt x p),by omega,⟨j+1,stpM dig wrd txt x p,N2+1,rid2,by omega,rfl,rfl,by omega,fun _=>⟨h1,by omega⟩,fun h=>(by rw[hst]at h;cases h),?_,?_,?_⟩,?_,?_⟩
   ·rw[hlen]
    unfold openM
    split
    ·omega
    ·simp[Sht.rows];unfold Sht.rows at hxl;simp at hxl;omega
   ·intro r2 hr2
    rw[hst]at hr2
    cases hr2
    have:=rowT_len (p:=p) (r:=r) hP1.lw hP1.lt
    omega
   ·rw[hx,shtM,shtM,List.take_succ_eq_append_getElem hj,List.foldl_append,hpj];rfl
   ·rw[hlen]
    exact weH (by show 4<N2+1;omega) he
   ·rw[hst]
    have hr4:¬rid2=4:=by omega
    exact weak5 (N:=N2+1) (rid:=rid2) (by omega) (by omega) (by simp[arrS,Sha.look,hr4]) (by simp[arrS,Sha.look]) (by rw[bdL_append,rowsV_bd];simp[V.bdL,V.bd];omega) str3_bd
  ·have hj':j=ps.length:=by omega
   have hjl:¬(j:Int)<ps.length:=by omega
   have hrun:runC Tryz.prog T B6_1 (eH s ps x.rows.length x.last j) (stSh g a N' rid x)=some (.exit 2,[(16,.osl 4 x.rows.length)],stSh g a N' rid x):=by
    rw[B26_eq]
    push_cast[hjl]
   refine WD.ev mixed hH hrun ?_
   refine(show ∀(K:Env→St→Prop) (Q1:Post) e s,Q1 .normal e s→seqPost K (blockPost 2 Q1) (.exit 2) e s from fun K Q1 e s h=>by simp only[seqPost,blockPost,if_true];exact h) _ _ _ _ ?_
   show WD _ _ post26 (restr [16] [(16,.osl 4 x.rows.length)]) _ _
   obtain⟨rid1,q1,q2,q3⟩:∃rid1,rid1≠4∧rid1<N'∧stSh g a N' rid x=stSh g a N' rid1 x:=by
    cases ho:x.op with
    |none=>exact⟨0,by omega,by omega,stSh_none ho⟩
    |some r=>obtain⟨q1,q2⟩:=hr (by rw[ho];simp);exact⟨rid,by omega,q2,rfl⟩
   rw[q3]
   refine closeRow (e':=[(16,.osl 4 x.rows.length)]) q1 hN q2 (fun i v hv=>?_) ?_
   ·simp only[Sha.look]at hv
    split at hv
    ·rename_i e;subst e;cases hv;exact⟨by simp[V.bd];omega,rfl⟩
    ·cases hv
   refine WD.ev mixed hH (x:=.ret) (e:=[(6,.osl 4 x.rows.length),(7,.int .i64 0)]) (s:=⟨N',[],[(4,⟨58,1,x.rows.map rowV,false,false⟩)],⟨[(2,.map (esV a))],g,[]⟩⟩) (by rw[post26];push_cast) ?_
   refine⟨.ret (.tup [.osl 4 x.rows.length,.int .i64 0]),_,rfl,?_⟩
   have hxe:x=shtM dig wrd txt ps:=by rw[hx,hj',List.take_length]
   rw[←hxe]
   push_cast[rowV]
end Go.Proofs.YtkpcomdhdjihlaaGreatDoor

namespace Go.Proofs.YtkpcomdhdjihlaaGreatDoor
open Go.Sha
set_option maxRecDepth 1000000
structure GV where
 a:TypeId
 b:TypeId
 c:TypeId
 x:Nat×Nat
 y:Nat×Nat
 z:Nat×Nat
 m:Int
def glK (v:GV):List (Nat×Obj):=[(3,.cells (Lib.pow10Tab.map fun n=>.int .u64 n).toArray v.a v.x),(0,.cells (Lib.asciiSpaceTab.map fun n=>.int .u8 n).toArray v.b v.y),(1,.cells #[.int .i64 v.m] v.c v.z)]
theorem at_gl {f:FuncId}{args:List V}{st:St}{r:VRes}(h:run Tryz.prog HK f args (stG st.x.gl)=some (r,stG st.x.gl))(hF:(compF Tryz.prog f).isSome=true)(hH:∀s:St,HK f args s=none)(hb:V.bdL 0 args=true):run Tryz.prog HK f args st=some (r,st):=by
 obtain⟨F,hF⟩:=Option.isSome_iff_exists.1 hF
 rw[run_eq (hH _) hF]at h ⊢
 unfold endF at h ⊢
 split at h
 ·rename_i hl
  rw[if_pos hl,if_pos hb]
  change shutR (stG st.x.gl) (rawE F.res (runC Tryz.prog HK F.c (argEnv 0 args) (stG st.x.gl)))=_ at h
  change shutR st (rawE F.res (runC Tryz.prog HK F.c (argEnv 0 args) (stG st.x.gl)))=_
  generalize rawE F.res (runC Tryz.prog HK F.c (argEnv 0 args) (stG st.x.gl))=X at h ⊢
  match X,h with
  |some (.ret v,s),h =>
   simp only[shutR]at h ⊢
   cases hg:(shutV s v).bd 0 with
   |true=>rw[hg]at h;simp only[guardT]at h ⊢;cases h;rfl
   |false=>rw[hg]at h;cases h
  |some (.pan v,s),h =>
   simp only[shutR]at h ⊢
   cases hg:(shutV s v).bd 0 with
   |true=>rw[hg]at h;simp only[guardT]at h ⊢;cases h;rfl
   |false=>rw[hg]at h;cases h
 ·cases h
def thH:List Row:=[[[99,104,97,110,110,101,108],[112,114,111,102,105,108,101],[117,110,105,118,101,114,115,101],[97,100,100,114,101,115,115],[112,104,97,115,101],[99,97,98,108,101]],[[49],[115,112,111,116],[49],[49],[49],[]],[[50],[115,112,111,116],[49],[52],[49],[]]]
def thL:Row:=[[99,104,97,110,110,101,108,32,32,112,114,111,102,105,108,101,32,32,117,110,105,118,101,114,115,101,32,32,97,100,100,114,101,115,115,32,32,112,104,97,115,101,32,32,99,97,98,108,101],[49,32,32,32,32,32,32,32,32,115,112,111,116,32,32,32,32,32,49,32,32,32,32,32,32,32,32,32,49,32,32,32,32,32,32,32,32,49],[50,32,32,32,32,32,32,32,32,115,112,111,116,32,32,32,32,32,49,32,32,32,32,32,32,32,32,32,52,32,32,32,32,32,32,32,32,49]]
def thC:List Row:=[[[99,117,101],[108,97,98,101,108],[109,111,118,101,115],[117,112],[100,111,119,110],[100,101,108,97,121],[102,108,97,103,115],[102,111,108,108,111,119],[108,105,110,107]],[[49],[],[50],[49,46,53],[48],[48],[],[],[]]]
def thA:List Row:=[[[117,110,105,118,101,114,115,101],[102,114,111,109],[116,111],[99,104,97,110,110,101,108],[112,114,111,102,105,108,101]],[[49],[49],[51],[49],[115,112,111,116]],[[49],[52],[54],[50],[115,112,111,116]]]
def thM:List Row:=[[[99,104,97,110,110,101,108],[105,110,116,101,110,115,105,116,121],[111,116,104,101,114,115]],[[49],[53,48],[112,97,110,32,53,48]],[[50],[48],[112,97,110,32,48,46,49,53,50]]]
def thP:List Row:=[[[112,97,108,101,116,116,101],[104,117,101,115],[99,117,101,115]],[[53],[49],[55,32,47,32,49]]]
def tabR (l:List Row):VRes:=.ret (.tup [tabV l,.int .i64 0])
end Go.Proofs.YtkpcomdhdjihlaaGreatDoor

namespace Go.Proofs.YtkpcomdhdjihlaaGreatDoor
open Go.Sha
set_option maxRecDepth 1000000
variable {v:GV}
theorem e49:evK Tryz.prog HK 40 60 17 [] (stG (glK v))=some (.ret thS.v,stG (glK v)):=by kernel_rfl
theorem e16:evK Tryz.prog HK 60 60 19 [tabV thH] (stG (glK v))=some (.ret (.tup [rowV thL,.int .i64 0]),stG (glK v)):=by kernel_rfl
theorem e23:evK Tryz.prog HK 40 60 18 [thS.v] (stG (glK v))=some (tabR thH,stG (glK v)):=by kernel_rfl
end Go.Proofs.YtkpcomdhdjihlaaGreatDoor

namespace Go.Proofs.YtkpcomdhdjihlaaGreatDoor
open Go.Sha
set_option maxRecDepth 1000000
variable {v:GV}
theorem e21:evK Tryz.prog HK 60 60 20 [thS.v,.int .i64 7] (stG (glK v))=some (tabR thC,stG (glK v)):=by kernel_rfl
theorem e32:evK Tryz.prog HK 60 60 21 [thS.v] (stG (glK v))=some (tabR thA,stG (glK v)):=by kernel_rfl
end Go.Proofs.YtkpcomdhdjihlaaGreatDoor

namespace Go.Proofs.YtkpcomdhdjihlaaGreatDoor
open Go.Sha
set_option maxRecDepth 1000000
variable {v:GV}
theorem e35:evK Tryz.prog HK 60 60 22 [thS.v] (stG (glK v))=some (tabR thP,stG (glK v)):=by kernel_rfl
def thL7:Lst:=⟨7,0,[⟨[49],[],[⟨⟨1,0⟩,⟨0,32768⟩,1⟩,⟨⟨2,1⟩,⟨5,0⟩,1⟩],[⟨1500,0,0,0,0,0⟩],false,false,-1,[],0⟩]⟩
theorem e65:evK Tryz.prog HK 60 60 24 [thS.v,.int .i64 7] (stG (glK v))=some (.ret (.tup [thL7.v,.int .i64 0]),stG (glK v)):=by kernel_rfl
theorem e80:evK Tryz.prog HK 60 60 25 [.str [49]] (stG (glK v))=some (.ret (.int .i64 0),stG (glK v)):=by kernel_rfl
theorem e39:evK Tryz.prog HK 60 60 26 [thL7.v,.str [49]] (stG (glK v))=some (.ret (.tup [.sl [.agg [.int .i64 1,.int .i64 0,.int .i64 0,.int .i64 32768],.agg [.int .i64 2,.int .i64 1,.int .i64 5,.int .i64 0]],.int .i64 0]),stG (glK v)):=by kernel_rfl
theorem e43a:evK Tryz.prog HK 60 60 30 [thS.v,(⟨1,0⟩:Prm).v,(⟨0,32768⟩:Val).v] (stG (glK v))=some (.ret (.tup [.int .i64 32768,.int .i64 0]),stG (glK v)):=by kernel_rfl
theorem e43b:evK Tryz.prog HK 60 60 30 [thS.v,(⟨1,1⟩:Prm).v,(⟨-1,0⟩:Val).v] (stG (glK v))=some (.ret (.tup [.int .i64 32768,.int .i64 0]),stG (glK v)):=by kernel_rfl
theorem e43c:evK Tryz.prog HK 60 60 30 [thS.v,(⟨2,0⟩:Prm).v,(⟨-1,0⟩:Val).v] (stG (glK v))=some (.ret (.tup [.int .i64 0,.int .i64 0]),stG (glK v)):=by kernel_rfl
theorem e43d:evK Tryz.prog HK 60 60 30 [thS.v,(⟨2,1⟩:Prm).v,(⟨5,0⟩:Val).v] (stG (glK v))=some (.ret (.tup [.int .i64 100,.int .i64 0]),stG (glK v)):=by kernel_rfl
theorem e81a:evK Tryz.prog HK 60 60 31 [.int .i64 32768] (stG (glK v))=some (.ret (.tup [.str [53,48],.int .i64 0]),stG (glK v)):=by kernel_rfl
theorem e81b:evK Tryz.prog HK 60 60 31 [.int .i64 0] (stG (glK v))=some (.ret (.tup [.str [48],.int .i64 0]),stG (glK v)):=by kernel_rfl
theorem e81c:evK Tryz.prog HK 60 60 31 [.int .i64 100] (stG (glK v))=some (.ret (.tup [.str [48,46,49,53,50],.int .i64 0]),stG (glK v)):=by kernel_rfl
theorem e82a:evK Tryz.prog HK 60 60 32 [.int .i64 0] (stG (glK v))=some (.ret (.tup [.str [105,110,116,101,110,115,105,116,121],.int .i64 0]),stG (glK v)):=by kernel_rfl
theorem e82b:evK Tryz.prog HK 60 60 32 [.int .i64 1] (stG (glK v))=some (.ret (.tup [.str [112,97,110],.int .i64 0]),stG (glK v)):=by kernel_rfl
theorem e68a:evK Tryz.prog HK 60 60 29 [.int .i64 1] (stG (glK v))=some (.ret (.str [49]),stG (glK v)):=by kernel_rfl
theorem e68b:evK Tryz.prog HK 60 60 29 [.int .i64 2] (stG (glK v))=some (.ret (.str [50]),stG (glK v)):=by kernel_rfl
end Go.Proofs.YtkpcomdhdjihlaaGreatDoor

namespace Go.Proofs.YtkpcomdhdjihlaaGreatDoor
open Go.Sha
set_option maxRecDepth 10000
theorem F5:compF Tryz.prog 5=some ⟨124,[.tmp 0],(.g [.k 0 false] (.g [.s 14 (.f 17 []),.s 1 (.alloc 31 [(.str []),.nils,.nils,.nils,.nils,.nils,.nils,.nils,.nils]),.w 9 1 14] (.z [1] (.g [.d 16 9 1,.f 17 18 16,.m 15 17,.j 18 0 15,.j 19 1 15,.m 2 18,.m 3 19] (.g [.m 21 2,.f 22 19 21,.m 20 22,.j 23 0 20,.j 24 1 20,.m 4 23,.m 5 24] (.g [.d 26 9 1,.s 27 (.f 20 [.t 26,.i 7]),.m 25 27,.j 28 0 25,.j 29 1 25,.m 6 28,.m 7 29] (.g [.d 31 9 1,.f 32 21 31,.m 30 32,.j 33 0 30,.j 34 1 30,.m 8 33,.m 9 34] (.g [.d 36 9 1,.s 37 (.f 6 [.t 36,.i 7,(.w [49])]),.m 35 37,.j 38 0 35,.j 39 1 35,.m 10 38,.m 11 39] (.g [.d 41 9 1,.f 42 22 41,.m 40 42,.j 43 0 40,.j 44 1 40,.m 12 43,.m 13 44] (.join [6,8,10,12] (.join [6,8,10,12,62] (.reg [.m 45 3,.m 46 5,.b 47 .add 45 46,.m 48 7,.b 49 .add 47 48,.m 50 9,.b 51 .add 49 50,.m 52 11,.b 53 .add 51 52,.m 54 13,.b 55 .add 53 54,.v 56 .neq 55 0,.m 57 56,.mx 58 4 57,.x 59 (.bslice 9 1 [(.w [99,104,97,110,110,101,108,32,32,112,114,111,102,105,108,101,32,32,117,110,105,118,101,114,115,101,32,32,97,100,100,114,101,115,115,32,32,112,104,97,115,101,32,32,99,97,98,108,101]),(.w [49,32,32,32,32,32,32,32,32,115,112,111,116,32,32,32,32,32,49,32,32,32,32,32,32,32,32,32,49,32,32,32,32,32,32,32,32,49]),(.w [50,32,32,32,32,32,32,32,32,115,112,111,116,32,32,32,32,32,49,32,32,32,32,32,32,32,32,32,52,32,32,32,32,32,32,32,32,49])]) 57,.x 60 (.f 23 [.t 58,.t 59]) 57,.x 61 (.un .not (.t 60)) 57,.o 62 57 61]) (.i 62 (.g [.k 0 false] (.ret [0])) .skip)) (.join [10,12] (.join [10,12,94] (.reg [.m 63 6,.u 64 63,.v 65 .neq 64 2,.m 66 65,.mx 67 6 66,.x 68 (.iadr 1 (.t 67) (.i 1)) 66,.lx 69 68 66,.x 70 (.bslice 9 1 [(.w [49]),(.w []),(.w [50]),(.w [49,46,53]),(.w [48]),(.w [48]),(.w []),(.w []),(.w [])]) 66,.x 71 (.f 23 [.t 69,.t 70]) 66,.x 72 (.un .not (.t 71)) 66,.o 73 66 72,.m 74 73,.mx 75 8 74,.x 76 (.len (.t 75)) 74,.vx 77 .neq 76 3 74,.o 78 74 77,.m 79 78,.mx 80 8 79,.x 81 (.iadr 1 (.t 80) (.i 1)) 79,.lx 82 81 79,.x 83 (.bslice 9 1 [(.w [49]),(.w [49]),(.w [51]),(.w [49]),(.w [115,112,111,116])]) 79,.x 84 (.f 23 [.t 82,.t 83]) 79,.x 85 (.un .not (.t 84)) 79,.o 86 79 85,.m 87 86,.mx 88 8 87,.x 89 (.iadr 1 (.t 88) (.i 2)) 87,.lx 90 89 87,.x 91 (.bslice 9 1 [(.w [49]),(.w [52]),(.w [54]),(.w [50]),(.w [115,112,111,116])]) 87,.x 92 (.f 23 [.t 90,.t 91]) 87,.x 93 (.un .not (.t 92)) 87,.o 94 87 93]) (.i 94 (.g [.k 0 false] (.ret [0])) .skip)) (.join [0] (.reg [.m 95 10,.u 96 95,.v 97 .eql 96 3,.m 98 97,.my 99 10 98,.y 100 (.iadr 1 (.t 99) (.i 1)) 98,.ly 101 100 98,.y 102 (.bslice 9 1 [(.w [49]),(.w [53,48]),(.w [112,97,110,32,53,48])]) 98,.y 103 (.f 23 [.t 101,.t 102]) 98,.e 104 98 103,.m 105 104,.my 106 10 105,.y 107 (.iadr 1 (.t 106) (.i 2)) 105,.ly 108 107 105,.y 109 (.bslice 9 1 [(.w [50]),(.w [48]),(.w [112,97,110,32,48,46,49,53,50])]) 105,.y 110 (.f 23 [.t 108,.t 109]) 105,.e 111 105 110,.m 112 111,.my 113 12 112,.y 114 (.len (.t 113)) 112,.vy 115 .eql 114 2 112,.e 116 112 115,.m 117 116,.my 118 12 117,.y 119 (.iadr 1 (.t 118) (.i 1)) 117,.ly 120 119 117,.y 121 (.bslice 9 1 [(.w [53]),(.w [49]),(.w [55,32,47,32,49])]) 117,.y 122 (.f 23 [.t 120,.t 121]) 117,.e 123 117 122,.m 0 123]) (.ret [0])))))))))))))⟩:=by kernel_rfl
def B23_0:Cd:=(.g [.b 14 .lss 13 12] (.join [0,1,12,13] (.i 14 .skip (.exit [] 0)) (.join [0,1,12,13] (.block 1 (.g [.m 15 13,.m 5 15] (.q (.dreg 9 [.m 16 0,.m 17 5,.r 18 1 16 17,.l 19 18,.m 20 1,.m 21 5,.r 22 1 20 21,.l 23 22,.b 24 .neq 19 23]) (.i 24 (.g [.k 4 false] (.ret [4])) .skip)))) (.reg [.v 25 .add 13 1,.m 13 25]))))
theorem F23:compF Tryz.prog 23=some ⟨26,[.tmp 4],(.g [.k 4 false] (.join [0,1] (.g [.m 6 0,.u 7 6,.m 8 1,.u 9 8,.b 10 .neq 7 9] (.i 10 (.g [.k 4 false] (.ret [4])) .skip)) (.join [] (.g [.m 11 0,.u 12 11,.c 13 0] (.block 0 (.loop [0,1,12,13] [] B23_0))) (.g [.k 4 true] (.ret [4])))))⟩:=by kernel_rfl
end Go.Proofs.YtkpcomdhdjihlaaGreatDoor

namespace Go.Proofs.YtkpcomdhdjihlaaGreatDoor
open Go.Sha
set_option maxRecDepth 100000
variable {g:List (Nat×Obj)}{n:Nat}{v:GV}
theorem runAt {m k f:Nat}{args:List V}{r:VRes}(h:evK Tryz.prog HK m k f args (stG (glK v))=some (r,stG (glK v)))(hF:(compF Tryz.prog f).isSome=true)(hH:∀s:St,HK f args s=none)(hb:V.bdL 0 args=true):RunAt HK (glK v) f args r:=fun nx mem arr obj ty=>at_gl (st:=⟨nx,mem,arr,⟨obj,glK v,ty⟩⟩) (evK_run h) hF hH hb
def lkT:List (Prm×Val):=[(⟨1,0⟩,⟨0,32768⟩),(⟨2,1⟩,⟨5,0⟩)]
def psT:List Prm:=[⟨1,0⟩,⟨1,1⟩,⟨2,0⟩,⟨2,1⟩]
def levT (p:Prm):Int:=if p.chan=1 then 32768 else if p.attr=0 then 0 else 100
def txtT (p:Prm):List UInt8:=if p.chan=1 then[53,48] else if p.attr=0 then[48] else[48,46,49,53,50]
def wrdT (p:Prm):List UInt8:=if p.attr=0 then[105,110,116,101,110,115,105,116,121] else[112,97,110]
def digT (p:Prm):List UInt8:=if p.chan=1 then[49] else[50]
theorem thS_bd:V.bd 0 thS.v=true:=Sho.bd thS
theorem qHK:QT HK:=⟨rfl,fun _ _=>rfl⟩
theorem magT:MagH HK (glK v) thS 7 [49] thL7 lkT psT where
 r65:=runAt e65 (by kernel_rfl) (fun _=>rfl) (by simp[V.bdL,thS_bd,V.bd])
 r80:=runAt e80 (by kernel_rfl) (fun _=>rfl) (by simp[V.bdL,V.bd])
 r39:=runAt e39 (by kernel_rfl) (fun _=>rfl) (by simp[V.bdL,V.bd,Lst.bd])
 r40:=fun nx mem arr obj ty=>run_H (by kernel_rfl)
 ll:=by decide
 lp:=by decide
 q:=qHK
theorem b43 {p:Prm}{v:Val}:V.bdL 0 [thS.v,p.v,v.v]=true:=by simp[V.bdL,thS_bd,V.bd]
theorem parT:∀p∈psT,ParH HK (glK v) thS (lkT.foldl insMg []) p (levT p) (digT p) (txtT p) (wrdT p)∧p.chan≠0:=by
 intro p hp
 simp only[psT,List.mem_cons,List.not_mem_nil,or_false]at hp
 rcases hp with rfl|rfl|rfl|rfl
 ·exact⟨⟨⟨_,runAt e43a (by kernel_rfl) (fun _=>rfl) b43⟩,⟨_,runAt e81a (by kernel_rfl) (fun _=>rfl) (by simp[V.bdL,V.bd])⟩,⟨_,runAt e82a (by kernel_rfl) (fun _=>rfl) (by simp[V.bdL,V.bd])⟩,runAt e68a (by kernel_rfl) (fun _=>rfl) (by simp[V.bdL,V.bd]),by decide,by decide,qHK⟩,by decide⟩
 ·exact⟨⟨⟨_,runAt e43b (by kernel_rfl) (fun _=>rfl) b43⟩,⟨_,runAt e81a (by kernel_rfl) (fun _=>rfl) (by simp[V.bdL,V.bd])⟩,⟨_,runAt e82b (by kernel_rfl) (fun _=>rfl) (by simp[V.bdL,V.bd])⟩,runAt e68a (by kernel_rfl) (fun _=>rfl) (by simp[V.bdL,V.bd]),by decide,by decide,qHK⟩,by decide⟩
 ·exact⟨⟨⟨_,runAt e43c (by kernel_rfl) (fun _=>rfl) b43⟩,⟨_,runAt e81b (by kernel_rfl) (fun _=>rfl) (by simp[V.bdL,V.bd])⟩,⟨_,runAt e82a (by kernel_rfl) (fun _=>rfl) (by simp[V.bdL,V.bd])⟩,runAt e68b (by kernel_rfl) (fun _=>rfl) (by simp[V.bdL,V.bd]),by decide,by decide,qHK⟩,by decide⟩
 ·exact⟨⟨⟨_,runAt e43d (by kernel_rfl) (fun _=>rfl) b43⟩,⟨_,runAt e81c (by kernel_rfl) (fun _=>rfl) (by simp[V.bdL,V.bd])⟩,⟨_,runAt e82b (by kernel_rfl) (fun _=>rfl) (by simp[V.bdL,V.bd])⟩,runAt e68b (by kernel_rfl) (fun _=>rfl) (by simp[V.bdL,V.bd]),by decide,by decide,qHK⟩,by decide⟩
theorem rowsT:(shtM digT wrdT txtT psT).rows=thM:=by kernel_rfl
def argM:List V:=[thS.v,.int .i64 7,.str [49]]
theorem v26T (hH:ESound Tryz.prog HK){st:St}(hg:st.x.gl=glK v):VCalls Tryz.prog 6 argM st fun x y=>x=tabR thM∧y=st:=by
 have hM:MagH HK st.x.gl thS 7 [49] thL7 lkT psT:=hg▸magT
 have hP:∀p∈psT,ParH HK st.x.gl thS (lkT.foldl insMg []) p (levT p) (digT p) (txtT p) (wrdT p)∧p.chan≠0:=hg▸parT
 have:=v6 hH hM hP (by decide)
 rw[rowsT]at this
 exact this
open Classical in
noncomputable def hMag (gl:List (Nat×Obj))(args:List V):Option VRes:=if(∃v,gl=glK v)∧args=argM then some (tabR thM) else none
def memA:List Nat:=[50,19,41,20,18,65,52,21,22,17]
def inL (k:Nat):List Nat→Bool
 |[]=>false
 |x::r=>bif Nat.beq k x then true else inL k r
noncomputable def HA:EvF:=⟨[],fun f args st=>bif Nat.beq f 6 then(hMag st.x.gl args).map (fun r=>(r,st)) else bif inL f memA then run Tryz.prog HK f args st else none⟩
@[push_cast]theorem HA_raw:HA.raw=[]:=idq rfl
theorem HA_ok (hH:ESound Tryz.prog HK):ESound Tryz.prog HA:=fun f args st r s h=>by
 simp only[HA]at h
 by_cases hf:f=6
 ·subst hf
  simp only[show Nat.beq 6 6=true from rfl,cond_true]at h
  obtain⟨z,hz,e⟩:=Option.map_eq_some_iff.1 h
  cases e
  unfold hMag at hz
  split at hz
  ·rename_i hx
   obtain⟨⟨v,hg⟩,rfl⟩:=hx
   cases hz
   exact v26T hH hg
  ·cases hz
 ·have:Nat.beq f 6=false:=by cases e:Nat.beq f 6 with
   |false=>rfl
   |true=>exact absurd (Nat.eq_of_beq_eq_true e) hf
  simp only[this,cond_false]at h
  cases hi:inL f memA with
  |false=>rw[hi]at h;cases h
  |true=>rw[hi]at h;exact run_sound mixed hH _ _ _ _ _ h
theorem upA {k:Nat}{args:List V}{st:St}{r:VRes×St}(h:run Tryz.prog HK k args st=some r)(h1:Nat.beq k 6=false:=by rfl)(h2:inL k memA=true:=by rfl):run Tryz.prog HA k args st=some r:=by
 refine run_H ?_
 simp only[HA,h1,h2,cond_false,cond_true,h]
theorem L23 {a:Row}(hl:a.length<140737488355328):∀r j,a.drop j=r→runL Tryz.prog HA [0,1,12,13] n B23_0 [(0,.sl (a.map .str)),(1,.sl (a.map .str)),(12,.int .i64 a.length),(13,.int .i64 j)] (stN g n)=some (.exit 0,[],stN g n):=by
 refine drop_ind (fun j h=>?_) (fun q r j h hx hd ih=>?_)
 all_goals rw[runL_of B23_0.eq_1]
 ·have h1:¬(j:Int)<a.length:=by omega
  push_cast[h1]
 ·have h1:(j:Int)<a.length:=by omega
  have hw:=iw1 (j:=j) (by omega)
  push_cast[h1,hw,hx]at ih ⊢
  simp only[ih,lps,Int.reduceEq,not_false_eq_true]
theorem f23 {a:Row}(hl:a.length<140737488355328){st:St}:run Tryz.prog HA 23 [.sl (a.map .str),.sl (a.map .str)] st=some (.ret (.bool true),st):=by
 rw[run_shut F23 rfl rfl (by simp)]
 have hL0:=fun n=>L23 (g:=st.x.gl) (n:=n) hl _ 0 rfl
 push_cast at hL0
 push_cast[hL0,lpE,lpX,lpI,lpB]
end Go.Proofs.YtkpcomdhdjihlaaGreatDoor

namespace Go.Proofs.YtkpcomdhdjihlaaGreatDoor
open Go.Sha
set_option maxRecDepth 100000
variable {g:List (Nat×Obj)}{n:Nat}{v:GV}
abbrev RunA (g:List (Nat×Obj))(k:FuncId)(args:List V)(r:VRes):Prop:=∀nx mem arr obj ty,run Tryz.prog HA k args ⟨nx,mem,arr,⟨obj,g,ty⟩⟩=some (r,⟨nx,mem,arr,⟨obj,g,ty⟩⟩)
theorem runA {m k f:Nat}{args:List V}{r:VRes}(h:evK Tryz.prog HK m k f args (stG (glK v))=some (r,stG (glK v)))(hF:(compF Tryz.prog f).isSome=true)(hH:∀s:St,HK f args s=none)(hb:V.bdL 0 args=true)(h1:Nat.beq f 6=false:=by rfl)(h2:inL f memA=true:=by rfl):RunA (glK v) f args r:=fun nx mem arr obj ty=>upA (runAt h hF hH hb nx mem arr obj ty) h1 h2
theorem a26:RunA (glK v) 6 argM (tabR thM):=fun nx mem arr obj ty=>run_H (by
 have:hMag (glK v) argM=some (tabR thM):=by unfold hMag;rw[if_pos ⟨⟨v,rfl⟩,rfl⟩]
 simp only[HA,show Nat.beq 6 6=true from rfl,cond_true,this,Option.map_some])
theorem f5:RunA (glK v) 5 [] (.ret (.bool true)):=by
 intro nx mem arr obj ty
 have h49:RunA (glK v) 17 [] _:=runA e49 (by kernel_rfl) (fun _=>rfl) rfl
 have h16:RunA (glK v) 19 _ _:=runA e16 (by kernel_rfl) (fun _=>rfl) (by simp[V.bdL])
 have h23:RunA (glK v) 18 _ _:=runA e23 (by kernel_rfl) (fun _=>rfl) (by simp[V.bdL])
 have h21:RunA (glK v) 20 _ _:=runA e21 (by kernel_rfl) (fun _=>rfl) (by simp[V.bdL,V.bd])
 have h32:RunA (glK v) 21 _ _:=runA e32 (by kernel_rfl) (fun _=>rfl) (by simp[V.bdL])
 have h35:RunA (glK v) 22 _ _:=runA e35 (by kernel_rfl) (fun _=>rfl) (by simp[V.bdL])
 have h26:=a26 (v:=v)
 generalize glK v=g at *
 have h50:=fun(a:Row) (hl:a.length<140737488355328) (st:St)=>f23 (st:=st) hl
 have hL:=h50 thL (by decide)
 have hC:=h50 (thC.getD 1 []) (by decide)
 have hA1:=h50 (thA.getD 1 []) (by decide)
 have hA2:=h50 (thA.getD 2 []) (by decide)
 have hM1:=h50 (thM.getD 1 []) (by decide)
 have hM2:=h50 (thM.getD 2 []) (by decide)
 have hP1:=h50 (thP.getD 1 []) (by decide)
 have hs:thS.v=.agg [.str thS.title,.sl (thS.curves.map Pt.vs),.sl (thS.profs.map Prof.v),.sl (thS.fixts.map Fixt.v),.sl (thS.grps.map Grp.v),.sl (thS.pals.map Pal.v),.sl (thS.lsts.map Lst.v),.sl (thS.subs.map Sb.v),.sl (thS.effs.map Eff.v)]:=rfl
 simp only[tabR,tabV,rowV,argM,hs,thH,thL,thC,thA,thM,thP,List.map_cons,List.map_nil,List.getD_cons_succ,List.getD_cons_zero]at h49 h16 h23 h21 h32 h35 h26 hL hC hA1 hA2 hM1 hM2 hP1
 generalize thS.title=t1 at *
 generalize thS.curves=t2 at *
 generalize thS.profs=t3 at *
 generalize thS.fixts=t4 at *
 generalize thS.grps=t5 at *
 generalize thS.pals=t6 at *
 generalize thS.lsts=t7 at *
 generalize thS.subs=t8 at *
 generalize thS.effs=t9 at *
 rw[run_shut F5 rfl rfl rfl]
 push_cast at h49 h16 h23 h21 h32 h35 h26 hL hC hA1 hA2 hM1 hM2 hP1
 push_cast[h49,h16,h23,h21,h32,h35,h26,hL,hC,hA1,hA2,hM1,hM2,hP1,List.length_cons,List.length_nil,List.getD_cons_succ,List.getD_cons_zero]
end Go.Proofs.YtkpcomdhdjihlaaGreatDoor

namespace Go.Proofs.YtkpcomdhdjihlaaGreatDoor
open Go.Sha
set_option maxRecDepth 10000
theorem F61:compF Tryz.prog 61=some ⟨13,[.tmp 4,.tmp 5,.tmp 6],(.g [.s 4 (.mv (.w [])),.s 5 (.mv (.w [])),.k 6 false] (.g [.m 7 0,.m 8 1,.g' 9 120 7 8,.j 10 0 9,.j 11 1 9,.j 12 2 9,.m 4 10,.m 5 11,.m 6 12] (.ret [4,5,6])))⟩:=by kernel_rfl
theorem F65:compF Tryz.prog 65=some ⟨8,[.tmp 4],(.g [.k 4 false] (.g [.m 5 0,.m 6 1,.g' 7 123 5 6,.m 4 7] (.ret [4])))⟩:=by kernel_rfl
theorem F121:compF Tryz.prog 121=some ⟨9,[.tmp 4],(.g [.k 4 false] (.g [.m 5 0,.m 6 1,.g' 7 169 5 6,.v 8 .geq 7 0,.m 4 8] (.ret [4])))⟩:=by kernel_rfl
theorem F120:compF Tryz.prog 120=some ⟨23,[.tmp 4,.tmp 5,.tmp 6],(.g [.s 4 (.mv (.w [])),.s 5 (.mv (.w [])),.k 6 false] (.join [0] (.g [.m 8 0,.m 9 1,.g' 10 184 8 9,.m 7 10] (.g [.m 11 7,.v 12 .geq 11 0] (.i 12 (.q (.dreg 12 [.m 13 0,.m 14 7,.s 15 (.slices (.t 13) none (some (.t 14))),.m 16 0,.m 17 7,.m 18 1,.s 19 (.lens (.t 18)),.b 20 .add 17 19,.s 21 (.slices (.t 16) (some (.t 20)) none),.m 4 15,.m 5 21,.k 6 true]) (.ret [4,5,6])) .skip))) (.g [.m 22 0,.m 4 22,.s 5 (.mv (.w [])),.k 6 false] (.ret [4,5,6]))))⟩:=by kernel_rfl
theorem F123:compF Tryz.prog 123=some ⟨21,[.tmp 4],(.g [.k 4 false] (.join [4] (.reg [.m 5 0,.s 6 (.lens (.t 5)),.m 7 1,.s 8 (.lens (.t 7)),.b 9 .geq 6 8,.m 10 9,.my 11 0 10,.my 12 0 10,.y 13 (.lens (.t 12)) 10,.my 14 1 10,.y 15 (.lens (.t 14)) 10,.by' 16 .sub 13 15 10,.y 17 (.slices (.t 11) (some (.t 16)) none) 10,.my 18 1 10,.by' 19 .eql 17 18 10,.e 20 10 19,.m 4 20]) (.ret [4])))⟩:=by kernel_rfl
theorem F169:compF Tryz.prog 169=some ⟨8,[.tmp 4],(.g [.c 4 0] (.g [.m 5 0,.m 6 1,.s 7 (.f 235 [.t 5,.t 6,(.c (.bool true))]),.m 4 7] (.ret [4])))⟩:=by kernel_rfl
theorem F323:compF Tryz.prog 323=some ⟨43,[.tmp 4],(.g [.s 4 (.mv (.w []))] (.join [0,1] (.join [0,1,12] (.reg [.m 7 0,.s 8 (.bin .eql (.t 7) (.w [])),.m 9 8,.mx 10 1 9,.x 11 (.bin .eql (.t 10) (.w [])) 9,.o 12 9 11]) (.i 12 (.g [.m 13 0,.m 4 13] (.ret [4])) .skip)) (.join [0,1] (.join [0,1,21] (.reg [.m 14 1,.s 15 (.lens (.t 14)),.v 16 .eql 15 1,.m 17 16,.my 18 1 17,.y 19 (.ichr (.t 18) (.i 0)) 17,.y 20 (.bin .lss (.t 19) (.c (.int .u8 128))) 17,.e 21 17 20]) (.i 21 (.q (.dreg 8 [.m 22 0,.m 23 1,.s 24 (.ichr (.t 23) (.i 0)),.g' 25 108 22 24,.m 26 1,.s 27 (.ichr (.t 26) (.i 0)),.g' 28 356 25 27,.m 4 28]) (.ret [4])) .skip)) (.join [0,1] (.g [.m 30 1,.f 31 109 30,.m 29 31,.j 32 0 29,.j 33 1 29,.s 5 (.alloc 200 (List.replicate 256 (.bool false))),.w 256 5 32,.m 6 33] (.z [5] (.g [.m 34 6] (.i 34 (.g [.m 35 0,.g' 36 110 35 5,.g' 37 357 36 5,.m 4 37] (.ret [4])) .skip)))) (.g [.m 38 0,.m 39 1,.g' 40 111 38 39,.m 41 1,.g' 42 358 40 41,.m 4 42] (.ret [4]))))))⟩:=by kernel_rfl
def B357_0:Cd:=(.join [0,1] (.g [.m 5 0,.s 6 (.lens (.t 5)),.v 7 .gtr 6 0] (.i 7 .skip (.exit [0] 0))) (.block 1 (.join [0,1] (.g [.m 8 1,.m 9 0,.s 10 (.ichr (.t 9) (.i 0)),.g' 11 175 8 10,.z 12 11] (.i 12 (.exit [0] 0) .skip)) (.reg [.m 13 0,.s 14 (.slices (.t 13) (some (.i 1)) none),.m 0 14]))))
theorem F357:compF Tryz.prog 357=some ⟨16,[.tmp 4],(.g [.s 4 (.mv (.w []))] (.join [0] (.block 0 (.loop [0,1] [] B357_0)) (.g [.m 15 0,.m 4 15] (.ret [4]))))⟩:=by kernel_rfl
def B110_0:Cd:=(.join [0,1] (.g [.m 5 0,.s 6 (.lens (.t 5)),.v 7 .gtr 6 0] (.i 7 .skip (.exit [0] 0))) (.block 1 (.join [0,1] (.g [.m 8 1,.m 9 0,.m 10 0,.s 11 (.lens (.t 10)),.v 12 .sub 11 1,.s 13 (.ichr (.t 9) (.t 12)),.g' 14 175 8 13,.z 15 14] (.i 15 (.exit [0] 0) .skip)) (.reg [.m 16 0,.m 17 0,.s 18 (.lens (.t 17)),.v 19 .sub 18 1,.s 20 (.slices (.t 16) none (some (.t 19))),.m 0 20]))))
theorem F110:compF Tryz.prog 110=some ⟨22,[.tmp 4],(.g [.s 4 (.mv (.w []))] (.join [0] (.block 0 (.loop [0,1] [] B110_0)) (.g [.m 21 0,.m 4 21] (.ret [4]))))⟩:=by kernel_rfl
theorem F175:compF Tryz.prog 175=some ⟨10,[.tmp 4],(.g [.k 4 false] (.g [.m 5 0,.m 6 1,.s 7 (.k 5),.s 8 (.iadra 256 1 (.t 7) (.t 6)),.l 9 8,.m 4 9] (.ret [4])))⟩:=by kernel_rfl
end Go.Proofs.YtkpcomdhdjihlaaGreatDoor

namespace Go.Proofs
open Go.Shelf
def Tryz.lays156_ren:Go.Shelf.Ren:=⟨fun|156=>59|165=>106|166=>51|169=>54|240=>103|241=>174|276=>170|277=>236|n=>n,fun|31=>58|9=>9|3=>3|4=>4|0=>0|20=>20|72=>131|76=>134|70=>128|37=>129|75=>133|127=>205|164=>249|5=>5|80=>138|n=>n,fun|n=>n⟩
theorem Tryz.lays156:Go.Proofs.Lays.n156 Tryz.prog Tryz.lays156_ren:={
 mixed:=by kernel_rfl
 f156:=Tryz.func59.trans (congrArg some (by kernel_rfl))
 f165:=Tryz.func106.trans (congrArg some (by kernel_rfl))
 f166:=Tryz.func51.trans (congrArg some (by kernel_rfl))
 f169:=Tryz.func54.trans (congrArg some (by kernel_rfl))
 f240:=Tryz.func103.trans (congrArg some (by kernel_rfl))
 f241:=Tryz.func174.trans (congrArg some (by kernel_rfl))
 f276:=Tryz.func170.trans (congrArg some (by kernel_rfl))
 f277:=Tryz.func236.trans (congrArg some (by kernel_rfl))
 t0:=Tryz.underlying0
 a0:=Tryz.isAgg0
 z0:=Tryz.sizeOf0
 v0:=Tryz.zeroValue0
 t3:=Tryz.underlying3
 a3:=Tryz.isAgg3
 z3:=Tryz.sizeOf3
 v3:=Tryz.zeroValue3
 t4:=Tryz.underlying4
 a4:=Tryz.isAgg4
 z4:=Tryz.sizeOf4
 v4:=Tryz.zeroValue4
 t9:=Tryz.underlying9
 a9:=Tryz.isAgg9
 z9:=Tryz.sizeOf9
 v9:=Tryz.zeroValue9
 t20:=Tryz.underlying20
 a20:=Tryz.isAgg20
 z20:=Tryz.sizeOf20
 v20:=Tryz.zeroValue20
 t31:=Tryz.underlying58
 a31:=Tryz.isAgg58
 z31:=Tryz.sizeOf58
 v31:=Tryz.zeroValue58
 t37:=Tryz.underlying129
 a37:=Tryz.isAgg129
 z37:=Tryz.sizeOf129
 v37:=Tryz.zeroValue129
 t70:=Tryz.underlying128
 a70:=Tryz.isAgg128
 z70:=Tryz.sizeOf128
 v70:=Tryz.zeroValue128
 t72:=Tryz.underlying131
 a72:=Tryz.isAgg131
 z72:=Tryz.sizeOf131
 v72:=Tryz.zeroValue131
 t75:=Tryz.underlying133
 a75:=Tryz.isAgg133
 z75:=Tryz.sizeOf133
 v75:=Tryz.zeroValue133
 t76:=Tryz.underlying134
 a76:=Tryz.isAgg134
 z76:=Tryz.sizeOf134
 v76:=Tryz.zeroValue134
 t127:=Tryz.underlying205
 a127:=Tryz.isAgg205
 z127:=Tryz.sizeOf205
 v127:=Tryz.zeroValue205
 t164:=Tryz.underlying249
 a164:=Tryz.isAgg249
 z164:=Tryz.sizeOf249
 v164:=Tryz.zeroValue249 }
theorem Tryz.Builder_Extra_156:Builder.Extra Tryz.prog Tryz.lays156_ren:={
 sizeBuilder:=by kernel_rfl
 liesBuilder:=by kernel_rfl
 t5:=Tryz.underlying5
 a5:=Tryz.isAgg5
 z5:=Tryz.sizeOf5
 v5:=Tryz.zeroValue5
 infoByte:=by kernel_rfl
 cellsByte:=by kernel_rfl
 sizeByte:=by kernel_rfl
 neB5:=by decide }
open Go.RowKit in
theorem Tryz.strings_Join_none (a:Option Addr)(c:Nat)(sep:ByteArray)(w:World) :
  Calls Tryz.prog 59 #[.slice a 0 c,.string sep] w fun e w'=>e=.returned (.string ⟨#[]⟩)∧w'=w:=Any.strings_Join_none Tryz.lays156 Tryz.Builder_Extra_156 a c sep w
open Go.RowKit in
theorem Tryz.strings_Join (bk o c:Nat)(xs:List ByteArray)(sep:ByteArray)(w:World)(hcells:∀(j:Nat) x,xs[j]?=some x→w.cell? ⟨bk,o+j,none⟩=some (.string x))(hbk:bk<w.heap.size)(hN:xs.length≤140737488355328)(hcap:xs.length≤c)(hlen:(Lib.join (xs.map (·.data.toList)) sep.data.toList).length≤140737488355328) :
  Calls Tryz.prog 59 #[.slice (some ⟨bk,o,none⟩) xs.length c,.string sep] w fun e w'=>e=.returned (.string ⟨(Lib.join (xs.map (·.data.toList)) sep.data.toList).toArray⟩)∧Below w.heap.size w w':=Any.strings_Join Tryz.lays156 Tryz.Builder_Extra_156 bk o c xs sep w hcells hbk hN hcap hlen
def Tryz.laysM171_ren:Go.Shelf.Ren:=⟨fun|171=>72|243=>131|246=>201|283=>262|284=>263|285=>264|286=>265|129=>200|317=>310|318=>311|319=>312|320=>313|337=>348|338=>349|n=>n,fun|3=>3|9=>9|2=>2|4=>4|171=>324|0=>0|53=>254|37=>129|5=>5|173=>326|212=>370|51=>251|20=>20|213=>371|46=>193|232=>411|233=>412|n=>n,fun|17=>3|18=>6|19=>7|n=>n⟩
theorem Tryz.laysM171:Go.Proofs.LaysM.n171 Tryz.prog Tryz.laysM171_ren:={
 mixed:=by kernel_rfl
 f129:=Tryz.func200.trans (congrArg some (by kernel_rfl))
 f171:=Tryz.func72.trans (congrArg some (by kernel_rfl))
 f243:=Tryz.func131.trans (congrArg some (by kernel_rfl))
 f246:=Tryz.func201.trans (congrArg some (by kernel_rfl))
 f283:=Tryz.func262.trans (congrArg some (by kernel_rfl))
 f284:=Tryz.func263.trans (congrArg some (by kernel_rfl))
 f285:=Tryz.func264.trans (congrArg some (by kernel_rfl))
 f286:=Tryz.func265.trans (congrArg some (by kernel_rfl))
 f317:=Tryz.func310.trans (congrArg some (by kernel_rfl))
 f318:=Tryz.func311.trans (congrArg some (by kernel_rfl))
 f319:=Tryz.func312.trans (congrArg some (by kernel_rfl))
 f320:=Tryz.func313.trans (congrArg some (by kernel_rfl))
 f337:=Tryz.func348.trans (congrArg some (by kernel_rfl))
 f338:=Tryz.func349.trans (congrArg some (by kernel_rfl))
 t0:=Tryz.underlying0
 a0:=Tryz.isAgg0
 z0:=Tryz.sizeOf0
 v0:=Tryz.zeroValue0
 t2:=Tryz.underlying2
 a2:=Tryz.isAgg2
 z2:=Tryz.sizeOf2
 v2:=Tryz.zeroValue2
 t3:=Tryz.underlying3
 a3:=Tryz.isAgg3
 z3:=Tryz.sizeOf3
 v3:=Tryz.zeroValue3
 t4:=Tryz.underlying4
 a4:=Tryz.isAgg4
 z4:=Tryz.sizeOf4
 v4:=Tryz.zeroValue4
 t5:=Tryz.underlying5
 a5:=Tryz.isAgg5
 z5:=Tryz.sizeOf5
 v5:=Tryz.zeroValue5
 t9:=Tryz.underlying9
 a9:=Tryz.isAgg9
 z9:=Tryz.sizeOf9
 v9:=Tryz.zeroValue9
 t20:=Tryz.underlying20
 a20:=Tryz.isAgg20
 z20:=Tryz.sizeOf20
 v20:=Tryz.zeroValue20
 t37:=Tryz.underlying129
 a37:=Tryz.isAgg129
 z37:=Tryz.sizeOf129
 v37:=Tryz.zeroValue129
 t46:=Tryz.underlying193
 a46:=Tryz.isAgg193
 z46:=Tryz.sizeOf193
 v46:=Tryz.zeroValue193
 t51:=Tryz.underlying251
 a51:=Tryz.isAgg251
 z51:=Tryz.sizeOf251
 v51:=Tryz.zeroValue251
 t53:=Tryz.underlying254
 a53:=Tryz.isAgg254
 z53:=Tryz.sizeOf254
 v53:=Tryz.zeroValue254
 t171:=Tryz.underlying324
 a171:=Tryz.isAgg324
 z171:=Tryz.sizeOf324
 v171:=Tryz.zeroValue324
 t173:=Tryz.underlying326
 a173:=Tryz.isAgg326
 z173:=Tryz.sizeOf326
 v173:=Tryz.zeroValue326
 t212:=Tryz.underlying370
 a212:=Tryz.isAgg370
 z212:=Tryz.sizeOf370
 v212:=Tryz.zeroValue370
 t213:=Tryz.underlying371
 a213:=Tryz.isAgg371
 z213:=Tryz.sizeOf371
 t232:=Tryz.underlying411
 a232:=Tryz.isAgg411
 z232:=Tryz.sizeOf411
 v232:=Tryz.zeroValue411
 t233:=Tryz.underlying412
 a233:=Tryz.isAgg412
 z233:=Tryz.sizeOf412
 v233:=Tryz.zeroValue412
 g17:=by kernel_rfl
 g18:=by kernel_rfl
 g19:=by kernel_rfl
 i0:=by kernel_rfl
 i2:=by kernel_rfl
 i3:=by kernel_rfl
 i4:=by kernel_rfl
 i5:=by kernel_rfl
 i9:=by kernel_rfl
 i20:=by kernel_rfl
 i37:=by kernel_rfl
 i46:=by kernel_rfl
 i51:=by kernel_rfl
 i53:=by kernel_rfl
 i171:=by kernel_rfl
 i173:=by kernel_rfl
 i212:=by kernel_rfl
 i232:=by kernel_rfl
 i233:=by kernel_rfl
 m17:=by kernel_rfl
 m18:=by kernel_rfl
 m19:=by kernel_rfl }
open Go.RowKit Go.Sort Go.Lib in
theorem Tryz.strconv_Itoa (n:Int)(h0:-9223372036854775808≤n)(h1:n≤9223372036854775807)(w:World)(htab:Lib.TabIs Tryz.prog w "internal/strconv.uint64pow10" .u64 Lib.pow10Tab) :
  Calls Tryz.prog 72 #[.int .i64 n] w fun e w'=>e=.returned (.string ⟨(Lib.itoa n).toArray⟩)∧∃k os,w'=grow (w.drewN k) os:=Any.strconv_Itoa Tryz.laysM171 n h0 h1 w htab
def Tryz.laysC172_ren:Go.Shelf.Ren:=⟨fun|172=>372|244=>380|245=>381|247=>385|279=>386|280=>387|281=>388|282=>389|287=>390|316=>391|171=>72|205=>392|321=>393|322=>394|243=>131|246=>201|283=>262|284=>263|285=>264|286=>265|129=>200|317=>310|318=>311|319=>312|320=>313|337=>348|338=>349|n=>n,fun|9=>9|3=>3|75=>133|76=>134|4=>4|5=>5|167=>425|37=>129|0=>0|85=>426|2=>2|168=>428|53=>254|175=>431|46=>193|210=>435|127=>205|145=>440|143=>438|21=>21|171=>324|173=>326|212=>370|51=>251|20=>20|213=>371|232=>411|233=>412|80=>138|n=>n,fun|15=>8|16=>9|17=>3|18=>6|19=>7|n=>n⟩
theorem Tryz.laysC172:Go.Proofs.LaysC.n172 Tryz.prog Tryz.laysC172_ren:={
 mixed:=by kernel_rfl
 f129:=Tryz.func200.trans (congrArg some (by kernel_rfl))
 f171:=Tryz.func72.trans (congrArg some (by kernel_rfl))
 f172:=Tryz.func372.trans (congrArg some (by kernel_rfl))
 f205:=Tryz.func392.trans (congrArg some (by kernel_rfl))
 f243:=Tryz.func131.trans (congrArg some (by kernel_rfl))
 f244:=Tryz.func380.trans (congrArg some (by kernel_rfl))
 f245:=Tryz.func381.trans (congrArg some (by kernel_rfl))
 f246:=Tryz.func201.trans (congrArg some (by kernel_rfl))
 f247:=Tryz.func385.trans (congrArg some (by kernel_rfl))
 f279:=Tryz.func386.trans (congrArg some (by kernel_rfl))
 f280:=Tryz.func387.trans (congrArg some (by kernel_rfl))
 f281:=Tryz.func388.trans (congrArg some (by kernel_rfl))
 f282:=Tryz.func389.trans (congrArg some (by kernel_rfl))
 f283:=Tryz.func262.trans (congrArg some (by kernel_rfl))
 f284:=Tryz.func263.trans (congrArg some (by kernel_rfl))
 f285:=Tryz.func264.trans (congrArg some (by kernel_rfl))
 f286:=Tryz.func265.trans (congrArg some (by kernel_rfl))
 f287:=Tryz.func390.trans (congrArg some (by kernel_rfl))
 f316:=Tryz.func391.trans (congrArg some (by kernel_rfl))
 f317:=Tryz.func310.trans (congrArg some (by kernel_rfl))
 f318:=Tryz.func311.trans (congrArg some (by kernel_rfl))
 f319:=Tryz.func312.trans (congrArg some (by kernel_rfl))
 f320:=Tryz.func313.trans (congrArg some (by kernel_rfl))
 f321:=Tryz.func393.trans (congrArg some (by kernel_rfl))
 f322:=Tryz.func394.trans (congrArg some (by kernel_rfl))
 f337:=Tryz.func348.trans (congrArg some (by kernel_rfl))
 f338:=Tryz.func349.trans (congrArg some (by kernel_rfl))
 t0:=Tryz.underlying0
 a0:=Tryz.isAgg0
 z0:=Tryz.sizeOf0
 v0:=Tryz.zeroValue0
 t2:=Tryz.underlying2
 a2:=Tryz.isAgg2
 z2:=Tryz.sizeOf2
 v2:=Tryz.zeroValue2
 t3:=Tryz.underlying3
 a3:=Tryz.isAgg3
 z3:=Tryz.sizeOf3
 v3:=Tryz.zeroValue3
 t4:=Tryz.underlying4
 a4:=Tryz.isAgg4
 z4:=Tryz.sizeOf4
 v4:=Tryz.zeroValue4
 t5:=Tryz.underlying5
 a5:=Tryz.isAgg5
 z5:=Tryz.sizeOf5
 v5:=Tryz.zeroValue5
 t9:=Tryz.underlying9
 a9:=Tryz.isAgg9
 z9:=Tryz.sizeOf9
 v9:=Tryz.zeroValue9
 t20:=Tryz.underlying20
 a20:=Tryz.isAgg20
 z20:=Tryz.sizeOf20
 v20:=Tryz.zeroValue20
 t21:=Tryz.underlying21
 a21:=Tryz.isAgg21
 z21:=Tryz.sizeOf21
 v21:=Tryz.zeroValue21
 t37:=Tryz.underlying129
 a37:=Tryz.isAgg129
 z37:=Tryz.sizeOf129
 v37:=Tryz.zeroValue129
 t46:=Tryz.underlying193
 a46:=Tryz.isAgg193
 z46:=Tryz.sizeOf193
 v46:=Tryz.zeroValue193
 t51:=Tryz.underlying251
 a51:=Tryz.isAgg251
 z51:=Tryz.sizeOf251
 v51:=Tryz.zeroValue251
 t53:=Tryz.underlying254
 a53:=Tryz.isAgg254
 z53:=Tryz.sizeOf254
 v53:=Tryz.zeroValue254
 t75:=Tryz.underlying133
 a75:=Tryz.isAgg133
 z75:=Tryz.sizeOf133
 v75:=Tryz.zeroValue133
 t76:=Tryz.underlying134
 a76:=Tryz.isAgg134
 z76:=Tryz.sizeOf134
 v76:=Tryz.zeroValue134
 t85:=Tryz.underlying426
 a85:=Tryz.isAgg426
 z85:=Tryz.sizeOf426
 v85:=Tryz.zeroValue426
 t127:=Tryz.underlying205
 a127:=Tryz.isAgg205
 z127:=Tryz.sizeOf205
 v127:=Tryz.zeroValue205
 t143:=Tryz.underlying438
 a143:=Tryz.isAgg438
 z143:=Tryz.sizeOf438
 v143:=Tryz.zeroValue438
 t145:=Tryz.underlying440
 a145:=Tryz.isAgg440
 z145:=Tryz.sizeOf440
 v145:=Tryz.zeroValue440
 t167:=Tryz.underlying425
 a167:=Tryz.isAgg425
 z167:=Tryz.sizeOf425
 v167:=Tryz.zeroValue425
 t168:=Tryz.underlying428
 a168:=Tryz.isAgg428
 z168:=Tryz.sizeOf428
 v168:=Tryz.zeroValue428
 t171:=Tryz.underlying324
 a171:=Tryz.isAgg324
 z171:=Tryz.sizeOf324
 v171:=Tryz.zeroValue324
 t173:=Tryz.underlying326
 a173:=Tryz.isAgg326
 z173:=Tryz.sizeOf326
 v173:=Tryz.zeroValue326
 t175:=Tryz.underlying431
 a175:=Tryz.isAgg431
 z175:=Tryz.sizeOf431
 v175:=Tryz.zeroValue431
 t210:=Tryz.underlying435
 a210:=Tryz.isAgg435
 z210:=Tryz.sizeOf435
 v210:=Tryz.zeroValue435
 t212:=Tryz.underlying370
 a212:=Tryz.isAgg370
 z212:=Tryz.sizeOf370
 v212:=Tryz.zeroValue370
 t213:=Tryz.underlying371
 a213:=Tryz.isAgg371
 z213:=Tryz.sizeOf371
 t232:=Tryz.underlying411
 a232:=Tryz.isAgg411
 z232:=Tryz.sizeOf411
 v232:=Tryz.zeroValue411
 t233:=Tryz.underlying412
 a233:=Tryz.isAgg412
 z233:=Tryz.sizeOf412
 v233:=Tryz.zeroValue412
 g15:=by kernel_rfl
 g16:=by kernel_rfl
 g17:=by kernel_rfl
 g18:=by kernel_rfl
 g19:=by kernel_rfl
 t80:=Tryz.underlying138
 a80:=Tryz.isAgg138
 z80:=Tryz.sizeOf138
 v80:=Tryz.zeroValue138
 i0:=by kernel_rfl
 i2:=by kernel_rfl
 i3:=by kernel_rfl
 i4:=by kernel_rfl
 i5:=by kernel_rfl
 i9:=by kernel_rfl
 i20:=by kernel_rfl
 i21:=by kernel_rfl
 i37:=by kernel_rfl
 i46:=by kernel_rfl
 i51:=by kernel_rfl
 i53:=by kernel_rfl
 i75:=by kernel_rfl
 i76:=by kernel_rfl
 i80:=by kernel_rfl
 i85:=by kernel_rfl
 i127:=by kernel_rfl
 i143:=by kernel_rfl
 i145:=by kernel_rfl
 i167:=by kernel_rfl
 i168:=by kernel_rfl
 i171:=by kernel_rfl
 i173:=by kernel_rfl
 i175:=by kernel_rfl
 i210:=by kernel_rfl
 i212:=by kernel_rfl
 i232:=by kernel_rfl
 i233:=by kernel_rfl
 m15:=by kernel_rfl
 m16:=by kernel_rfl
 m17:=by kernel_rfl
 m18:=by kernel_rfl
 m19:=by kernel_rfl
 c0:=by kernel_rfl
 c2:=by kernel_rfl
 c3:=by kernel_rfl
 c4:=by kernel_rfl
 c5:=by kernel_rfl
 c9:=by kernel_rfl
 c20:=by kernel_rfl
 c21:=by kernel_rfl
 c37:=by kernel_rfl
 c46:=by kernel_rfl
 c51:=by kernel_rfl
 c53:=by kernel_rfl
 c75:=by kernel_rfl
 c76:=by kernel_rfl
 c80:=by kernel_rfl
 c85:=by kernel_rfl
 c127:=by kernel_rfl
 c143:=by kernel_rfl
 c145:=by kernel_rfl
 c167:=by kernel_rfl
 c168:=by kernel_rfl
 c171:=by kernel_rfl
 c173:=by kernel_rfl
 c175:=by kernel_rfl
 c210:=by kernel_rfl
 c212:=by kernel_rfl
 c213:=by kernel_rfl
 c232:=by kernel_rfl
 c233:=by kernel_rfl }
open Go.RowKit in
theorem Tryz.strconv_Atoi_ok (s:ByteArray)(hmax:s.size≤9223372036854775806)(v:Int)(h:Lib.atoiAll s.data.toList=.ok v)(w:World) :
  Calls Tryz.prog 372 #[.string s] w fun e w'=>e=.returned (.tuple #[.int .i64 v,.nilIface])∧(w'=w∨∃t,w'=Lib.bytesWorld w 5 t):=Any.strconv_Atoi_ok Tryz.laysC172 s hmax v h w
def Tryz.lays219_ren:Go.Shelf.Ren:=⟨fun|219=>184|217=>248|225=>249|224=>250|267=>251|266=>307|314=>308|n=>n,fun|9=>9|3=>3|4=>4|5=>5|46=>193|146=>252|51=>251|n=>n,fun|1=>1|n=>n⟩
theorem Tryz.lays219:Go.Proofs.Lays.n219 Tryz.prog Tryz.lays219_ren:={
 mixed:=by kernel_rfl
 f217:=Tryz.func248.trans (congrArg some (by kernel_rfl))
 f219:=Tryz.func184.trans (congrArg some (by kernel_rfl))
 f224:=Tryz.func250.trans (congrArg some (by kernel_rfl))
 f225:=Tryz.func249.trans (congrArg some (by kernel_rfl))
 f266:=Tryz.func307.trans (congrArg some (by kernel_rfl))
 f267:=Tryz.func251.trans (congrArg some (by kernel_rfl))
 f314:=Tryz.func308.trans (congrArg some (by kernel_rfl))
 t3:=Tryz.underlying3
 a3:=Tryz.isAgg3
 z3:=Tryz.sizeOf3
 v3:=Tryz.zeroValue3
 t4:=Tryz.underlying4
 a4:=Tryz.isAgg4
 z4:=Tryz.sizeOf4
 v4:=Tryz.zeroValue4
 t5:=Tryz.underlying5
 a5:=Tryz.isAgg5
 z5:=Tryz.sizeOf5
 v5:=Tryz.zeroValue5
 t9:=Tryz.underlying9
 a9:=Tryz.isAgg9
 z9:=Tryz.sizeOf9
 v9:=Tryz.zeroValue9
 t46:=Tryz.underlying193
 a46:=Tryz.isAgg193
 z46:=Tryz.sizeOf193
 v46:=Tryz.zeroValue193
 t51:=Tryz.underlying251
 a51:=Tryz.isAgg251
 z51:=Tryz.sizeOf251
 v51:=Tryz.zeroValue251
 t146:=Tryz.underlying252
 a146:=Tryz.isAgg252
 z146:=Tryz.sizeOf252
 v146:=Tryz.zeroValue252
 g1:=by kernel_rfl }
open Go.RowKit Go.Lib in
theorem Tryz.stringslite_Index_one (s:ByteArray)(c:UInt8)(w:World) :
  Calls Tryz.prog 184 #[.string s,.string ⟨#[c]⟩] w fun e w'=>e=.returned (.int .i64 (Lib.indexByte s.data.toList c))∧w'=w:=Any.stringslite_Index_one Tryz.lays219 s c w
def Tryz.lays315_ren:Go.Shelf.Ren:=⟨fun|315=>235|n=>n,fun|9=>9|40=>214|4=>4|3=>3|0=>0|21=>21|n=>n,fun|n=>n⟩
theorem Tryz.lays315:Go.Proofs.Lays.n315 Tryz.prog Tryz.lays315_ren:={
 mixed:=by kernel_rfl
 f315:=Tryz.func235.trans (congrArg some (by kernel_rfl))
 t0:=Tryz.underlying0
 a0:=Tryz.isAgg0
 z0:=Tryz.sizeOf0
 v0:=Tryz.zeroValue0
 t3:=Tryz.underlying3
 a3:=Tryz.isAgg3
 z3:=Tryz.sizeOf3
 v3:=Tryz.zeroValue3
 t4:=Tryz.underlying4
 a4:=Tryz.isAgg4
 z4:=Tryz.sizeOf4
 v4:=Tryz.zeroValue4
 t9:=Tryz.underlying9
 a9:=Tryz.isAgg9
 z9:=Tryz.sizeOf9
 v9:=Tryz.zeroValue9
 t21:=Tryz.underlying21
 a21:=Tryz.isAgg21
 z21:=Tryz.sizeOf21
 v21:=Tryz.zeroValue21
 t40:=Tryz.underlying214
 a40:=Tryz.isAgg214
 z40:=Tryz.sizeOf214
 v40:=Tryz.zeroValue214 }
open Go.RowKit Go.Lib in
theorem Tryz.strings_indexFunc (g:Nat)(lb:Array Value)(eg:∀args w,(callFunc g args).run Tryz.prog w=.ok (.enter g args) w)(p:Nat→Bool)(truth:Bool)(s:ByteArray)(w:World)(hp:PredAt Tryz.prog g lb encR p w) :
  Calls Tryz.prog 235 #[.string s,.func (.func g) #[] lb,.bool truth] w fun e w'=>e=.returned (.int .i64 (Lib.idxFunc p truth s))∧Below w.heap.size w w':=Any.strings_indexFunc Tryz.lays315 g lb eg p truth s w hp
def Tryz.lays157_ren:Go.Shelf.Ren:=⟨fun|157=>138|229=>209|199=>210|261=>271|311=>314|312=>315|n=>n,fun|9=>9|31=>58|3=>3|5=>5|4=>4|119=>284|0=>0|40=>214|152=>333|21=>21|154=>335|51=>251|141=>337|196=>375|193=>372|198=>378|49=>376|194=>373|201=>381|226=>403|46=>193|227=>404|n=>n,fun|0=>0|6=>2|n=>n⟩
theorem Tryz.lays157:Go.Proofs.Lays.n157 Tryz.prog Tryz.lays157_ren:={
 mixed:=by kernel_rfl
 f157:=Tryz.func138.trans (congrArg some (by kernel_rfl))
 f199:=Tryz.func210.trans (congrArg some (by kernel_rfl))
 f229:=Tryz.func209.trans (congrArg some (by kernel_rfl))
 f261:=Tryz.func271.trans (congrArg some (by kernel_rfl))
 f311:=Tryz.func314.trans (congrArg some (by kernel_rfl))
 f312:=Tryz.func315.trans (congrArg some (by kernel_rfl))
 t0:=Tryz.underlying0
 a0:=Tryz.isAgg0
 z0:=Tryz.sizeOf0
 v0:=Tryz.zeroValue0
 t3:=Tryz.underlying3
 a3:=Tryz.isAgg3
 z3:=Tryz.sizeOf3
 v3:=Tryz.zeroValue3
 t4:=Tryz.underlying4
 a4:=Tryz.isAgg4
 z4:=Tryz.sizeOf4
 v4:=Tryz.zeroValue4
 t5:=Tryz.underlying5
 a5:=Tryz.isAgg5
 z5:=Tryz.sizeOf5
 v5:=Tryz.zeroValue5
 t9:=Tryz.underlying9
 a9:=Tryz.isAgg9
 z9:=Tryz.sizeOf9
 v9:=Tryz.zeroValue9
 t21:=Tryz.underlying21
 a21:=Tryz.isAgg21
 z21:=Tryz.sizeOf21
 v21:=Tryz.zeroValue21
 t31:=Tryz.underlying58
 a31:=Tryz.isAgg58
 z31:=Tryz.sizeOf58
 v31:=Tryz.zeroValue58
 t40:=Tryz.underlying214
 a40:=Tryz.isAgg214
 z40:=Tryz.sizeOf214
 v40:=Tryz.zeroValue214
 t46:=Tryz.underlying193
 a46:=Tryz.isAgg193
 z46:=Tryz.sizeOf193
 v46:=Tryz.zeroValue193
 t49:=Tryz.underlying376
 a49:=Tryz.isAgg376
 z49:=Tryz.sizeOf376
 v49:=Tryz.zeroValue376
 t51:=Tryz.underlying251
 a51:=Tryz.isAgg251
 z51:=Tryz.sizeOf251
 v51:=Tryz.zeroValue251
 t119:=Tryz.underlying284
 a119:=Tryz.isAgg284
 z119:=Tryz.sizeOf284
 t141:=Tryz.underlying337
 a141:=Tryz.isAgg337
 z141:=Tryz.sizeOf337
 v141:=Tryz.zeroValue337
 t152:=Tryz.underlying333
 a152:=Tryz.isAgg333
 z152:=Tryz.sizeOf333
 v152:=Tryz.zeroValue333
 t154:=Tryz.underlying335
 a154:=Tryz.isAgg335
 z154:=Tryz.sizeOf335
 v154:=Tryz.zeroValue335
 t193:=Tryz.underlying372
 a193:=Tryz.isAgg372
 z193:=Tryz.sizeOf372
 v193:=Tryz.zeroValue372
 t194:=Tryz.underlying373
 a194:=Tryz.isAgg373
 z194:=Tryz.sizeOf373
 v194:=Tryz.zeroValue373
 t196:=Tryz.underlying375
 a196:=Tryz.isAgg375
 z196:=Tryz.sizeOf375
 v196:=Tryz.zeroValue375
 t198:=Tryz.underlying378
 a198:=Tryz.isAgg378
 z198:=Tryz.sizeOf378
 v198:=Tryz.zeroValue378
 t201:=Tryz.underlying381
 a201:=Tryz.isAgg381
 z201:=Tryz.sizeOf381
 v201:=Tryz.zeroValue381
 t226:=Tryz.underlying403
 a226:=Tryz.isAgg403
 z226:=Tryz.sizeOf403
 v226:=Tryz.zeroValue403
 t227:=Tryz.underlying404
 a227:=Tryz.isAgg404
 z227:=Tryz.sizeOf404
 v227:=Tryz.zeroValue404
 g0:=by kernel_rfl
 g6:=by kernel_rfl }
open Go.RowKit Go.Lib in
theorem Tryz.strings_Fields (s:ByteArray)(w:World)(hs:s.size<4294967281)(hascii:∀(j:Nat) b,s.data.toList[j]?=some b→b.toNat<128)(htab:Lib.TabIs Tryz.prog w "strings.asciiSpace" .u8 Lib.asciiSpaceTab) :
  Calls Tryz.prog 138 #[.string s] w fun e w' =>
   e=.returned (.slice (some ⟨w.heap.size,0,none⟩) (Lib.fields s.data.toList).length (Lib.fields s.data.toList).length)∧w'=w.alloc (.cells ((Lib.fields s.data.toList).map fun l=>Value.string ⟨l.toArray⟩).toArray 9):=Any.strings_Fields Tryz.lays157 (by kernel_rfl) (by kernel_rfl) s w hs hascii htab
def Tryz.lays227_ren:Go.Shelf.Ren:=⟨fun|227=>109|n=>n,fun|9=>9|116=>200|4=>4|0=>0|3=>3|5=>5|n=>n,fun|n=>n⟩
theorem Tryz.lays227:Go.Proofs.Lays.n227 Tryz.prog Tryz.lays227_ren:={
 mixed:=by kernel_rfl
 f227:=Tryz.func109.trans (congrArg some (by kernel_rfl))
 t0:=Tryz.underlying0
 a0:=Tryz.isAgg0
 z0:=Tryz.sizeOf0
 v0:=Tryz.zeroValue0
 t3:=Tryz.underlying3
 a3:=Tryz.isAgg3
 z3:=Tryz.sizeOf3
 v3:=Tryz.zeroValue3
 t4:=Tryz.underlying4
 a4:=Tryz.isAgg4
 z4:=Tryz.sizeOf4
 v4:=Tryz.zeroValue4
 t5:=Tryz.underlying5
 a5:=Tryz.isAgg5
 z5:=Tryz.sizeOf5
 v5:=Tryz.zeroValue5
 t9:=Tryz.underlying9
 a9:=Tryz.isAgg9
 z9:=Tryz.sizeOf9
 v9:=Tryz.zeroValue9
 t116:=Tryz.underlying200
 a116:=Tryz.isAgg200
 z116:=Tryz.sizeOf200 }
open Go.RowKit Go.Lib in
theorem Tryz.strings_makeASCIISet (hv116:∀w,(zeroValue 200).run Tryz.prog w=.ok (.agg (Array.replicate 256 (.bool false))) w)(chars:ByteArray)(w:World)(hs:chars.size<4294967281)(hascii:∀(j:Nat) b,chars.data.toList[j]?=some b→b.toNat<128) :
  Calls Tryz.prog 109 #[.string chars] w fun e w'=>e=.returned (.tuple #[.agg (Lib.setCells chars.data.toList),.bool true])∧w'=w.alloc (.cells (Lib.setCells chars.data.toList) 200):=Any.strings_makeASCIISet Tryz.lays227 hv116 (by kernel_rfl) chars w hs hascii
def Tryz.lays105_ren:Go.Shelf.Ren:=⟨fun|105=>52|212=>104|99=>105|165=>106|166=>51|170=>107|169=>54|263=>171|264=>172|206=>173|240=>103|241=>174|276=>170|277=>236|n=>n,fun|9=>9|3=>3|4=>4|20=>20|0=>0|46=>193|109=>194|5=>5|72=>131|76=>134|51=>251|146=>252|53=>254|148=>255|70=>128|37=>129|75=>133|127=>205|164=>249|80=>138|n=>n,fun|n=>n⟩
theorem Tryz.lays105:Go.Proofs.Lays.n105 Tryz.prog Tryz.lays105_ren:={
 mixed:=by kernel_rfl
 f99:=Tryz.func105.trans (congrArg some (by kernel_rfl))
 f105:=Tryz.func52.trans (congrArg some (by kernel_rfl))
 f165:=Tryz.func106.trans (congrArg some (by kernel_rfl))
 f166:=Tryz.func51.trans (congrArg some (by kernel_rfl))
 f169:=Tryz.func54.trans (congrArg some (by kernel_rfl))
 f170:=Tryz.func107.trans (congrArg some (by kernel_rfl))
 f206:=Tryz.func173.trans (congrArg some (by kernel_rfl))
 f212:=Tryz.func104.trans (congrArg some (by kernel_rfl))
 f240:=Tryz.func103.trans (congrArg some (by kernel_rfl))
 f241:=Tryz.func174.trans (congrArg some (by kernel_rfl))
 f263:=Tryz.func171.trans (congrArg some (by kernel_rfl))
 f264:=Tryz.func172.trans (congrArg some (by kernel_rfl))
 f276:=Tryz.func170.trans (congrArg some (by kernel_rfl))
 f277:=Tryz.func236.trans (congrArg some (by kernel_rfl))
 t0:=Tryz.underlying0
 a0:=Tryz.isAgg0
 z0:=Tryz.sizeOf0
 v0:=Tryz.zeroValue0
 t3:=Tryz.underlying3
 a3:=Tryz.isAgg3
 z3:=Tryz.sizeOf3
 v3:=Tryz.zeroValue3
 t4:=Tryz.underlying4
 a4:=Tryz.isAgg4
 z4:=Tryz.sizeOf4
 v4:=Tryz.zeroValue4
 t5:=Tryz.underlying5
 a5:=Tryz.isAgg5
 z5:=Tryz.sizeOf5
 v5:=Tryz.zeroValue5
 t9:=Tryz.underlying9
 a9:=Tryz.isAgg9
 z9:=Tryz.sizeOf9
 v9:=Tryz.zeroValue9
 t20:=Tryz.underlying20
 a20:=Tryz.isAgg20
 z20:=Tryz.sizeOf20
 v20:=Tryz.zeroValue20
 t37:=Tryz.underlying129
 a37:=Tryz.isAgg129
 z37:=Tryz.sizeOf129
 v37:=Tryz.zeroValue129
 t46:=Tryz.underlying193
 a46:=Tryz.isAgg193
 z46:=Tryz.sizeOf193
 v46:=Tryz.zeroValue193
 t51:=Tryz.underlying251
 a51:=Tryz.isAgg251
 z51:=Tryz.sizeOf251
 v51:=Tryz.zeroValue251
 t53:=Tryz.underlying254
 a53:=Tryz.isAgg254
 z53:=Tryz.sizeOf254
 v53:=Tryz.zeroValue254
 t70:=Tryz.underlying128
 a70:=Tryz.isAgg128
 z70:=Tryz.sizeOf128
 v70:=Tryz.zeroValue128
 t72:=Tryz.underlying131
 a72:=Tryz.isAgg131
 z72:=Tryz.sizeOf131
 v72:=Tryz.zeroValue131
 t75:=Tryz.underlying133
 a75:=Tryz.isAgg133
 z75:=Tryz.sizeOf133
 v75:=Tryz.zeroValue133
 t76:=Tryz.underlying134
 a76:=Tryz.isAgg134
 z76:=Tryz.sizeOf134
 v76:=Tryz.zeroValue134
 t109:=Tryz.underlying194
 a109:=Tryz.isAgg194
 z109:=Tryz.sizeOf194
 v109:=Tryz.zeroValue194
 t127:=Tryz.underlying205
 a127:=Tryz.isAgg205
 z127:=Tryz.sizeOf205
 v127:=Tryz.zeroValue205
 t146:=Tryz.underlying252
 a146:=Tryz.isAgg252
 z146:=Tryz.sizeOf252
 v146:=Tryz.zeroValue252
 t148:=Tryz.underlying255
 a148:=Tryz.isAgg255
 z148:=Tryz.sizeOf255
 v148:=Tryz.zeroValue255
 t164:=Tryz.underlying249
 a164:=Tryz.isAgg249
 z164:=Tryz.sizeOf249
 v164:=Tryz.zeroValue249 }
theorem Tryz.Builder_Extra_105:Builder.Extra Tryz.prog Tryz.lays105_ren:={
 sizeBuilder:=by kernel_rfl
 liesBuilder:=by kernel_rfl
 t5:=Tryz.underlying5
 a5:=Tryz.isAgg5
 z5:=Tryz.sizeOf5
 v5:=Tryz.zeroValue5
 infoByte:=by kernel_rfl
 cellsByte:=by kernel_rfl
 sizeByte:=by kernel_rfl
 neB5:=by decide }
open Go.RowKit Go.Lib in
theorem Tryz.strings_Repeat (s:ByteArray)(c:Nat)(w:World)(hc:c≤9223372036854775807)(hlen:s.size*c≤140737488355328) :
  Calls Tryz.prog 52 #[.string s,.int .i64 c] w fun e w'=>e=.returned (.string ⟨(Lib.repeatL s.data.toList c).toArray⟩)∧Below w.heap.size w w':=Any.strings_Repeat Tryz.lays105 Tryz.Builder_Extra_105 s c w hc hlen
def Tryz.laysSort_ren:Go.Shelf.Ren:=⟨fun|6=>70|15=>130|14=>129|28=>199|29=>200|20=>191|21=>192|22=>193|23=>194|24=>195|25=>196|26=>197|27=>198|46=>257|47=>258|48=>259|49=>260|50=>261|57=>309|n=>n,fun|22=>76|24=>71|25=>156|3=>3|39=>193|0=>0|53=>251|55=>254|4=>4|46=>271|45=>270|50=>224|5=>5|9=>9|66=>318|70=>322|76=>367|77=>86|n=>n,fun|n=>n⟩
theorem Tryz.laysSort:Go.Proofs.SlLaysF0.n6 Tryz.prog Tryz.laysSort_ren:={
 mixed:=by kernel_rfl
 f6:=⟨Tryz.f70.name,by decide,Tryz.func70.trans (congrArg some (by kernel_rfl))⟩
 f14:=⟨Tryz.f129.name,by decide,Tryz.func129.trans (congrArg some (by kernel_rfl))⟩
 f15:=Tryz.func130.trans (congrArg some (by kernel_rfl))
 f20:=⟨Tryz.f191.name,by decide,Tryz.func191.trans (congrArg some (by kernel_rfl))⟩
 f21:=⟨Tryz.f192.name,by decide,Tryz.func192.trans (congrArg some (by kernel_rfl))⟩
 f22:=⟨Tryz.f193.name,by decide,Tryz.func193.trans (congrArg some (by kernel_rfl))⟩
 f23:=⟨Tryz.f194.name,by decide,Tryz.func194.trans (congrArg some (by kernel_rfl))⟩
 f24:=⟨Tryz.f195.name,by decide,Tryz.func195.trans (congrArg some (by kernel_rfl))⟩
 f25:=⟨Tryz.f196.name,by decide,Tryz.func196.trans (congrArg some (by kernel_rfl))⟩
 f26:=⟨Tryz.f197.name,by decide,Tryz.func197.trans (congrArg some (by kernel_rfl))⟩
 f27:=⟨Tryz.f198.name,by decide,Tryz.func198.trans (congrArg some (by kernel_rfl))⟩
 f28:=Tryz.func199.trans (congrArg some (by kernel_rfl))
 f29:=Tryz.func200.trans (congrArg some (by kernel_rfl))
 f46:=⟨Tryz.f257.name,by decide,Tryz.func257.trans (congrArg some (by kernel_rfl))⟩
 f47:=Tryz.func258.trans (congrArg some (by kernel_rfl))
 f48:=Tryz.func259.trans (congrArg some (by kernel_rfl))
 f49:=⟨Tryz.f260.name,by decide,Tryz.func260.trans (congrArg some (by kernel_rfl))⟩
 f50:=⟨Tryz.f261.name,by decide,Tryz.func261.trans (congrArg some (by kernel_rfl))⟩
 f57:=⟨Tryz.f309.name,by decide,Tryz.func309.trans (congrArg some (by kernel_rfl))⟩
 t0:=Tryz.underlying0
 a0:=Tryz.isAgg0
 z0:=Tryz.sizeOf0
 v0:=Tryz.zeroValue0
 t3:=Tryz.underlying3
 a3:=Tryz.isAgg3
 z3:=Tryz.sizeOf3
 v3:=Tryz.zeroValue3
 t4:=Tryz.underlying4
 a4:=Tryz.isAgg4
 z4:=Tryz.sizeOf4
 v4:=Tryz.zeroValue4
 t5:=Tryz.underlying5
 a5:=Tryz.isAgg5
 z5:=Tryz.sizeOf5
 v5:=Tryz.zeroValue5
 t9:=Tryz.underlying9
 a9:=Tryz.isAgg9
 z9:=Tryz.sizeOf9
 v9:=Tryz.zeroValue9
 t22:=Tryz.underlying76
 a22:=Tryz.isAgg76
 z22:=Tryz.sizeOf76
 v22:=Tryz.zeroValue76
 t25:=Tryz.underlying156
 a25:=Tryz.isAgg156
 z25:=Tryz.sizeOf156
 v25:=Tryz.zeroValue156
 t39:=Tryz.underlying193
 a39:=Tryz.isAgg193
 z39:=Tryz.sizeOf193
 v39:=Tryz.zeroValue193
 t45:=Tryz.underlying270
 a45:=Tryz.isAgg270
 z45:=Tryz.sizeOf270
 v45:=Tryz.zeroValue270
 t46:=Tryz.underlying271
 a46:=Tryz.isAgg271
 z46:=Tryz.sizeOf271
 v46:=Tryz.zeroValue271
 t50:=Tryz.underlying224
 a50:=Tryz.isAgg224
 z50:=Tryz.sizeOf224
 v50:=Tryz.zeroValue224
 t53:=Tryz.underlying251
 a53:=Tryz.isAgg251
 z53:=Tryz.sizeOf251
 v53:=Tryz.zeroValue251
 t55:=Tryz.underlying254
 a55:=Tryz.isAgg254
 z55:=Tryz.sizeOf254
 v55:=Tryz.zeroValue254
 t66:=Tryz.underlying318
 a66:=Tryz.isAgg318
 z66:=Tryz.sizeOf318
 v66:=Tryz.zeroValue318
 t70:=Tryz.underlying322
 a70:=Tryz.isAgg322
 z70:=Tryz.sizeOf322
 v70:=Tryz.zeroValue322
 t76:=Tryz.underlying367
 a76:=Tryz.isAgg367
 z76:=Tryz.sizeOf367
 v76:=Tryz.zeroValue367
 t77:=Tryz.underlying86
 a77:=Tryz.isAgg86
 z77:=Tryz.sizeOf86
 v77:=Tryz.zeroValue86 }
open Go.RowKit Go.Sort in
theorem Tryz.sort_none (p:Option Addr)(cap:Nat)(fv:Value)(w:World):Calls Tryz.prog 70 #[.slice p 0 cap,fv] w fun e w'=>e=.returned (.tuple #[])∧w'=w:=AnyF.slices_SortFunc_none Tryz.laysSort p cap fv w
open Go.RowKit Go.Sort in
theorem Tryz.sort_total {α:Type}[Inhabited α](aE:∀w,(isAgg 71).run Tryz.prog w=.ok true w)(zE:∀w,(Go.sizeOf 71).run Tryz.prog w=.ok 2 w)(enc:α→List Value)(hk:∀x,(enc x).length=2)(h1:∀x,∀v∈enc x,v.oneCell'=true)(cf:α→α→Int)(hO:SWO (ltOf cf))(hT:∀x y,(ltOf cf) x y=false→(ltOf cf) y x=false→x=y)(g:Nat)(eg:∀args w,(callFunc g args).run Tryz.prog w=.ok (.enter g args) w)(blk off cap:Nat)(d:Array α)(w:World)
  (hcmp:CmpLays Tryz.prog g #[] enc 2 cf blk off d.size w) (hH:HoldsK enc 2 w blk off d) (hblk:blk<w.heap.size) (hsz:d.size<4611686018427387904) :
  Calls Tryz.prog 70 #[.slice (some ⟨blk,off,none⟩) d.size cap,.func (.func g) #[] #[]] w fun e w'=>e=.returned (.tuple #[])∧∃n os,w'=sortWorldK enc 2 w blk off n (d.toList.mergeSort fun x y=>!(ltOf cf) y x).toArray os:=AnyQ.slices_SortFunc_total Tryz.laysSort 2 aE zE enc hk h1 cf hO g #[] blk off cap d w eg hcmp hH hblk hsz hT
end Go.Proofs

namespace Go.Proofs.YtkpcomdhdjihlaaGreatDoor
open Go.Sha Go.RowKit
set_option maxRecDepth 100000
variable {g:List (Nat×Obj)}{n:Nat}
def othR (r:Nat):Bool:=decide (r<48)||decide (57<r)
def setV:List V:=(List.range 256).map fun n=>.bool (nmW.contains n.toUInt8)
def q184:List V→Option VRes
 |[.str s,.str [c]]=>some (.ret (.int .i64 (Lib.indexByte s c)))
 |_=>none
def q109:List V→Option VRes
 |[.str t]=>if t=nmW then some (.ret (.tup [.agg setV,.bool true])) else none
 |_=>none
def q235:List V→Option VRes
 |[.str s,.fn (.func 122) [] [],.bool true]=>some (.ret (.int .i64 (Lib.idxFunc othR true ⟨s.toArray⟩)))
 |_=>none
def HL0:EvF:=⟨[],fun f args st=>(bif Nat.beq f 184 then q184 args else bif Nat.beq f 109 then q109 args else bif Nat.beq f 235 then q235 args else none).map fun r=>(r,st)⟩
@[push_cast]theorem HL0_raw:HL0.raw=[]:=idq rfl
theorem k184 {s:List UInt8}{c:UInt8}{st:St}:run Tryz.prog HL0 184 [.str s,.str [c]] st=some (.ret (.int .i64 (Lib.indexByte s c)),st):=run_H rfl
theorem k109 {st:St}:run Tryz.prog HL0 109 [.str nmW] st=some (.ret (.tup [.agg setV,.bool true]),st):=run_H rfl
theorem k235 {s:List UInt8}{st:St}:run Tryz.prog HL0 235 [.str s,.fn (.func 122) [] [],.bool true] st=some (.ret (.int .i64 (Lib.idxFunc othR true ⟨s.toArray⟩)),st):=run_H rfl
theorem idx_tw {c:UInt8}:∀{s:List UInt8},Lib.indexByte s c=if s.contains c=true then((s.takeWhile (· != c)).length:Int) else -1
 |[]=>rfl
 |b::s=>by
  have ih:=idx_tw (c:=c) (s:=s)
  rw[Lib.indexByte,ih]
  by_cases h:b=c
  ·subst h;simp
  ·have h2:(b == c)=false:=by simpa using h
   have h3:(b != c)=true:=by simpa using h
   rw[h2,List.takeWhile_cons,if_pos h3,List.contains_cons,show(c == b)=false by simpa using fun e=>h e.symm,Bool.false_or,List.length_cons]
   cases s.contains c
   ·rfl
   ·simp only[if_true]
    rw[if_neg (by simp),if_neg (by simp)];omega
theorem drop_tw {p:UInt8→Bool}{s:List UInt8}:s.drop ((s.takeWhile p).length+1)=(s.dropWhile p).drop 1:=by rw[←List.drop_drop,drop_w]
theorem tw_none {c:UInt8}:∀{s:List UInt8},s.contains c=false→s.takeWhile (· != c)=s∧s.dropWhile (· != c)=[]
 |[],_=>⟨rfl,rfl⟩
 |b::r,h=>by
  have hb:(b != c)=true:=by simp at h ⊢;exact fun e=>h.1 e.symm
  have hr:r.contains c=false:=by simp at h ⊢;exact h.2
  have:=tw_none hr
  simp only[List.takeWhile_cons,List.dropWhile_cons,hb,if_true]
  exact⟨by rw[this.1],this.2⟩
theorem k120 {s:List UInt8}{c:UInt8}(hl:s.length<140737488355328){st:St}:run Tryz.prog HL0 120 [.str s,.str [c]] st=some (.ret (.tup [.str (s.takeWhile (· != c)),.str ((s.dropWhile (· != c)).drop 1),.bool (s.contains c)]),st):=by
 have hi:=idx_tw (c:=c) (s:=s)
 have hle:=(List.takeWhile_sublist (· != c) (l:=s)).length_le
 rw[run_shut F120 rfl rfl rfl]
 cases h:s.contains c with
 |true =>
  have hlt:(s.takeWhile (· != c)).length<s.length:=by
   rcases Nat.lt_or_ge (s.takeWhile (· != c)).length s.length with h2|h2
   ·exact h2
   ·have e:s.takeWhile (· != c)=s:=(List.takeWhile_sublist _).eq_of_length (by omega)
    have:=List.all_takeWhile (p:=(· != c)) (l:=s)
    rw[e,List.all_eq_true]at this
    have:=this c (by simpa using h)
    simp at this
  rw[h,if_pos rfl]at hi
  have hd:=drop_tw (p:=(· != c)) (s:=s)
  have ht:=take_w (p:=(· != c)) (s:=s)
  generalize s.takeWhile (· != c)=a at *
  have hw:IntKind.i64.wrap ((a.length:Int)+1)=((a.length+1:Nat):Int):=iwrap (by omega) (by omega)
  push_cast[k184,hi,hw,ht]
  exact dn_eq (by omega) (by rw[List.take_length,show((a.length:Int)+1).toNat=a.length+1 by omega,hd])
 |false =>
  rw[h,if_neg (by simp)]at hi
  obtain⟨e1,e2⟩:=tw_none h
  rw[e1,e2]
  push_cast[k184,hi]
theorem k61 {s:List UInt8}{c:UInt8}(hl:s.length<140737488355328){st:St}:run Tryz.prog HL0 61 [.str s,.str [c]] st=some (.ret (.tup [.str (s.takeWhile (· != c)),.str ((s.dropWhile (· != c)).drop 1),.bool (s.contains c)]),st):=by
 have h:=fun(st:St)=>k120 (c:=c) (st:=st) hl
 rw[run_shut F61 rfl rfl rfl]
 push_cast[h]
theorem k65 {s t:List UInt8}(hl:s.length<140737488355328)(ht:t.length≤s.length+1000){st:St}:run Tryz.prog HL0 65 [.str s,.str t] st=some (.ret (.bool (t.isSuffixOf s)),st):=by
 have h:∀st,run Tryz.prog HL0 123 [.str s,.str t] st=some (.ret (.bool (t.isSuffixOf s)),st):=fun st=>by
  rw[run_shut F123 rfl rfl rfl]
  by_cases h:t.length≤s.length
  ·have h1:(t.length:Int)≤s.length:=by omega
   have hw:IntKind.i64.wrap ((s.length:Int)-t.length)=((s.length-t.length:Nat):Int):=by rw[iwrap (by omega) (by omega)];omega
   have e:t.isSuffixOf s=(s.drop (s.length-t.length) == t):=by
    rw[Bool.eq_iff_iff,List.isSuffixOf_iff_suffix,List.suffix_iff_eq_drop,beq_iff_eq]
    exact⟨fun h=>h.symm,fun h=>h.symm⟩
   have h2:((s.length-t.length:Nat):Int)≤s.length:=by omega
   generalize s.length-t.length=k at *
   push_cast[h1,hw,h2,List.take_length,e]
  ·have h1:¬(t.length:Int)≤s.length:=by omega
   have e:t.isSuffixOf s=false:=by
    rw[←Bool.not_eq_true,List.isSuffixOf_iff_suffix]
    exact fun h2=>h h2.length_le
   push_cast[h1,e]
 rw[run_shut F65 rfl rfl rfl]
 push_cast[h]
theorem oth_from (s:ByteArray):∀(f pos:Nat),s.size≤pos+f→(decide (Lib.idxFuncFrom othR true s f pos<0))=(s.data.toList.drop pos).all isD
 |0,pos,h=>by
  rw[List.drop_eq_nil_of_le (by rw[Array.length_toList];exact h)];rfl
 |f+1,pos,h=>by
  unfold Lib.idxFuncFrom
  by_cases hp:pos<s.size
  ·have hp':pos<s.data.toList.length:=by rw[Array.length_toList];exact hp
   have hb:s.data.toList[pos]'hp'=s[pos]'hp:=rfl
   rw[if_pos hp,List.drop_eq_getElem_cons hp',List.all_cons,hb]
   by_cases ha:(s[pos]'hp).toNat<128
   ·rw[decode_ascii s pos hp ha]
    have ih:=oth_from s f (pos+1) (by omega)
    cases hd:isD (s[pos]'hp) with
    |true =>
     have:¬othR (s[pos]'hp).toNat=true:=by
      simp only[isD,Bool.and_eq_true,decide_eq_true_eq]at hd
      simp only[othR,Bool.or_eq_true,decide_eq_true_eq];omega
     rw[if_neg this,ih];rfl
    |false =>
     have:othR (s[pos]'hp).toNat=true:=by
      simp only[isD,Bool.and_eq_false_iff,decide_eq_false_iff_not]at hd
      simp only[othR,Bool.or_eq_true,decide_eq_true_eq];omega
     rw[if_pos this]
     simp
   ·obtain⟨h1,h2⟩:=decode_high s pos hp (by omega)
    have:othR (Utf8.decode s pos).1=true:=by
     simp only[othR,Bool.or_eq_true,decide_eq_true_eq];omega
    have hd:isD (s[pos]'hp)=false:=by
     simp only[isD,Bool.and_eq_false_iff,decide_eq_false_iff_not];omega
    rw[if_pos this,hd]
    simp
  ·rw[if_neg hp,List.drop_eq_nil_of_le (by rw[Array.length_toList];exact Nat.le_of_not_lt hp)];rfl
theorem oth_idx (s:List UInt8):decide (Lib.idxFunc othR true ⟨s.toArray⟩<0)=s.all isD:=by
 have:=oth_from ⟨s.toArray⟩ s.length 0 (by simp[ByteArray.size])
 simpa [Lib.idxFunc,ByteArray.size] using this
theorem k121 {s:List UInt8}{st:St}:run Tryz.prog HL0 121 [.str s,.fn (.func 122) [] []] st=some (.ret (.bool (s.any (!isD ·))),st):=by
 have h:∀st,run Tryz.prog HL0 169 [.str s,.fn (.func 122) [] []] st=some (.ret (.int .i64 (Lib.idxFunc othR true ⟨s.toArray⟩)),st):=fun st=>by
  rw[run_shut F169 rfl rfl rfl]
  push_cast[k235]
 have e:decide (0≤Lib.idxFunc othR true ⟨s.toArray⟩)=s.any (!isD ·):=by
  have:=oth_idx s
  have h2:decide (0≤Lib.idxFunc othR true ⟨s.toArray⟩)=!(decide (Lib.idxFunc othR true ⟨s.toArray⟩<0)):=by
   rw[Bool.eq_iff_iff];simp
  rw[h2,this,List.not_all_eq_any_not]
 rw[run_shut F121 rfl rfl rfl]
 push_cast[h,e]
theorem setV_len:setV.length=256:=by simp[setV]
theorem setV_bd:V.bdL n setV=true:=by
 have:=bdL_map' (n:=n) (f:=fun k:Nat=>V.bool (nmW.contains k.toUInt8)) (l:=List.range 256)
 rw[setV,this];simp[V.bd]
theorem setV_get (b:UInt8):setV[b.toNat]?=some (.bool (nmW.contains b)):=by
 rw[setV,List.getElem?_map,List.getElem?_range b.toNat_lt];simp
theorem k175 {b:UInt8}{st:St}:run Tryz.prog HL0 175 [.ep (.agg setV) 0,.int .u8 b.toNat] st=some (.ret (.bool (nmW.contains b)),st):=by
 have hb:=b.toNat_lt
 have hg:=setV_get b
 have hl:=setV_len
 have hd:=fun n=>setV_bd (n:=n)
 rw[run_shut F175 rfl rfl (by simp[V.bdL,V.bd,hd])]
 generalize nmW.contains b=c at *
 generalize setV=z at *
 push_cast[hb,hg,hl,hd,Nat.mul_one]
 all_goals exact dn_eq hb rfl
theorem L357:∀{t:List UInt8},t.length<140737488355328→runL Tryz.prog HL0 [0,1] n B357_0 [(0,.str t),(1,.ep (.agg setV) 0)] (stN g n)=some (.exit 0,[(0,.str (t.dropWhile nmW.contains))],stN g n)
 |[],_=>by
  have hd:=fun n=>setV_bd (n:=n)
  rw[runL_of B357_0.eq_1]
  generalize setV=z at *
  push_cast[List.length_nil,List.dropWhile_nil,hd]
 |b::t,hl=>by
  rw[List.length_cons]at hl
  have ih:=L357 (t:=t) (by omega)
  have hd:=fun n=>setV_bd (n:=n)
  have h270:=fun st=>k175 (b:=b) (st:=st)
  rw[runL_of B357_0.eq_1,List.dropWhile_cons]
  generalize nmW.contains b=c at *
  generalize setV=z at *
  have h1:(0:Int)<t.length+1:=by omega
  cases c
  ·push_cast[List.length_cons,hd,h1,h270,List.getD_cons_zero]
  ·push_cast[List.length_cons,hd,h1,h270,List.getD_cons_zero,List.take_length,List.drop_one,List.tail_cons]at ih ⊢
   exact dn_eq (by omega) ih
theorem f357 {t:List UInt8}(hl:t.length<140737488355328){st:St}:run Tryz.prog HL0 357 [.str t,.ep (.agg setV) 0] st=some (.ret (.str (t.dropWhile nmW.contains)),st):=by
 have hd:=fun n=>setV_bd (n:=n)
 have h0:=fun n=>L357 (g:=st.x.gl) (n:=n) hl
 rw[run_shut F357 rfl rfl (by simp[V.bdL,V.bd,hd])]
 generalize setV=z at *
 push_cast at h0
 push_cast[hd,h0]
theorem L110:∀(k:Nat) {t:List UInt8},t.length=k→t.length<140737488355328→runL Tryz.prog HL0 [0,1] n B110_0 [(0,.str t),(1,.ep (.agg setV) 0)] (stN g n)=some (.exit 0,[(0,.str (t.reverse.dropWhile nmW.contains).reverse)],stN g n):=by
 intro k
 induction k with
 |zero =>
  intro t ht hl
  obtain rfl:=List.eq_nil_of_length_eq_zero ht
  have hd:=fun n=>setV_bd (n:=n)
  rw[runL_of B110_0.eq_1]
  generalize setV=z at *
  push_cast[List.length_nil,List.dropWhile_nil,List.reverse_nil,hd]
 |succ k ih =>
  intro t ht hl
  rcases List.eq_nil_or_concat t with rfl|⟨t',b,rfl⟩
  ·simp at ht
  ·rw[List.concat_eq_append]at *
   rw[List.length_append,List.length_singleton]at ht hl
   have ih:=ih (t:=t') (by omega) (by omega)
   have hd:=fun n=>setV_bd (n:=n)
   have h270:=fun st=>k175 (b:=b) (st:=st)
   have hw:IntKind.i64.wrap ((t'.length:Int)+1-1)=((t'.length:Nat):Int):=by rw[iwrap (by omega) (by omega)];omega
   have h1:(0:Int)<t'.length+1:=by omega
   have h2:(t'.length:Int)<t'.length+1:=by omega
   have h3:(t'.length:Int)≤t'.length+1:=by omega
   have h4:List.take t'.length (t'++[b])=t':=List.take_left
   rw[runL_of B110_0.eq_1,List.reverse_append,List.reverse_singleton,List.singleton_append,List.dropWhile_cons]
   generalize nmW.contains b=c at *
   generalize setV=z at *
   cases c
   ·push_cast[List.length_append,List.length_singleton,hd,h1,h2,h3,hw,h270,getD_app,List.reverse_cons,List.reverse_reverse]
   ·push_cast[List.length_append,List.length_singleton,hd,h1,h2,h3,h4,hw,h270,getD_app]at ih ⊢
    exact ih
theorem f110 {t:List UInt8}(hl:t.length<140737488355328){st:St}:run Tryz.prog HL0 110 [.str t,.ep (.agg setV) 0] st=some (.ret (.str (t.reverse.dropWhile nmW.contains).reverse),st):=by
 have hd:=fun n=>setV_bd (n:=n)
 have h0:=fun n=>L110 (g:=st.x.gl) (n:=n) _ rfl hl
 rw[run_shut F110 rfl rfl (by simp[V.bdL,V.bd,hd])]
 generalize setV=z at *
 push_cast at h0
 push_cast[hd,h0]
theorem trim_swap {p:UInt8→Bool}:∀{s:List UInt8},((s.reverse.dropWhile p).reverse).dropWhile p=((s.dropWhile p).reverse.dropWhile p).reverse
 |[]=>rfl
 |b::r=>by
  have ih:=trim_swap (p:=p) (s:=r)
  cases hb:p b with
  |true =>
   have e1:(b::r).dropWhile p=r.dropWhile p:=by simp[hb]
   rw[e1,←ih,List.reverse_cons,List.dropWhile_append]
   cases hx:r.reverse.dropWhile p with
   |nil=>simp[hb]
   |cons y l=>simp[hb,List.dropWhile_cons]
  |false =>
   have e1:(b::r).dropWhile p=b::r:=by simp[hb]
   rw[e1,List.reverse_cons,List.dropWhile_append]
   cases hx:r.reverse.dropWhile p with
   |nil=>simp[hb]
   |cons y l=>simp[hb,List.dropWhile_cons]
theorem k323 {s:List UInt8}(hl:s.length≤24){st:St}:run Tryz.prog HL0 323 [.str s,.str nmW] st=some (.ret (.str (trimB nmW s)),st):=by
 have hd:=fun n=>setV_bd (n:=n)
 have hz:=setV_len
 have h249:=fun st=>k109 (st:=st)
 have h251:=fun st=>f110 (t:=s) (st:=st) (by omega)
 have hle:=(List.dropWhile_sublist nmW.contains (l:=s.reverse)).length_le
 have h250:=fun st=>f357 (t:=(s.reverse.dropWhile nmW.contains).reverse) (st:=st) (by simp at hle ⊢;omega)
 rw[trim_swap]at h250
 rw[run_shut F323 rfl rfl rfl,trimB]
 generalize setV=z at *
 by_cases h0:s=[]
 ·subst h0
  push_cast[List.dropWhile_nil,List.reverse_nil]
 ·push_cast[h0,h249,h250,h251,hd,hz,List.length_replicate,List.drop_replicate,Nat.sub_self,List.replicate_zero,List.append_nil]
theorem callable184:Callable Tryz.prog 184:=⟨_,Tryz.func184,by kernel_rfl,by kernel_rfl⟩
theorem callable109:Callable Tryz.prog 109:=⟨_,Tryz.func109,by kernel_rfl,by kernel_rfl⟩
theorem callable235:Callable Tryz.prog 235:=⟨_,Tryz.func235,by kernel_rfl,by kernel_rfl⟩
theorem callable372:Callable Tryz.prog 372:=⟨_,Tryz.func372,by kernel_rfl,by kernel_rfl⟩
theorem callable70:Callable Tryz.prog 70:=⟨_,Tryz.func70,by kernel_rfl,by kernel_rfl⟩
theorem v184 (s:List UInt8)(c:UInt8)(st:St):VRet Tryz.prog 184 [.str s,.str [c]] st (.int .i64 (Lib.indexByte s c)) st:=by
 refine VRet_of_below callable184 (fun w A vs hw ha=>?_)
 obtain⟨hl,ha⟩:=ha
 match vs,hl with
 |[u,v],_ =>
 have e1:=(ha 0 u _ rfl rfl).str_inv
 have e2:=(ha 1 v _ rfl rfl).str_inv
 subst e1;subst e2
 refine(Tryz.stringslite_Index_one ⟨s.toArray⟩ c w).mono fun e w' ⟨he,hb⟩=>?_
 subst he;subst hb
 exact⟨_,rfl,fun w' A'=>.int _ _,Below.refl _ _⟩
theorem nm_ascii:∀b∈nmW,b.toNat<128:=by decide
theorem v109 (st:St):VRet Tryz.prog 109 [.str nmW] st (.tup [.agg setV,.bool true]) st:=by
 refine VRet_of_below callable109 (fun w A vs hw ha=>?_)
 obtain⟨u,rfl,h1⟩:=ha.one
 have e1:=h1.str_inv
 subst e1
 refine(Tryz.strings_makeASCIISet Tryz.zeroValue200 ⟨nmW.toArray⟩ w (by decide) (fun j b hj=>nm_ascii b (List.mem_of_getElem? hj))).mono fun e w' ⟨he,hb⟩=>?_
 subst he;subst hb
 refine⟨_,rfl,fun w' A'=>?_,Below.alloc (Below.refl _ _) (Nat.le_refl _) _⟩
 have hcell:∀(i:Nat) (v:Value) (c:V),(Lib.setCells nmW).toList[i]?=some v→setV[i]?=some c→Rep w' A' v c∧v.oneCell'=true:=fun i v c hv hc=>by
  have hi:i<256:=by have:=(List.getElem?_eq_some_iff.1 hc).1;rw[setV_len]at this;exact this
  have e2:i.toUInt8.toNat=i:=by simp[Nat.toUInt8,UInt8.toNat_ofNat',Nat.mod_eq_of_lt hi]
  have g1:=Lib.setCells_at nmW i.toUInt8
  have g2:=setV_get i.toUInt8
  rw[e2]at g1 g2
  rw[Array.getElem?_toList,g1]at hv
  rw[g2]at hc
  cases hv;cases hc
  exact⟨.bool _,rfl⟩
 refine .tup [.agg (Lib.setCells nmW),.bool true] [.agg setV,.bool true] rfl (fun i v c h1 h2=>?_)
 match i,h1,h2 with
 |0,h1,h2 =>
  simp at h1 h2;subst h1 h2
  have:=Rep.agg (w:=w') (A:=A') (Lib.setCells nmW).toList setV (by rw[Array.length_toList,Lib.setCells_size,setV_len]) (fun v hv=>by
   obtain⟨i,hi⟩:=List.mem_iff_getElem?.1 hv
   have hlt:i<setV.length:=by rw[setV_len];have:=(List.getElem?_eq_some_iff.1 hi).1;rw[Array.length_toList,Lib.setCells_size]at this;exact this
   exact(hcell i v setV[i] hi (List.getElem?_eq_getElem hlt)).2) (fun i v c hv hc=>(hcell i v c hv hc).1)
  rwa [Array.toArray_toList]at this
 |1,h1,h2=>simp at h1 h2;subst h1 h2;exact .bool _
theorem pred280 (w:World):PredAt Tryz.prog 122 #[] encR othR w:=fun W r _=>by
 unfold FnGives
 by_cases h1:r<48<;>by_cases h2:57<r
 all_goals
  have z1:(r:Int)<48↔r<48:=by omega
  have z2:(57:Int)<(r:Int)↔57<r:=by omega
  go_enter Tryz.func122,Tryz.ntmps122
  go_wp2
  all_goals first|(exfalso;omega)|(go_ret;exact⟨by simp[othR,h1,h2],0,rfl⟩)
theorem v235 (s:List UInt8)(st:St):VRet Tryz.prog 235 [.str s,.fn (.func 122) [] [],.bool true] st (.int .i64 (Lib.idxFunc othR true ⟨s.toArray⟩)) st:=by
 refine VRet_of_below callable235 (fun w A vs hw ha=>?_)
 obtain⟨hl,ha⟩:=ha
 match vs,hl with
 |[v0,v1,v2],_ =>
 have e0:=(ha 0 v0 _ rfl rfl).str_inv
 have r1:=ha 1 v1 _ rfl rfl
 have e2:=(ha 2 v2 _ rfl rfl).bool_inv
 have e1:v1=.func (.func 122) #[] #[]:=by
  cases r1 with
  |fn _ vs us _ _ e1 e2 _ _ =>
   have h1:vs=[]:=List.eq_nil_of_length_eq_zero e1
   have h2:us=[]:=List.eq_nil_of_length_eq_zero e2
   rw[h1,h2]
 subst e0;subst e1;subst e2
 refine(Tryz.strings_indexFunc 122 #[] (enters_of Tryz.func122 (by kernel_rfl) rfl) othR true ⟨s.toArray⟩ w (pred280 w)).mono fun e w' ⟨he,hb⟩=>?_
 subst he
 exact⟨_,rfl,fun w' A'=>.int _ _,hb⟩
theorem HL0_ok:ESound Tryz.prog HL0:=fun f args st r s h=>by
 obtain⟨z,hz,e⟩:=Option.map_eq_some_iff.1 h
 cases e
 by_cases h1:f=184
 ·subst h1
  rw[show Nat.beq 184 184=true from rfl,cond_true]at hz
  unfold q184 at hz
  split at hz<;>cases hz
  exact v184 _ _ _
 rw[show Nat.beq f 184=false from Bool.eq_false_iff.2 fun e=>h1 (Nat.eq_of_beq_eq_true e),cond_false]at hz
 by_cases h2:f=109
 ·subst h2
  rw[show Nat.beq 109 109=true from rfl,cond_true]at hz
  unfold q109 at hz
  split at hz
  ·split at hz
   ·rename_i e;subst e;cases hz;exact v109 _
   ·cases hz
  ·cases hz
 rw[show Nat.beq f 109=false from Bool.eq_false_iff.2 fun e=>h2 (Nat.eq_of_beq_eq_true e),cond_false]at hz
 by_cases h3:f=235
 ·subst h3
  rw[show Nat.beq 235 235=true from rfl,cond_true]at hz
  unfold q235 at hz
  split at hz<;>cases hz
  exact v235 _ _
 rw[show Nat.beq f 235=false from Bool.eq_false_iff.2 fun e=>h3 (Nat.eq_of_beq_eq_true e),cond_false]at hz
 cases hz
end Go.Proofs.YtkpcomdhdjihlaaGreatDoor

namespace Go.Proofs.YtkpcomdhdjihlaaGreatDoor
open Go.Sha Go.RowKit
set_option maxRecDepth 100000
theorem parse_digs:∀(s:List UInt8) (acc:Nat),s.all isD=true→acc<18446744073709551616→Lib.parseUint10 acc s=if s.foldl (fun n b=>10*n+(b.toNat-48)) acc<18446744073709551616 then .ok (s.foldl (fun n b=>10*n+(b.toNat-48)) acc) else .range
 |[],acc,_,h=>by simp[Lib.parseUint10,h]
 |b::s,acc,h,ha=>by
  have mono:∀(s:List UInt8) (n:Nat),n≤s.foldl (fun n b=>10*n+(b.toNat-48)) n:=by
   intro s
   induction s with
   |nil=>intro n;exact Nat.le_refl _
   |cons c s ih=>intro n;rw[List.foldl_cons];refine Nat.le_trans ?_ (ih _);omega
  simp only[List.all_cons,Bool.and_eq_true]at h
  obtain⟨hb,hs⟩:=h
  have hb':48≤b.toNat∧b.toNat≤57:=by
   simp only[isD,Bool.and_eq_true,decide_eq_true_eq]at hb;omega
  rw[Lib.parseUint10,if_pos hb',List.foldl_cons]
  have hm:=mono s (10*acc+(b.toNat-48))
  by_cases h1:1844674407370955162≤acc
  ·rw[if_pos h1,if_neg (by omega)]
  ·rw[if_neg h1]
   by_cases h2:18446744073709551616≤acc*10+(b.toNat-48)
   ·rw[if_pos h2,if_neg (by omega)]
   ·rw[if_neg h2,parse_digs s _ hs (by omega),Nat.mul_comm]
theorem atoi_digs {s:List UInt8}(h0:s≠[])(h:s.all isD=true):Lib.atoiAll s=if natOf s<9223372036854775808 then .ok (natOf s:Int) else .range:=by
 cases s with
 |nil=>exact absurd rfl h0
 |cons b s =>
  have hb:isD b=true:=by simp only[List.all_cons,Bool.and_eq_true]at h;exact h.1
  have hb':48≤b.toNat∧b.toNat≤57:=by
   simp only[isD,Bool.and_eq_true,decide_eq_true_eq]at hb;omega
  rw[Lib.atoiAll_plain b s (by omega) (by omega),Lib.parseMag,if_neg (by simp),parse_digs (b::s) 0 h (by omega)]
  show Lib.signless (if natOf (b::s)<18446744073709551616 then .ok (natOf (b::s)) else .range)=_
  by_cases h1:natOf (b::s)<18446744073709551616
  ·rw[if_pos h1]
   unfold Lib.signless
   by_cases h2:natOf (b::s)<9223372036854775808
   ·rw[if_pos h2];simp only;rw[if_neg (by omega)]
   ·rw[if_neg h2];simp only;rw[if_pos (by omega)]
  ·rw[if_neg h1,if_neg (by omega)];rfl
theorem natOf_lt:∀{s:List UInt8}{n:Nat},s.all isD=true→s.foldl (fun n b=>10*n+(b.toNat-48)) n<(n+1)*10 ^ s.length
 |[],n,_=>by simp
 |b::s,n,h=>by
  simp only[List.all_cons,Bool.and_eq_true]at h
  have hb:b.toNat≤57:=by have:=h.1;simp only[isD,Bool.and_eq_true,decide_eq_true_eq]at this;omega
  have ih:=natOf_lt (s:=s) (n:=10*n+(b.toNat-48)) h.2
  rw[List.foldl_cons,List.length_cons,Nat.pow_succ]
  refine Nat.lt_of_lt_of_le ih ?_
  rw[show(n+1)*(10 ^ s.length*10)=((n+1)*10)*10 ^ s.length by rw[Nat.mul_comm (10 ^ s.length),Nat.mul_assoc]]
  exact Nat.mul_le_mul_right _ (by omega)
theorem v372 (s:List UInt8)(st:St)(h0:s≠[])(h:s.all isD=true)(hl:s.length≤18):VRet Tryz.prog 372 [.str s] st (.tup [.int .i64 (natOf s),.nili]) st:=by
 have hn:natOf s<9223372036854775808:=by
  have h1:=natOf_lt (n:=0) h
  have h2:10 ^ s.length≤10 ^ 18:=Nat.pow_le_pow_right (by omega) hl
  unfold natOf;omega
 refine VRet_of_below callable372 (fun w A vs hw ha=>?_)
 obtain⟨u,rfl,h1⟩:=ha.one
 have e1:=h1.str_inv
 subst e1
 have hat:=atoi_digs h0 h
 rw[if_pos hn]at hat
 refine(Tryz.strconv_Atoi_ok ⟨s.toArray⟩ (by simp[ByteArray.size];omega) (natOf s:Int) (by simpa using hat) w).mono fun e w' ⟨he,hb⟩=>?_
 subst he
 refine⟨_,rfl,fun w' A'=>?_,?_⟩
 ·refine .tup [.int .i64 (natOf s),.nilIface] [.int .i64 (natOf s),.nili] rfl (fun i v c h1 h2=>?_)
  match i,h1,h2 with
  |0,h1,h2=>simp at h1 h2;subst h1 h2;exact .int _ _
  |1,h1,h2=>simp at h1 h2;subst h1 h2;exact .nili
 ·rcases hb with rfl|⟨t,rfl⟩
  ·exact Below.refl _ _
  ·exact Lib.bytesWorld_below w 5 t
open Go.Sort in
def PB:Type:={ p:Prm // 0≤p.chan∧p.chan≤999∧0≤p.attr∧p.attr≤14 }
instance:Inhabited PB:=⟨⟨⟨0,0⟩,by decide⟩⟩
def encP (p:PB):List Value:=[.int .i64 p.1.chan,.int .i64 p.1.attr]
def cmpB (p q:PB):Int:=if p.1.chan≠q.1.chan then p.1.chan-q.1.chan else p.1.attr-q.1.attr
theorem clos57 (x y:PB)(W:World):Calls Tryz.prog 71 #[.agg (encP x).toArray,.agg (encP y).toArray] W fun e w'=>e=.returned (.int .i64 (cmpB x y))∧∃q os',w'=Go.Sort.grow (W.drewN q) os':=by
 obtain⟨⟨a,b⟩,hx⟩:=x
 obtain⟨⟨c,d⟩,hy⟩:=y
 simp only at hx hy
 have w1:IntKind.i64.wrap (a-c)=a-c:=iwrap (by omega) (by omega)
 have w2:IntKind.i64.wrap (b-d)=b-d:=iwrap (by omega) (by omega)
 simp only[encP,cmpB]
 by_cases h:a=c
 ·rw[if_neg (by simp[h])]
  subst h
  go_enter Tryz.func71,Tryz.ntmps71
  go_wp2
  go_ret
  exact⟨rfl,0,_,by rw[Go.Sort.alloc_eq_grow,Go.Sort.alloc_eq_grow,Go.Sort.grow_grow];rfl⟩
 ·rw[if_pos h]
  go_enter Tryz.func71,Tryz.ntmps71
  go_wp2
  go_ret
  exact⟨rfl,0,_,by rw[Go.Sort.alloc_eq_grow,Go.Sort.alloc_eq_grow,Go.Sort.grow_grow];rfl⟩
open Go.Sort Go.Proofs in
theorem lt_B {x y:PB}:ltOf cmpB x y=decide (x.1.chan<y.1.chan∨x.1.chan=y.1.chan∧x.1.attr<y.1.attr):=by
 unfold ltOf cmpB
 split
 ·rename_i h;rw[Bool.eq_iff_iff];simp only[decide_eq_true_eq];omega
 ·rename_i h;rw[Bool.eq_iff_iff];simp only[decide_eq_true_eq];omega
open Go.Sort Go.Proofs in
theorem swo_B:SWO (ltOf cmpB) where
 irrefl x:=by rw[lt_B];simp
 trans x y z h1 h2:=by rw[lt_B]at *;simp only[decide_eq_true_eq]at *;omega
 ntrans x y z h1 h2:=by rw[lt_B]at *;simp only[decide_eq_false_iff_not]at *;omega
open Go.Sort Go.Proofs in
theorem tot_B (x y:PB)(h1:ltOf cmpB x y=false)(h2:ltOf cmpB y x=false):x=y:=by
 rw[lt_B]at h1 h2
 simp only[decide_eq_false_iff_not]at h1 h2
 obtain⟨⟨a,b⟩,hx⟩:=x
 obtain⟨⟨c,d⟩,hy⟩:=y
 simp only at h1 h2
 have e1:a=c:=by omega
 have e2:b=d:=by omega
 subst e1;subst e2;rfl
theorem pb_list:∀{xs:List V},xs.all okPV=true→∃l:List PB,xs=l.map fun p=>p.1.v
 |[],_=>⟨[],rfl⟩
 |x::r,h=>by
  simp only[List.all_cons,Bool.and_eq_true]at h
  obtain⟨l,rfl⟩:=pb_list h.2
  have h1:=h.1
  unfold okPV at h1
  split at h1
  ·rename_i c a
   simp only[Bool.and_eq_true,decide_eq_true_eq]at h1
   exact⟨⟨⟨c,a⟩,by dsimp only;omega⟩::l,rfl⟩
  ·cases h1
open Go.Sort Go.Proofs in
theorem v81g {G:Nat}(eg:∀args w,(callFunc G args).run Tryz.prog w=.ok (.enter G args) w)(hc:∀(x y:PB) (W:World),Calls Tryz.prog G #[.agg (encP x).toArray,.agg (encP y).toArray] W fun e w'=>e=.returned (.int .i64 (cmpB x y))∧∃q os',w'=Go.Sort.grow (W.drewN q) os'){st:St}{id:Nat}{r:Arr}(hid:Sha.look st.arr id=some r)(hes:r.es=2)(hw:r.wr=true)(hbig:r.xs.length≤100000000)(hok:r.xs.all okPV=true) :
  VCalls Tryz.prog 70 [.osl id r.xs.length,.fn (.func G) [] []] st fun x s=>x=.ret (.tup [])∧s=⟨st.nx,st.mem,updA st.arr id { r with xs:=r.xs.mergeSort leV },st.x⟩:=by
 obtain⟨l,hl⟩:=pb_list hok
 have hlen:l.length=r.xs.length:=by rw[hl,List.length_map]
 have h:=VCalls_sort (P:=Tryz.prog) (F:=70) callable70 (k:=2) (by omega) (enc:=encP) (fun _=>rfl) (fun x v hv=>by
   simp[encP]at hv;rcases hv with rfl|rfl<;>rfl) (f:=fun p:PB=>p.1.v) (fun _=>rfl) (fun {w A x j v c} hc hr=>by
   match j,hc with
   |0,hc=>cases hc;cases hr;rfl
   |1,hc=>cases hc;cases hr;rfl
   |j+2,hc=>simp[Prm.v,V.cells]at hc) (fun {w A x j v c} hv hc=>by
   match j,hv,hc with
   |0,hv,hc=>cases hv;cases hc;exact .int _ _
   |1,hv,hc=>cases hv;cases hc;exact .int _ _
   |j+2,hv,hc=>simp[encP]at hv) (cf:=cmpB) (g:=G)
  (fun p cap fv w=>Tryz.sort_none p cap fv w)
  (fun blk off cap d w h1 h2 h3 h4=>Tryz.sort_total Tryz.isAgg71 Tryz.sizeOf71 encP (fun _=>rfl) (fun x v hv=>by
   simp[encP]at hv;rcases hv with rfl|rfl<;>rfl) cmpB swo_B tot_B G eg blk off cap d w h1 h2 h3 h4)
  hc (st:=st) (l:=l) hid hl hes hw (by omega)
 rw[hlen]at h
 have e:(l.mergeSort fun x y=>!ltOf cmpB y x).map (fun p:PB=>p.1.v)=r.xs.mergeSort leV:=by
  rw[hl]
  refine List.map_mergeSort (fun a _ b _=>?_)
  rw[lt_B]
  simp only[Prm.v,leV]
  rw[Bool.eq_iff_iff]
  simp
 rw[e]at h
 exact h
theorem v70 {st:St}{id:Nat}{r:Arr}(hid:Sha.look st.arr id=some r)(hes:r.es=2)(hw:r.wr=true)(hbig:r.xs.length≤100000000)(hok:r.xs.all okPV=true) :
  VCalls Tryz.prog 70 [.osl id r.xs.length,.fn (.func 71) [] []] st fun x s=>x=.ret (.tup [])∧s=⟨st.nx,st.mem,updA st.arr id { r with xs:=r.xs.mergeSort leV },st.x⟩ :=
 v81g (enters_of Tryz.func71 (by kernel_rfl) rfl) clos57 hid hes hw hbig hok
end Go.Proofs.YtkpcomdhdjihlaaGreatDoor

namespace Go.Proofs.YtkpcomdhdjihlaaGreatDoor
open Go.Sha
set_option maxRecDepth 10000
theorem F187:compF Tryz.prog 187=some ⟨20,[.tmp 4],(.g [.q 2 71 0,.q 3 71 1,.c 4 0] (.z [2,3] (.join [2,3] (.g [.a 5 0 2,.l 6 5,.a 7 0 3,.l 8 7,.b 9 .neq 6 8] (.i 9 (.g [.a 10 0 2,.l 11 10,.a 12 0 3,.l 13 12,.b 14 .sub 11 13,.m 4 14] (.ret [4])) .skip)) (.g [.a 15 1 2,.l 16 15,.a 17 1 3,.l 18 17,.b 19 .sub 16 18,.m 4 19] (.ret [4])))))⟩:=by kernel_rfl
theorem F189:compF Tryz.prog 189=some ⟨24,[.cell 4 (some 2),.tmp 5],(.g [.q 2 115 0,.q 3 71 1,.s 4 (.alloc 73 [.i 0,.i 0]),.k 5 false] (.z [2,3] (.g [.a 9 2 2,.l 10 9,.d 11 2 3,.s 12 (.f 255 [.t 10,.t 11,(.c (.fn (.func 256) [] []))]),.m 8 12,.j 13 0 8,.j 14 1 8,.m 6 13,.m 7 14] (.join [2,4,6] (.g [.m 15 7,.z 16 15] (.i 16 (.g [.s 17 (.f 190 []),.w 2 4 17,.k 5 false] (.ret [4,5])) .skip)) (.g [.a 18 2 2,.l 19 18,.m 20 6,.r 21 5 19 20,.a 22 2 21,.d 23 2 22,.w 2 4 23,.k 5 true] (.ret [4,5]))))))⟩:=by kernel_rfl
theorem F190:compF Tryz.prog 190=some ⟨2,[.cell 0 (some 2)],(.g [.s 0 (.alloc 73 [.i 0,.i 0])] (.g [.s 1 (.build [.i 0,.i 0] [(0,1,(.i (-1)))]),.w 2 0 1] (.ret [0])))⟩:=by kernel_rfl
theorem F256:compF Tryz.prog 256=some ⟨9,[.tmp 4],(.g [.q 2 117 0,.q 3 71 1,.c 4 0] (.z [2,3] (.g [.a 5 0 2,.d 6 2 5,.d 7 2 3,.g' 8 187 6 7,.m 4 8] (.ret [4]))))⟩:=by kernel_rfl
def B255_0:Cd:=(.join [0,2,4,8,9,10] (.g [.m 15 9,.m 16 10,.b 17 .lss 15 16] (.i 17 .skip (.exit [0,2,4,8,9] 0))) (.block 1 (.g [.m 18 9,.m 19 10,.b 20 .add 18 19,.s 21 (.cvi .u64 (.t 20)),.s 22 (.bin .shr (.t 21) (.c (.int .u64 1))),.s 23 (.cvi .i64 (.t 22)),.m 11 23] (.q (.dreg 8 [.m 24 2,.m 25 0,.m 26 11,.r 27 5 25 26,.d 28 5 27,.d 29 2 4,.s 30 (.call (.t 24) [.t 28,.t 29]),.v 31 .lss 30 0]) (.i 31 (.reg [.m 32 11,.v 33 .add 32 1,.m 9 33]) (.reg [.m 34 11,.m 10 34]))))))
theorem F255:compF Tryz.prog 255=some ⟨49,[.tmp 6,.tmp 7],(.g [.q 4 71 1,.c 6 0,.k 7 false] (.z [4] (.g [.m 12 0,.u 13 12,.m 8 13] (.g [.m 14 8,.c 9 0,.m 10 14] (.join [0,2,4,8,9] (.block 0 (.loop [0,2,4,8,9,10] [] B255_0)) (.join [6,7] (.dreg 16 [.m 35 9,.m 36 9,.m 37 8,.b 38 .lss 36 37,.m 39 38,.my 40 2 39,.my 41 0 39,.my 42 9 39,.ry 43 5 41 42 39,.y 44 (.load (some 5) (.t 43)) 39,.y 45 (.load (some 2) (.t 4)) 39,.y 46 (.call (.t 40) [.t 44,.t 45]) 39,.vy 47 .eql 46 0 39,.e 48 39 47,.m 6 35,.m 7 48]) (.ret [6,7])))))))⟩:=by kernel_rfl
end Go.Proofs.YtkpcomdhdjihlaaGreatDoor

namespace Go.Proofs.YtkpcomdhdjihlaaGreatDoor
open Go.Sha
set_option maxRecDepth 100000
variable {g:List (Nat×Obj)}{n:Nat}
def HN0:EvF:=⟨[],fun _ _ _=>none⟩
@[push_cast]theorem HN0_raw:HN0.raw=[]:=idq rfl
theorem HN0_ok:ESound Tryz.prog HN0:=fun _ _ _ _ _ h=>by simp only[HN0]at h;cases h
theorem f187 {x y:Prm}{st:St}:run Tryz.prog HN0 187 [x.v,y.v] st=some (.ret (.int .i64 (cmpP x y)),st):=by
 rw[run_shut F187 rfl rfl (by simp)]
 push_cast[Prm.v,cmpP]
theorem p187 {a b c d:Int}{st:St}:run Tryz.prog HN0 187 [.agg [.int .i64 a,.int .i64 b],.agg [.int .i64 c,.int .i64 d]] st=some (.ret (.int .i64 (cmpP ⟨a,b⟩ ⟨c,d⟩)),st):=f187 (x:=⟨a,b⟩) (y:=⟨c,d⟩)
theorem f190 {st:St}:run Tryz.prog HN0 190 [] st=some (.ret (.agg [.int .i64 (-1),.int .i64 0]),st):=by
 rw[run_shut F190 rfl rfl (by simp)]
 push_cast[Val.v]
theorem f256 {x:Mov}{q:Prm}{st:St}:run Tryz.prog HN0 256 [x.v,q.v] st=some (.ret (.int .i64 (cmpP x.prm q)),st):=by
 rw[run_shut F256 rfl rfl (by simp)]
 push_cast[Mov.v,Prm.v,p187]
theorem L255 {l:List Mov}{q:Prm}(hl:l.length<140737488355328):∀i j,i≤j→j≤l.length→runL Tryz.prog HN0 [0,2,4,8,9,10] n B255_0 [(0,.sl (l.map Mov.v)),(2,.fn (.func 256) [] []),(4,.ep q.v 0),(8,.int .i64 l.length),(9,.int .i64 i),(10,.int .i64 j)] (stN g n)
  = some (.exit 0,[(0,.sl (l.map Mov.v)),(2,.fn (.func 256) [] []),(4,.ep q.v 0),(8,.int .i64 l.length),(9,.int .i64 (bsI (fun k=>cmpP (l.getD k default).prm q) i j))],stN g n):=by
 intro i j
 induction i,j using bsI.induct (fun k=>cmpP (l.getD k default).prm q) with
 |case1 i j h h2 ih =>
  intro hij hj
  have ih:=ih (by omega) hj
  rw[bsI,dif_pos h,if_pos h2,runL_of B255_0.eq_1]
  have h1:(i:Int)<j:=by omega
  have h3:=halfI (i:=i) (j:=j) (by omega)
  have h4:(((i+j) / 2:Nat):Int)<l.length:=by omega
  have h5:IntKind.i64.wrap ((((i+j) / 2:Nat):Int)+1)=(((i+j) / 2+1:Nat):Int):=iwrap (by omega) (by omega)
  have h360:=fun(st:St)=>f256 (x:=l.getD ((i+j) / 2) default) (q:=q) (st:=st)
  generalize hk:(i+j) / 2=k at *
  push_cast[Mov.v,Prm.v]at ih h360
  push_cast[h1,h3,h4,h5,h360,Mov.v,Prm.v,h2]
  exact ih
 |case2 i j h h2 ih =>
  intro hij hj
  have ih:=ih (by omega) (by omega)
  rw[bsI,dif_pos h,if_neg h2,runL_of B255_0.eq_1]
  have h1:(i:Int)<j:=by omega
  have h3:=halfI (i:=i) (j:=j) (by omega)
  have h4:(((i+j) / 2:Nat):Int)<l.length:=by omega
  have h360:=fun(st:St)=>f256 (x:=l.getD ((i+j) / 2) default) (q:=q) (st:=st)
  generalize hk:(i+j) / 2=k at *
  push_cast[Mov.v,Prm.v]at ih h360
  push_cast[h1,h3,h4,h360,Mov.v,Prm.v,h2]
  exact ih
 |case3 i j h =>
  intro hij hj
  rw[bsI,dif_neg h,runL_of B255_0.eq_1]
  have h1:¬(i:Int)<j:=by omega
  push_cast[h1,Mov.v,Prm.v]
def bsM (l:List Mov)(q:Prm):Nat:=bsI (fun k=>cmpP (l.getD k default).prm q) 0 l.length
theorem f255 {l:List Mov}{q:Prm}(hl:l.length<140737488355328){st:St}:run Tryz.prog HN0 255 [.sl (l.map Mov.v),q.v,.fn (.func 256) [] []] st=some (.ret (.tup [.int .i64 (bsM l q),.bool (decide ((bsM l q:Int)<l.length)&&cmpP (l.getD (bsM l q) default).prm q == 0)]),st):=by
 have h0:=fun n=>L255 (g:=st.x.gl) (n:=n) (q:=q) hl 0 l.length (by omega) (Nat.le_refl _)
 have h360:=fun(st:St)=>f256 (x:=l.getD (bsM l q) default) (q:=q) (st:=st)
 rw[run_shut F255 rfl rfl (by simp)]
 rw[show bsI (fun k=>cmpP (l.getD k default).prm q) 0 l.length=bsM l q from rfl]at h0
 push_cast[Mov.v,Prm.v]at h0 h360
 push_cast[Mov.v,Prm.v,h0,h360]
 exact dn_eq (by omega) rfl
theorem cmp_ok {x y:Prm}(hx:okP x=true)(hy:okP y=true):cmpP x y=if x.chan=y.chan then x.attr-y.attr else x.chan-y.chan:=by
 simp only[okP,Bool.and_eq_true,decide_eq_true_eq]at hx hy
 unfold cmpP
 rw[iwrap (by omega) (by omega),iwrap (by omega) (by omega)]
 by_cases h:x.chan=y.chan<;>simp[h]
theorem okMs_ok:∀{l:List Mov},okMs l=true→(∀m∈l,okP m.prm=true)∧l.Pairwise fun a b=>ltP a.prm b.prm=true
 |[],_=>⟨by simp,List.Pairwise.nil⟩
 |m::r,h=>by
  simp only[okMs,Bool.and_eq_true,List.all_eq_true]at h
  obtain⟨a,b⟩:=okMs_ok h.2
  exact⟨fun x hx=>(List.mem_cons.1 hx).elim (fun e=>by rw[e];exact h.1.1) (a x),List.pairwise_cons.2 ⟨fun x hx=>h.1.2 x hx,b⟩⟩
theorem bsM_find {l:List Mov}{q:Prm}(hl:okMs l=true)(hq:okP q=true) :
  (match movF l q with|some v=>bsM l q<l.length∧(l.getD (bsM l q) default).val=v∧cmpP (l.getD (bsM l q) default).prm q=0|none=>¬(bsM l q<l.length∧cmpP (l.getD (bsM l q) default).prm q=0)):=by
 obtain⟨ho,hp⟩:=okMs_ok hl
 have hs:l.Pairwise fun a b=>cmpP b.prm q≤0→cmpP a.prm q<0:=by
  refine List.Pairwise.imp_of_mem (fun {a b} ha hb h=>?_) hp
  rw[cmp_ok (ho a ha) hq,cmp_ok (ho b hb) hq]
  simp only[ltP,Bool.or_eq_true,Bool.and_eq_true,decide_eq_true_eq]at h
  split<;>split<;>omega
 obtain⟨_,h1,h2⟩:=bs_find (c:=fun m:Mov=>cmpP m.prm q) hs
 have e:l.find? (fun x=>decide (cmpP x.prm q=0))=l.find? fun m=>decide (m.prm.chan=q.chan)&&decide (m.prm.attr=q.attr):=by
  refine find_congr (fun x hx=>?_)
  rw[cmp_ok (ho x hx) hq,Bool.eq_iff_iff]
  simp only[Bool.and_eq_true,decide_eq_true_eq]
  split<;>omega
 rw[e]at h1 h2
 unfold movF bsM
 cases hf:l.find? fun m=>decide (m.prm.chan=q.chan)&&decide (m.prm.attr=q.attr) with
 |none=>exact h2 hf
 |some x =>
  obtain⟨a,b,c⟩:=h1 x hf
  simp only[Option.map_some]
  refine⟨a,by rw[b],?_⟩
  rw[b];exact c
theorem f189 {x:Cu}{q:Prm}(hm:okMs x.moves=true)(hq:okP q=true)(hl:x.moves.length<140737488355328){st:St} :
  run Tryz.prog HN0 189 [x.v,q.v] st=some (.ret (.tup [((movF x.moves q).getD ⟨-1,0⟩).v,.bool (movF x.moves q).isSome]),st):=by
 have h359:=fun(st:St)=>f255 (l:=x.moves) (q:=q) hl (st:=st)
 have hb:=bsM_find hm hq
 rw[run_shut F189 rfl rfl (by simp)]
 cases hf:movF x.moves q with
 |some v =>
  rw[hf]at hb
  obtain⟨h1,h2,h3⟩:=hb
  have h1':(bsM x.moves q:Int)<x.moves.length:=by omega
  subst h2
  generalize bsM x.moves q=k at *
  push_cast[h359,h1',h3,Cu.v,Prm.v,Mov.v,Val.v,Option.getD_some,Option.isSome_some]
 |none =>
  rw[hf]at hb
  have h1:(decide ((bsM x.moves q:Int)<x.moves.length)&&cmpP (x.moves.getD (bsM x.moves q) default).prm q == 0)=false:=by
   rw[Bool.eq_false_iff];intro h;simp only[Bool.and_eq_true,decide_eq_true_eq,beq_iff_eq]at h;exact hb ⟨by omega,h.2⟩
  push_cast[h359,h1,f190,Cu.v,Prm.v,Val.v,Option.getD_none,Option.isSome_none]
end Go.Proofs.YtkpcomdhdjihlaaGreatDoor

namespace Go.Proofs.YtkpcomdhdjihlaaGreatDoor
open Go.RowKit Go.Shelf
attribute [local go_sem] Oper.semAt_some
def dnL (a k:Nat):List Nat:=(List.range k).map (a-·)
theorem dnL_succ (a k:Nat):dnL a (k+1)=dnL a k++[a-k]:=by simp[dnL,List.range_succ]
theorem dnL_length (a k:Nat):(dnL a k).length=k:=by simp[dnL]
set_option maxHeartbeats 1000000 in
theorem back_in (F:Fence)(n:Nat)(h5:F.fn 188)(hro:F.round=none)(a0 a1 a2:Value)(x:Int)(w:World) :
  CallsIn F n Tryz.prog 188 #[.agg #[a0,a1,a2],.int .i64 x] w fun e w'=>e=.returned (.func (.func 254) #[] #[.pointer (some ⟨w.heap.size+1,0,none⟩),.pointer (some ⟨w.heap.size,0,none⟩)])∧w'=(w.alloc (.cells #[a0,a1,a2] 55)).alloc (.cells #[.int .i64 x] 3):=by
 refine callsIn_of_wp Tryz.func188 rfl h5 ?_ hro
 simp only[Tryz.ntmps188,List.size_toArray,List.length_cons,List.length_nil,Nat.reduceAdd,Nat.reduceSub,Array.replicate_succ,Array.replicate_zero,List.push_toArray,List.append_toArray,List.nil_append,List.cons_append]
 gi_wp2
 go_ret
 exact⟨rfl,by simp⟩
set_option maxRecDepth 100000 in
set_option maxHeartbeats 4000000 in
theorem back1_in (F:Fence)(n:Nat)(h7:F.fn 254)(hro:F.round=none)(hn:1≤n)(l Ba Bl n₀ b off len cap a:Nat)(c0 c1 c2 c3 c5 c6 c7 c8:Nat→Value)(bl:Nat→Bool)(hlen:len*144≤140737488351232)(hb:b<n₀)(ha:a<len)(J Jx:List Nat→World→Prop)
  (hY:∀pre x W,J pre W→pre.length<a+1→YieldAt F (n-1) Tryz.prog l #[.agg #[c0 x,c1 x,c2 x,c3 x,.bool (bl x),c5 x,c6 x,c7 x,c8 x]] W fun e W' =>
   (e=.returned (.bool true)∧J (pre++[x]) W'∧Below n₀ W W')∨(e=.returned (.bool false)∧Jx (pre++[x]) W'))
  (W:World) (hBa:W.cell? ⟨Ba,0,none⟩=some (.int .i64 a)) (hBl:W.cell? ⟨Bl,2,none⟩=some (.slice (some ⟨b,off,none⟩) len cap)) (hBl0:Bl<n₀)
  (hc:∀j,j<len→W.cell? ⟨b,off+j*9,none⟩=some (c0 j)∧W.cell? ⟨b,off+j*9+1,none⟩=some (c1 j)∧W.cell? ⟨b,off+j*9+2,none⟩=some (c2 j)∧W.cell? ⟨b,off+j*9+3,none⟩=some (c3 j) ∧
   W.cell? ⟨b,off+j*9+4,none⟩=some (.bool (bl j))∧W.cell? ⟨b,off+j*9+5,none⟩=some (c5 j)∧W.cell? ⟨b,off+j*9+6,none⟩=some (c6 j)∧W.cell? ⟨b,off+j*9+7,none⟩=some (c7 j)∧W.cell? ⟨b,off+j*9+8,none⟩=some (c8 j))
  (h0:J [] W) :
  CallsIn F n Tryz.prog 254 #[.func (.yield l) #[] #[],.pointer (some ⟨Ba,0,none⟩),.pointer (some ⟨Bl,0,none⟩)] W fun e W'=>(∃v,e=.returned v) ∧
   ((∃k,k≤a+1∧J (dnL a k) W'∧(k=a+1∨0<k∧bl (a+1-k)=true)∧∀j,0<j→j<k→bl (a+1-j)=false)∨(∃k,k≤a+1∧Jx (dnL a k) W'∧∀j,0<j→j<k→bl (a+1-j)=false)):=by
 refine callsIn_of_wp Tryz.func254 rfl h7 ?_ hro
 simp only[Tryz.ntmps254,List.size_toArray,List.length_cons,List.length_nil,Nat.reduceAdd,Nat.reduceSub,Array.replicate_succ,Array.replicate_zero,List.push_toArray,List.append_toArray,List.nil_append,List.cons_append]
 gi_wp2
 gi_loopw [4] (fun i wr=>∃k:Nat,k≤a+1∧i=.int .i64 ((a:Int)-k)∧J (dnL a k) wr∧Below n₀ W wr∧∀j,0<j→j≤k→bl (a+1-j)=false)
  (fun i _=>(intOf i+1).toNat)
 case atStart=>exact⟨0,Nat.zero_le _,by simp,h0,Below.refl _ _,fun j h1 h2=>by omega⟩
 case round =>
  obtain⟨k,hk,rfl,hJs,hnx,hbs⟩:=hrel
  have hcell:∀(W1:World),Below n₀ W W1→∀j,j<len→W1.cell? ⟨b,off+j*9,none⟩=some (c0 j)∧W1.cell? ⟨b,off+j*9+1,none⟩=some (c1 j)∧W1.cell? ⟨b,off+j*9+2,none⟩=some (c2 j)∧W1.cell? ⟨b,off+j*9+3,none⟩=some (c3 j) ∧
   W1.cell? ⟨b,off+j*9+4,none⟩=some (.bool (bl j))∧W1.cell? ⟨b,off+j*9+5,none⟩=some (c5 j)∧W1.cell? ⟨b,off+j*9+6,none⟩=some (c6 j)∧W1.cell? ⟨b,off+j*9+7,none⟩=some (c7 j)∧W1.cell? ⟨b,off+j*9+8,none⟩=some (c8 j):=fun W1 hB j hj=>by
   obtain⟨d0,d1,d2,d3,d4,d5,d6,d7,d8⟩:=hc j hj
   exact⟨(hB.cell (p:=⟨b,_,none⟩) hb).trans d0,(hB.cell (p:=⟨b,_,none⟩) hb).trans d1,(hB.cell (p:=⟨b,_,none⟩) hb).trans d2,(hB.cell (p:=⟨b,_,none⟩) hb).trans d3,(hB.cell (p:=⟨b,_,none⟩) hb).trans d4,(hB.cell (p:=⟨b,_,none⟩) hb).trans d5,(hB.cell (p:=⟨b,_,none⟩) hb).trans d6,(hB.cell (p:=⟨b,_,none⟩) hb).trans d7,(hB.cell (p:=⟨b,_,none⟩) hb).trans d8⟩
  by_cases hlt:k≤a
  ·obtain⟨fn,tmps,assign,body,hy,hR⟩:=hY _ (a-k) wr hJs (by rw[dnL_length];omega)
   obtain⟨d0,d1,d2,d3,d4,d5,d6,d7,d8⟩:=hcell wr hnx (a-k) (by omega)
   have hBl':=(hnx.cell (p:=⟨Bl,2,none⟩) hBl0).trans hBl
   have hx:((a:Int)-k)=((a-k:Nat):Int):=by omega
   rw[hx]
   have hlx:a-k<len:=by omega
   generalize hm:a-k=m at *
   gi_wp2
   refine hR.mono ?_
   rintro e W3 (⟨rfl,hJ3,hk3⟩|⟨rfl,hJx3⟩)
   ·obtain⟨e0,e1,e2,e3,e4,e5,e6,e7,e8⟩:=hcell W3 (hnx.trans hk3) m hlx
    have hBl3:=((hnx.trans hk3).cell (p:=⟨Bl,2,none⟩) hBl0).trans hBl
    have hjk:∀j,0<j→j<k+1→bl (a+1-j)=false:=fun j h1 h2=>hbs j h1 (by omega)
    cases hbm:bl m with
    |true =>
     rw[hbm]at e4
     gi_wp2
     refine bodyPost_ret (results_none rfl _ _ _) rfl ?_
     exact⟨⟨_,rfl⟩,.inl ⟨k+1,by omega,by rw[dnL_succ,hm];exact hJ3,.inr ⟨by omega,by rw[show a+1-(k+1)=m by omega];exact hbm⟩,hjk⟩⟩
    |false =>
     rw[hbm]at e4
     gi_wp2
     refine⟨⟨k+1,by omega,by rw[show((m:Int)-1)=(a:Int)-((k+1:Nat):Int) by omega],by rw[dnL_succ,hm];exact hJ3,hnx.trans hk3,fun j h1 h2=>?_⟩,by simp[intOf]⟩
     rcases Nat.lt_or_ge j (k+1) with h3|h3
     ·exact hjk j h1 h3
     ·rw[show a+1-j=m by omega];exact hbm
   ·gi_wp2
    refine bodyPost_ret (results_none rfl _ _ _) rfl ?_
    exact⟨⟨_,rfl⟩,.inr ⟨k+1,by omega,by rw[dnL_succ,hm];exact hJx3,fun j h1 h2=>hbs j h1 (by omega)⟩⟩
  ·obtain rfl:k=a+1:=by omega
   have hx:((a:Int)-((a+1:Nat):Int))=-1:=by omega
   rw[hx]
   gi_wp2
   go_end0
   exact⟨⟨_,rfl⟩,.inl ⟨_,Nat.le_refl _,hJs,.inl rfl,fun j h1 h2=>hbs j h1 (by omega)⟩⟩
end Go.Proofs.YtkpcomdhdjihlaaGreatDoor

