/- Numbers of cues, lists of cues, shows. The check of shows. Data that comes in, as Lean structures. Shows that come in. The compiled code of functions of this seat, printed by a program, and that it is .. -/
import Derived.Test.YtaneehgfdpadjaaGreatDoorL1
import Derived.Test.YtaneehgfdpadjaaGreatDoorLShbAC
import Derived.Test.YtaneehgfdpadjaaGreatDoorLShbYB
import Derived.Test.YtaneehgfdpadjaaGreatDoorProg
import Derived.KernelRfl
import Derived.Test.YtaneehgfdpadjaaGreatDoorLShbXT
import Derived.Test.YtaneehgfdpadjaaGreatDoorLShbEK
set_option linter.unusedSimpArgs false
set_option linter.unusedVariables false
namespace Go.Proofs.YtaneehgfdpadjaaGreatDoor
open Go.Sha
set_option maxRecDepth 100000
variable {g:List (Nat×Obj)}{n:Nat}
theorem isD_val {b:UInt8}(h:isD b=true):IntKind.u8.wrap ((b.toNat:Int)-48)=((b.toNat-48:Nat):Int)∧b.toNat-48≤9:=by
 simp only[isD,Bool.and_eq_true,decide_eq_true_eq]at h
 refine⟨?_,by omega⟩
 unfold IntKind.wrap
 simp[IntKind.bits,IntKind.signed]
 omega
theorem step_nat {m k:Nat}(hm:m≤100000000000000)(hk:k≤9):IntKind.i64.wrap (IntKind.i64.wrap (10*(m:Int))+IntKind.i64.wrap (k:Int))=((10*m+k:Nat):Int):=by
 have w1:IntKind.i64.wrap (10*(m:Int))=10*(m:Int):=iwrap (by omega) (by omega)
 have w2:IntKind.i64.wrap (k:Int)=(k:Int):=iwrap (by omega) (by omega)
 rw[w1,w2]
 have w3:IntKind.i64.wrap (10*(m:Int)+k)=10*(m:Int)+k:=iwrap (by omega) (by omega)
 rw[w3];omega
theorem vwL_nat:∀{w:List UInt8}{m B:Nat},(∀b∈w,isD b=true)→w.length≤B→m<10 ^ (10-B)→B≤10→vwL w m=((w.foldl (fun n b=>10*n+(b.toNat-48)) m:Nat):Int)∧w.foldl (fun n b=>10*n+(b.toNat-48)) m<10 ^ (10-B+w.length)
 |[],m,B,_,_,h,_=>⟨rfl,by simpa using h⟩
 |b::r,m,B,hw,hl,h,hB=>by
  simp at hl
  obtain⟨e,hk⟩:=isD_val (hw b (List.mem_cons_self ..))
  have hp:10 ^ (10-B)≤10 ^ 10:=Nat.pow_le_pow_right (by omega) (by omega)
  have h2:10*m+(b.toNat-48)<10 ^ (10-(B-1)):=by
   rw[show 10-(B-1)=(10-B)+1 by omega,Nat.pow_succ];omega
  have ih:=vwL_nat (w:=r) (m:=10*m+(b.toNat-48)) (B:=B-1) (fun x hx=>hw x (List.mem_cons_of_mem _ hx)) (by omega) h2 (by omega)
  rw[vwL,e,step_nat (by omega) hk,List.foldl_cons]
  refine⟨ih.1,?_⟩
  have:=ih.2
  rwa [show 10-(B-1)+r.length=10-B+(b::r).length by simp;omega]at this
def pdB (r:List UInt8)(k:Nat):UInt8:=if k<r.length then r.getD k 0 else 48
theorem pad_3 {r:List UInt8}:(r++[48,48,48]).take 3=[pdB r 0,pdB r 1,pdB r 2]:=by
 match r with
 |[]=>rfl
 |[a]=>simp[pdB]
 |[a,b]=>simp[pdB]
 |a::b::c::r=>simp[pdB]
theorem nxV_nat {r:List UInt8}{k m:Nat}(hr:∀b∈r,isD b=true)(hm:m≤100000000000000):nxV r k m=((10*m+((pdB r k).toNat-48):Nat):Int):=by
 unfold nxV pdB
 by_cases h:k<r.length
 ·rw[if_pos (by omega),if_pos h]
  obtain⟨e,hk⟩:=isD_val (hr (r.getD k 0) (by rw[List.getD_eq_getElem?_getD,List.getElem?_eq_getElem h];exact List.getElem_mem h))
  rw[e,step_nat hm hk]
 ·rw[if_neg (by omega),if_neg h]
  have w1:IntKind.i64.wrap (10*(m:Int))=10*(m:Int):=iwrap (by omega) (by omega)
  rw[w1]
  have:(48:UInt8).toNat=48:=rfl
  omega
theorem pd_le {r:List UInt8}{k:Nat}(hr:∀b∈r,isD b=true):(pdB r k).toNat-48≤9:=by
 unfold pdB
 split
 ·rename_i h
  exact(isD_val (hr (r.getD k 0) (by rw[List.getD_eq_getElem?_getD,List.getElem?_eq_getElem h];exact List.getElem_mem h))).2
 ·decide
theorem numC_parts {s:List UInt8}(h:numC s=0):(∀b∈nW s,isD b=true)∧(∀b∈nR s,isD b=true)∧(nW s).length≤4∧(nR s).length≤3:=by
 unfold numC at h
 split at h
 ·cases h
 ·rename_i h1
  split at h
  ·cases h
  ·rename_i h2
   split at h
   ·cases h
   ·split at h
    ·cases h
    ·rename_i h3 h4
     refine⟨digB_all (by simpa using h1),?_,by omega,by omega⟩
     cases hc:s.contains 46 with
     |false=>rw[(n_none hc).2];simp
     |true=>rw[hc]at h2;simp at h2;exact digB_all h2.1
theorem val_eq {s:List UInt8}(h:numC s=0):valN s=refV s:=by
 obtain⟨a1,a2,a3,a4⟩:=numC_parts h
 obtain⟨e1,e2⟩:=vwL_nat (w:=nW s) (m:=0) (B:=10) a1 (by omega) (by simp) (Nat.le_refl _)
 have hp:10 ^ (10-10+(nW s).length)≤10 ^ 4:=Nat.pow_le_pow_right (by omega) (by omega)
 generalize hN:(nW s).foldl (fun n b=>10*n+(b.toNat-48)) 0=N at e1 e2
 have p0:=pd_le (k:=0) a2;have p1:=pd_le (k:=1) a2;have p2:=pd_le (k:=2) a2
 unfold valN refV
 rw[if_pos h,show(0:Int)=((0:Nat):Int) from rfl,e1,nxV_nat a2 (by omega),nxV_nat a2 (by omega),nxV_nat a2 (by omega),natOf,numS,pad_3,List.foldl_append,hN]
 rfl
theorem cueP_num {x:Cu}(h:cueR x=0):numC x.num=0:=by
 unfold cueR at h
 split at h
 ·rename_i a;exact absurd h a
 ·rename_i a;exact Classical.not_not.1 a
theorem cuesP_eq {l:List Cu}:∀{r:List Cu}{j:Nat},l.drop j=r→(∀z∈l.take j,cueR z=0)→cuesP l r j=cuesR l r j
 |[],_,_,_=>rfl
 |q::r,j,hd,hz=>by
  rw[cuesP,cuesR,cue_eq]
  by_cases h1:cueR q=0
  ·rw[cuesP_eq (drop_succ hd) (all_snoc (P:=fun z=>cueR z=0) hd hz h1)]
   have e:(0<j∧0≤cmpN (l.getD (j-1) default).num q.num)=(0<j∧0≤ordR (l.getD (j-1) default).num q.num):=by
    rw[eq_iff_iff]
    refine and_congr_right fun h0=>?_
    have a:=cueP_num (hz _ (mem_prev h0 (Nat.le_of_lt (drop_le hd))))
    have b:=cueP_num h1
    unfold cmpN ordR
    rw[if_neg (by rw[a,b];simp),val_eq a,val_eq b]
   simp only[e]
  ·rw[if_pos h1,if_pos h1]
theorem lst_eq {x:Lst}:lstP x=lstR x:=by unfold lstP lstR;rw[cuesP_eq (l:=x.cues) (r:=x.cues) (j:=0) rfl (by simp)]
def grpsC (l:List Grp):Int:=if 32<(l.length:Int) then 5 else grpsL l l 0
theorem f82 {l:List Grp}(hl:l.length<140737488355328)(hb:∀x∈l,x.chans.length<140737488355328){st:St}:run Tryz.prog HH 82 [.sl (l.map Grp.v)] st=some (.ret (.int .i64 (grpsC l)),st):=by
 rw[run_shut F82 rfl rfl (by simp)]
 have hL0:=fun n=>L82 (g:=st.x.gl) (n:=n) hl hb _ 0 rfl
 push_cast[grpsC]at hL0
 push_cast[grpsC,hL0,lpE,lpX,lpI,lpB]
theorem L37 {l:List Grp}(hl:l.length<140737488355328)(hb:∀x∈l,x.chans.length<140737488355328):∀r j,l.drop j=r→runL Tryz.prog HH [0,3] n B37_0 [(0,.sl (l.map Grp.v)),(3,.int .i64 j)] (stN g n)=lpE (stN g n) [] 2 (grpsL l r j):=by
 refine drop_ind (fun j h=>?_) (fun q r j h hx hd ih=>?_)
 all_goals rw[runL_of B37_0.eq_1]
 ·have h1:¬(j:Int)<l.length:=by omega
  push_cast[h1,grpsL,Grp.v]
 ·have h1:(j:Int)<l.length:=by omega
  have hw:=iw1 (j:=j) (by omega)
  have hq:q.chans.length<140737488355328:=hb q (mem_at hd)
  push_cast[h1,hw,hx,Grp.v,f73 hq,iwrap_pred (j:=j) (by omega)]at ih ⊢
  simp only[ih,grpsL,lps,Int.reduceEq,not_false_eq_true]
  all_goals ((repeat' split)<;>(try simp_all)<;>(try (with_reducible refine dn_eq ?_ ?_<;>first|trivial|omega|rfl))<;>(try omega))
theorem f37 {l:List Grp}(hl:l.length<140737488355328)(hb:∀x∈l,x.chans.length<140737488355328){st:St}:run Tryz.prog HH 37 [.sl (l.map Grp.v)] st=some (.ret (.int .i64 (grpsC l)),st):=by
 rw[run_shut F37 rfl rfl (by simp)]
 have hL0:=fun n=>L37 (g:=st.x.gl) (n:=n) hl hb _ 0 rfl
 push_cast[grpsC]at hL0
 push_cast[grpsC,hL0,lpE,lpX,lpI,lpB]
def lstsL (l:List Lst):List Lst→Nat→Int
 |[],_=>0
 |q::r,j=>if ¬lstR q=0 then lstR q else if 0<j∧q.num≤(l.getD (j-1) default).num then 9 else lstsL l r (j+1)
def Lok (l:List Lst):Prop:=l.length<140737488355328∧∀q∈l,q.ok
theorem f138' {x:Lst}(h:x.ok){st:St}:run Tryz.prog HH 138 [x.v] st=some (.ret (.int .i64 (lstR x)),st):=by rw[f138 h,lst_eq]
theorem L85 {x:Sho}(hl:Lok x.lsts):∀r j,x.lsts.drop j=r→runL Tryz.prog HH [1,11,12,13] n B85_0 [(1,.ep x.v 0),(11,.sl (x.lsts.map Lst.v)),(12,.int .i64 x.lsts.length),(13,.int .i64 j)] (stN g n)=lpE (stN g n) [] 2 (lstsL x.lsts r j):=by
 have hb:=hl.1
 refine drop_ind (fun j h=>?_) (fun q r j h hx hd ih=>?_)
 all_goals rw[runL_of B85_0.eq_1]
 ·have h1:¬(j:Int)<x.lsts.length:=by omega
  push_cast[h1,lstsL,Sho.v,Lst.v]
 ·have h1:(j:Int)<x.lsts.length:=by omega
  have hw:=iw1 (j:=j) (by omega)
  have hq:q.ok:=hl.2 q (mem_at hd)
  push_cast[h1,hw,hx,Sho.v,Lst.v,f138' hq,iwrap_pred (j:=j) (by omega)]at ih ⊢
  simp only[ih,lstsL,lps,Int.reduceEq,not_false_eq_true]
  all_goals ((repeat' split)<;>(try simp_all)<;>(try (with_reducible refine dn_eq ?_ ?_<;>first|trivial|omega|rfl))<;>(try omega))
def lstsC (l:List Lst):Int:=if 8<(l.length:Int) then 5 else lstsL l l 0
theorem f85 {x:Sho}(hl:Lok x.lsts){st:St}:run Tryz.prog HH 85 [x.v] st=some (.ret (.int .i64 (lstsC x.lsts)),st):=by
 rw[run_shut F85 rfl rfl (by simp)]
 have hL0:=fun n=>L85 (g:=st.x.gl) (n:=n) hl _ 0 rfl
 push_cast[Sho.v,lstsC]at hL0
 push_cast[Sho.v,lstsC,hL0,lpE,lpX,lpI,lpB]
theorem L39 {l:List Lst}(hl:Lok l):∀r j,l.drop j=r→runL Tryz.prog HH [0,3] n B39_0 [(0,.sl (l.map Lst.v)),(3,.int .i64 j)] (stN g n)=lpE (stN g n) [] 2 (lstsL l r j):=by
 have hb:=hl.1
 refine drop_ind (fun j h=>?_) (fun q r j h hx hd ih=>?_)
 all_goals rw[runL_of B39_0.eq_1]
 ·have h1:¬(j:Int)<l.length:=by omega
  push_cast[h1,lstsL,Lst.v]
 ·have h1:(j:Int)<l.length:=by omega
  have hw:=iw1 (j:=j) (by omega)
  have hq:q.ok:=hl.2 q (mem_at hd)
  push_cast[h1,hw,hx,Lst.v,f68 hq,iwrap_pred (j:=j) (by omega)]at ih ⊢
  simp only[ih,lstsL,lps,Int.reduceEq,not_false_eq_true]
  all_goals ((repeat' split)<;>(try simp_all)<;>(try (with_reducible refine dn_eq ?_ ?_<;>first|trivial|omega|rfl))<;>(try omega))
theorem f39 {l:List Lst}(hl:Lok l){st:St}:run Tryz.prog HH 39 [.sl (l.map Lst.v)] st=some (.ret (.int .i64 (lstsC l)),st):=by
 rw[run_shut F39 rfl rfl (by simp)]
 have hL0:=fun n=>L39 (g:=st.x.gl) (n:=n) hl _ 0 rfl
 push_cast[lstsC]at hL0
 push_cast[lstsC,hL0,lpE,lpX,lpI,lpB]
end Go.Proofs.YtaneehgfdpadjaaGreatDoor

namespace Go.Proofs.YtaneehgfdpadjaaGreatDoor
open Go.Sha
set_option maxRecDepth 100000
variable {g:List (Nat×Obj)}{n:Nat}
def stP (g:List (Nat×Obj))(xs:List V):St:=⟨2,[],[(1,⟨5,1,xs,true,true⟩)],⟨[],g,[]⟩⟩
@[push_cast]theorem stP_eq {xs:List V}:stP g xs=⟨2,[],[(1,⟨5,1,xs,true,true⟩)],⟨[],g,[]⟩⟩:=idq rfl
theorem L77 {s:List UInt8}(hl:s.length<140737488355328):∀r j,s.drop j=r→runL Tryz.prog HH [11,12,13] 2 B77_0 [(11,.osl 1 s.length),(12,.int .i64 s.length),(13,.int .i64 j)] (stP g (s.map bV))=lpE (stP g (s.map bV)) [] 2 (labL r):=by
 refine drop_ind (fun j h=>?_) (fun q r j h hx hd ih=>?_)
 all_goals rw[runL_of B77_0.eq_1]
 ·have h1:¬(j:Int)<s.length:=by omega
  push_cast[h1,labL]
 ·have h1:(j:Int)<s.length:=by omega
  have hw:=iw1 (j:=j) (by omega)
  have hk:∀d,(s.map bV).getD j d=bV q:=getD_drop hd
  push_cast[h1,hw,hx,bV,hk]at ih ⊢
  simp only[ih,labL,lps,Int.reduceEq,not_false_eq_true]
  all_goals exact dn_eq (by omega) (by with_reducible rfl)
theorem f77 {x:Sho}(hl:x.title.length<140737488355328){st:St}:run Tryz.prog HH 77 [x.v] st=some (.ret (.int .i64 (labC x.title)),st):=by
 rw[run_shut F77 rfl rfl (by simp)]
 have hL0:=L77 (g:=st.x.gl) hl _ 0 rfl
 push_cast at hL0
 push_cast[Sho.v,hL0,lpE,labC]
 exact dn_eq (by simp[maxLen];omega) rfl
theorem L69 {s:List UInt8}(hl:s.length<140737488355328):∀r j,s.drop j=r→runL Tryz.prog HH [0,3] n B69_0 [(0,.str s),(3,.int .i64 j)] (stN g n)=lpE (stN g n) [] 2 (labL r):=by
 refine drop_ind (fun j h=>?_) (fun q r j h hx hd ih=>?_)
 all_goals rw[runL_of B69_0.eq_1]
 ·have h1:¬(j:Int)<s.length:=by omega
  push_cast[h1,labL]
 ·have h1:(j:Int)<s.length:=by omega
  have hw:=iw1 (j:=j) (by omega)
  push_cast[h1,hw,hx]at ih ⊢
  simp only[ih,labL,lps,Int.reduceEq,not_false_eq_true]
theorem f69 {s:List UInt8}(hl:s.length<140737488355328){st:St}:run Tryz.prog HH 69 [.str s] st=some (.ret (.int .i64 (labC s)),st):=by
 rw[run_shut F69 rfl rfl (by simp)]
 have hL0:=fun n=>L69 (g:=st.x.gl) (n:=n) hl _ 0 rfl
 push_cast[labC]at hL0
 push_cast[labC,hL0,lpE,lpX,lpI,lpB]
structure Sho.ok (x:Sho):Prop where
 t:x.title.length<140737488355328
 c:Cok x.curves
 p:Pok x.profs
 f:Xok x.fixts
 g:x.grps.length<140737488355328∧∀q∈x.grps,q.chans.length<140737488355328
 l:x.pals.length<140737488355328∧∀q∈x.pals,q.hues.length<140737488355328
 k:Lok x.lsts
 s:x.subs.length<140737488355328∧∀q∈x.subs,q.gains.length<140737488355328
 e:x.effs.length<140737488355328∧∀q∈x.effs,q.wave.length<140737488355328
theorem f81 {x:Sho}(h:x.ok){st:St}:run Tryz.prog HH 81 [x.v] st=some (.ret (.int .i64 (grpsC x.grps)),st):=by
 rw[run_shut F81 rfl rfl (by simp)]
 push_cast[Sho.v,f82 h.g.1 h.g.2]
theorem f83 {x:Sho}(h:x.ok){st:St}:run Tryz.prog HH 83 [x.v] st=some (.ret (.int .i64 (palsCR x.pals)),st):=by
 rw[run_shut F83 rfl rfl (by simp)]
 push_cast[Sho.v,f84 h.l.1 h.l.2,palsC_eq]
theorem f86 {x:Sho}(h:x.ok){st:St}:run Tryz.prog HH 86 [x.v] st=some (.ret (.int .i64 (subsCR x.subs)),st):=by
 rw[run_shut F86 rfl rfl (by simp)]
 push_cast[Sho.v,f87 h.s.1 h.s.2,subsC_eq]
theorem f88 {x:Sho}(h:x.ok){st:St}:run Tryz.prog HH 88 [x.v] st=some (.ret (.int .i64 (effsC x.effs)),st):=by
 rw[run_shut F88 rfl rfl (by simp)]
 push_cast[Sho.v,f89 h.e.1 h.e.2]
def shoC (x:Sho):Int:=if ¬labC x.title=0 then labC x.title else if ¬uniC x.curves x.profs x.fixts=0 then uniC x.curves x.profs x.fixts else if ¬grpsC x.grps=0 then grpsC x.grps else if ¬palsCR x.pals=0 then palsCR x.pals
 else if ¬lstsC x.lsts=0 then lstsC x.lsts else if ¬subsCR x.subs=0 then subsCR x.subs else effsC x.effs
theorem f20 {x:Sho}(h:x.ok){st:St}:run Tryz.prog HH 20 [x.v] st=some (.ret (.int .i64 (shoC x)),st):=by
 have h1:=fun(st:St)=>f77 (st:=st) h.t
 have h2:=fun(st:St)=>f78 (st:=st) h.c h.p h.f
 have h3:=fun(st:St)=>f81 (st:=st) h
 have h4:=fun(st:St)=>f83 (st:=st) h
 have h5:=fun(st:St)=>f85 (st:=st) h.k
 have h6:=fun(st:St)=>f86 (st:=st) h
 have h7:=fun(st:St)=>f88 (st:=st) h
 push_cast[Sho.v]at h1 h2 h3 h4 h5 h6 h7
 rw[run_shut F20 rfl rfl (by simp)]
 push_cast[Sho.v,h1,h2,h3,h4,h5,h6,h7,(fun(st:St)=>run_shut (P:=Tryz.prog) (H:=HH) (args:=[]) (st:=st) F43 rfl rfl rfl),runL_of B20_0.eq_1,shoC,ite0']
theorem f36 {x:Sho}(h:x.ok){st:St}:run Tryz.prog HH 36 [x.v] st=some (.ret (.int .i64 (if ¬labC x.title=0 then labC x.title else uniC x.curves x.profs x.fixts)),st):=by
 have hr:∀q∈x.profs,q.okR:=h.p.2.2
 rw[run_shut F36 rfl rfl (by simp)]
 push_cast[Sho.v,f69 h.t,f70 h.c.1 h.c.2,f71 h.p.1 hr h.c,f72 h.f.1 h.f.2 h.p.1,uniC]
theorem f14 {x:Sho}(h:x.ok){st:St}:run Tryz.prog HH 14 [x.v] st=some (.ret (.int .i64 (shoC x)),st):=by
 have h1:=fun(st:St)=>f36 (st:=st) h
 push_cast[Sho.v]at h1
 rw[run_shut F14 rfl rfl (by simp)]
 push_cast[Sho.v,h1,f37 h.g.1 h.g.2,f38 h.l.1 h.l.2,f39 h.k,f40 h.s.1 h.s.2,f41 h.e.1 h.e.2]
 unfold shoC
 by_cases a1:labC x.title=0<;>by_cases a2:uniC x.curves x.profs x.fixts=0<;>simp[a1,a2]
end Go.Proofs.YtaneehgfdpadjaaGreatDoor

namespace Go.Proofs.YtaneehgfdpadjaaGreatDoor
open Go.Sha
def Pt.sh:List CSh:=[.int .i64,.int .i64]
structure Pt.Dk (z:Pt):Prop where
 x:-9223372036854775808≤z.x∧z.x≤9223372036854775807
 y:-9223372036854775808≤z.y∧z.y≤9223372036854775807
theorem Pt.rd {vs:List V}(h:OkCs Pt.sh vs):∃x:Pt,V.agg vs=x.v∧x.Dk:=by
 obtain⟨v0,r0,rfl,h0,t0⟩:=h.cons_inv
 obtain⟨v1,r1,rfl,h1,t1⟩:=t0.cons_inv
 obtain rfl:=t1.nil_inv
 obtain⟨y0,rfl,b0⟩:=h0.i64_inv
 obtain⟨y1,rfl,b1⟩:=h1.i64_inv
 exact⟨⟨y0,y1⟩,rfl,⟨b0,b1⟩⟩
def Slt.sh:List CSh:=[.str,.int .i64,.int .i64]
structure Slt.Dk (z:Slt):Prop where
 name:z.name.length≤140737488351232
 fr:-9223372036854775808≤z.fr∧z.fr≤9223372036854775807
 to_:-9223372036854775808≤z.to_∧z.to_≤9223372036854775807
theorem Slt.rd {vs:List V}(h:OkCs Slt.sh vs):∃x:Slt,V.agg vs=x.v∧x.Dk:=by
 obtain⟨v0,r0,rfl,h0,t0⟩:=h.cons_inv
 obtain⟨v1,r1,rfl,h1,t1⟩:=t0.cons_inv
 obtain⟨v2,r2,rfl,h2,t2⟩:=t1.cons_inv
 obtain rfl:=t2.nil_inv
 obtain⟨y0,rfl,b0⟩:=h0.str_inv
 obtain⟨y1,rfl,b1⟩:=h1.i64_inv
 obtain⟨y2,rfl,b2⟩:=h2.i64_inv
 exact⟨⟨y0,y1,y2⟩,rfl,⟨b0,b1,b2⟩⟩
def Ftr.sh:List CSh:=[.int .i64,.int .i64,.int .i64,.int .i64,.int .i64,.int .i64,.int .i64,.int .i64,.bool,.sl true 32 Slt.sh]
structure Ftr.Dk (z:Ftr):Prop where
 attr:-9223372036854775808≤z.attr∧z.attr≤9223372036854775807
 bits:-9223372036854775808≤z.bits∧z.bits≤9223372036854775807
 coarse:-9223372036854775808≤z.coarse∧z.coarse≤9223372036854775807
 fine:-9223372036854775808≤z.fine∧z.fine≤9223372036854775807
 curve:-9223372036854775808≤z.curve∧z.curve≤9223372036854775807
 home:-9223372036854775808≤z.home∧z.home≤9223372036854775807
 low:-9223372036854775808≤z.low∧z.low≤9223372036854775807
 high:-9223372036854775808≤z.high∧z.high≤9223372036854775807
 snap:True
 wheel:z.wheel.length≤140737488351232∧∀q∈z.wheel,q.Dk
theorem Ftr.rd {vs:List V}(h:OkCs Ftr.sh vs):∃x:Ftr,V.agg vs=x.v∧x.Dk:=by
 obtain⟨v0,r0,rfl,h0,t0⟩:=h.cons_inv
 obtain⟨v1,r1,rfl,h1,t1⟩:=t0.cons_inv
 obtain⟨v2,r2,rfl,h2,t2⟩:=t1.cons_inv
 obtain⟨v3,r3,rfl,h3,t3⟩:=t2.cons_inv
 obtain⟨v4,r4,rfl,h4,t4⟩:=t3.cons_inv
 obtain⟨v5,r5,rfl,h5,t5⟩:=t4.cons_inv
 obtain⟨v6,r6,rfl,h6,t6⟩:=t5.cons_inv
 obtain⟨v7,r7,rfl,h7,t7⟩:=t6.cons_inv
 obtain⟨v8,r8,rfl,h8,t8⟩:=t7.cons_inv
 obtain⟨v9,r9,rfl,h9,t9⟩:=t8.cons_inv
 obtain rfl:=t9.nil_inv
 obtain⟨y0,rfl,b0⟩:=h0.i64_inv
 obtain⟨y1,rfl,b1⟩:=h1.i64_inv
 obtain⟨y2,rfl,b2⟩:=h2.i64_inv
 obtain⟨y3,rfl,b3⟩:=h3.i64_inv
 obtain⟨y4,rfl,b4⟩:=h4.i64_inv
 obtain⟨y5,rfl,b5⟩:=h5.i64_inv
 obtain⟨y6,rfl,b6⟩:=h6.i64_inv
 obtain⟨y7,rfl,b7⟩:=h7.i64_inv
 obtain⟨y8,rfl⟩:=h8.bool_inv
 have b8:=trivial
 obtain⟨y9,rfl,b9⟩:=h9.agg_inv (f:=Slt.v) (by decide) (fun _=>Slt.rd)
 exact⟨⟨y0,y1,y2,y3,y4,y5,y6,y7,y8,y9⟩,rfl,⟨b0,b1,b2,b3,b4,b5,b6,b7,b8,b9⟩⟩
def Prof.sh:List CSh:=[.str,.int .i64,.int .i64,.sl true 96 Ftr.sh]
structure Prof.Dk (z:Prof):Prop where
 name:z.name.length≤140737488351232
 foot:-9223372036854775808≤z.foot∧z.foot≤9223372036854775807
 watts:-9223372036854775808≤z.watts∧z.watts≤9223372036854775807
 feats:z.feats.length≤140737488351232∧∀q∈z.feats,q.Dk
theorem Prof.rd {vs:List V}(h:OkCs Prof.sh vs):∃x:Prof,V.agg vs=x.v∧x.Dk:=by
 obtain⟨v0,r0,rfl,h0,t0⟩:=h.cons_inv
 obtain⟨v1,r1,rfl,h1,t1⟩:=t0.cons_inv
 obtain⟨v2,r2,rfl,h2,t2⟩:=t1.cons_inv
 obtain⟨v3,r3,rfl,h3,t3⟩:=t2.cons_inv
 obtain rfl:=t3.nil_inv
 obtain⟨y0,rfl,b0⟩:=h0.str_inv
 obtain⟨y1,rfl,b1⟩:=h1.i64_inv
 obtain⟨y2,rfl,b2⟩:=h2.i64_inv
 obtain⟨y3,rfl,b3⟩:=h3.agg_inv (f:=Ftr.v) (by decide) (fun _=>Ftr.rd)
 exact⟨⟨y0,y1,y2,y3⟩,rfl,⟨b0,b1,b2,b3⟩⟩
def Fixt.sh:List CSh:=[.int .i64,.int .i64,.str,.int .i64,.int .i64,.int .i64,.str]
structure Fixt.Dk (z:Fixt):Prop where
 chan:-9223372036854775808≤z.chan∧z.chan≤9223372036854775807
 part:-9223372036854775808≤z.part∧z.part≤9223372036854775807
 prof:z.prof.length≤140737488351232
 univ:-9223372036854775808≤z.univ∧z.univ≤9223372036854775807
 addr:-9223372036854775808≤z.addr∧z.addr≤9223372036854775807
 phase:-9223372036854775808≤z.phase∧z.phase≤9223372036854775807
 cable:z.cable.length≤140737488351232
theorem Fixt.rd {vs:List V}(h:OkCs Fixt.sh vs):∃x:Fixt,V.agg vs=x.v∧x.Dk:=by
 obtain⟨v0,r0,rfl,h0,t0⟩:=h.cons_inv
 obtain⟨v1,r1,rfl,h1,t1⟩:=t0.cons_inv
 obtain⟨v2,r2,rfl,h2,t2⟩:=t1.cons_inv
 obtain⟨v3,r3,rfl,h3,t3⟩:=t2.cons_inv
 obtain⟨v4,r4,rfl,h4,t4⟩:=t3.cons_inv
 obtain⟨v5,r5,rfl,h5,t5⟩:=t4.cons_inv
 obtain⟨v6,r6,rfl,h6,t6⟩:=t5.cons_inv
 obtain rfl:=t6.nil_inv
 obtain⟨y0,rfl,b0⟩:=h0.i64_inv
 obtain⟨y1,rfl,b1⟩:=h1.i64_inv
 obtain⟨y2,rfl,b2⟩:=h2.str_inv
 obtain⟨y3,rfl,b3⟩:=h3.i64_inv
 obtain⟨y4,rfl,b4⟩:=h4.i64_inv
 obtain⟨y5,rfl,b5⟩:=h5.i64_inv
 obtain⟨y6,rfl,b6⟩:=h6.str_inv
 exact⟨⟨y0,y1,y2,y3,y4,y5,y6⟩,rfl,⟨b0,b1,b2,b3,b4,b5,b6⟩⟩
def Prm.sh:List CSh:=[.int .i64,.int .i64]
structure Prm.Dk (z:Prm):Prop where
 chan:-9223372036854775808≤z.chan∧z.chan≤9223372036854775807
 attr:-9223372036854775808≤z.attr∧z.attr≤9223372036854775807
theorem Prm.rd {vs:List V}(h:OkCs Prm.sh vs):∃x:Prm,V.agg vs=x.v∧x.Dk:=by
 obtain⟨v0,r0,rfl,h0,t0⟩:=h.cons_inv
 obtain⟨v1,r1,rfl,h1,t1⟩:=t0.cons_inv
 obtain rfl:=t1.nil_inv
 obtain⟨y0,rfl,b0⟩:=h0.i64_inv
 obtain⟨y1,rfl,b1⟩:=h1.i64_inv
 exact⟨⟨y0,y1⟩,rfl,⟨b0,b1⟩⟩
def Val.sh:List CSh:=[.int .i64,.int .i64]
structure Val.Dk (z:Val):Prop where
 pal:-9223372036854775808≤z.pal∧z.pal≤9223372036854775807
 lev:-9223372036854775808≤z.lev∧z.lev≤9223372036854775807
theorem Val.rd {vs:List V}(h:OkCs Val.sh vs):∃x:Val,V.agg vs=x.v∧x.Dk:=by
 obtain⟨v0,r0,rfl,h0,t0⟩:=h.cons_inv
 obtain⟨v1,r1,rfl,h1,t1⟩:=t0.cons_inv
 obtain rfl:=t1.nil_inv
 obtain⟨y0,rfl,b0⟩:=h0.i64_inv
 obtain⟨y1,rfl,b1⟩:=h1.i64_inv
 exact⟨⟨y0,y1⟩,rfl,⟨b0,b1⟩⟩
def Grp.sh:List CSh:=[.int .i64,.sl false 8 [.int .i64]]
structure Grp.Dk (z:Grp):Prop where
 num:-9223372036854775808≤z.num∧z.num≤9223372036854775807
 chans:z.chans.length≤140737488351232∧∀q∈z.chans,-9223372036854775808≤q∧q≤9223372036854775807
theorem Grp.rd {vs:List V}(h:OkCs Grp.sh vs):∃x:Grp,V.agg vs=x.v∧x.Dk:=by
 obtain⟨v0,r0,rfl,h0,t0⟩:=h.cons_inv
 obtain⟨v1,r1,rfl,h1,t1⟩:=t0.cons_inv
 obtain rfl:=t1.nil_inv
 obtain⟨y0,rfl,b0⟩:=h0.i64_inv
 obtain⟨y1,rfl,b1⟩:=h1.one_inv (f:=V.int .i64) (by decide) (fun v h=>h.i64_inv)
 exact⟨⟨y0,y1⟩,rfl,⟨b0,b1⟩⟩
def Hue.sh:List CSh:=[.int .i64,.int .i64,.int .i64]
structure Hue.Dk (z:Hue):Prop where
 chan:-9223372036854775808≤z.chan∧z.chan≤9223372036854775807
 attr:-9223372036854775808≤z.attr∧z.attr≤9223372036854775807
 lev:-9223372036854775808≤z.lev∧z.lev≤9223372036854775807
theorem Hue.rd {vs:List V}(h:OkCs Hue.sh vs):∃x:Hue,V.agg vs=x.v∧x.Dk:=by
 obtain⟨v0,r0,rfl,h0,t0⟩:=h.cons_inv
 obtain⟨v1,r1,rfl,h1,t1⟩:=t0.cons_inv
 obtain⟨v2,r2,rfl,h2,t2⟩:=t1.cons_inv
 obtain rfl:=t2.nil_inv
 obtain⟨y0,rfl,b0⟩:=h0.i64_inv
 obtain⟨y1,rfl,b1⟩:=h1.i64_inv
 obtain⟨y2,rfl,b2⟩:=h2.i64_inv
 exact⟨⟨y0,y1,y2⟩,rfl,⟨b0,b1,b2⟩⟩
def Pal.sh:List CSh:=[.int .i64,.sl true 24 Hue.sh]
structure Pal.Dk (z:Pal):Prop where
 num:-9223372036854775808≤z.num∧z.num≤9223372036854775807
 hues:z.hues.length≤140737488351232∧∀q∈z.hues,q.Dk
theorem Pal.rd {vs:List V}(h:OkCs Pal.sh vs):∃x:Pal,V.agg vs=x.v∧x.Dk:=by
 obtain⟨v0,r0,rfl,h0,t0⟩:=h.cons_inv
 obtain⟨v1,r1,rfl,h1,t1⟩:=t0.cons_inv
 obtain rfl:=t1.nil_inv
 obtain⟨y0,rfl,b0⟩:=h0.i64_inv
 obtain⟨y1,rfl,b1⟩:=h1.agg_inv (f:=Hue.v) (by decide) (fun _=>Hue.rd)
 exact⟨⟨y0,y1⟩,rfl,⟨b0,b1⟩⟩
def Tim.sh:List CSh:=[.int .i64,.int .i64,.int .i64,.int .i64,.int .i64,.int .i64]
structure Tim.Dk (z:Tim):Prop where
 up:-9223372036854775808≤z.up∧z.up≤9223372036854775807
 down:-9223372036854775808≤z.down∧z.down≤9223372036854775807
 posi:-9223372036854775808≤z.posi∧z.posi≤9223372036854775807
 colour:-9223372036854775808≤z.colour∧z.colour≤9223372036854775807
 beam:-9223372036854775808≤z.beam∧z.beam≤9223372036854775807
 delay:-9223372036854775808≤z.delay∧z.delay≤9223372036854775807
theorem Tim.rd {vs:List V}(h:OkCs Tim.sh vs):∃x:Tim,V.agg vs=x.v∧x.Dk:=by
 obtain⟨v0,r0,rfl,h0,t0⟩:=h.cons_inv
 obtain⟨v1,r1,rfl,h1,t1⟩:=t0.cons_inv
 obtain⟨v2,r2,rfl,h2,t2⟩:=t1.cons_inv
 obtain⟨v3,r3,rfl,h3,t3⟩:=t2.cons_inv
 obtain⟨v4,r4,rfl,h4,t4⟩:=t3.cons_inv
 obtain⟨v5,r5,rfl,h5,t5⟩:=t4.cons_inv
 obtain rfl:=t5.nil_inv
 obtain⟨y0,rfl,b0⟩:=h0.i64_inv
 obtain⟨y1,rfl,b1⟩:=h1.i64_inv
 obtain⟨y2,rfl,b2⟩:=h2.i64_inv
 obtain⟨y3,rfl,b3⟩:=h3.i64_inv
 obtain⟨y4,rfl,b4⟩:=h4.i64_inv
 obtain⟨y5,rfl,b5⟩:=h5.i64_inv
 exact⟨⟨y0,y1,y2,y3,y4,y5⟩,rfl,⟨b0,b1,b2,b3,b4,b5⟩⟩
def Mov.sh:List CSh:=[.int .i64,.int .i64,.int .i64,.int .i64,.int .i64]
structure Mov.Dk (z:Mov):Prop where
 prm:z.prm.Dk
 val:z.val.Dk
 part:-9223372036854775808≤z.part∧z.part≤9223372036854775807
theorem Mov.rd {vs:List V}(h:OkCs Mov.sh vs):∃x:Mov,V.agg vs=x.v∧x.Dk:=by
 obtain⟨v0,r0,rfl,h0,t0⟩:=h.cons_inv
 obtain⟨v1,r1,rfl,h1,t1⟩:=t0.cons_inv
 obtain⟨v2,r2,rfl,h2,t2⟩:=t1.cons_inv
 obtain⟨v3,r3,rfl,h3,t3⟩:=t2.cons_inv
 obtain⟨v4,r4,rfl,h4,t4⟩:=t3.cons_inv
 obtain rfl:=t4.nil_inv
 obtain⟨y0,rfl,b0⟩:=h0.i64_inv
 obtain⟨y1,rfl,b1⟩:=h1.i64_inv
 obtain⟨y2,rfl,b2⟩:=h2.i64_inv
 obtain⟨y3,rfl,b3⟩:=h3.i64_inv
 obtain⟨y4,rfl,b4⟩:=h4.i64_inv
 exact⟨⟨⟨y0,y1⟩,⟨y2,y3⟩,y4⟩,rfl,⟨⟨b0,b1⟩,⟨b2,b3⟩,b4⟩⟩
def Cu.sh:List CSh:=[.str,.str,.sl true 40 Mov.sh,.sl true 48 Tim.sh,.bool,.bool,.int .i64,.str,.int .i64]
structure Cu.Dk (z:Cu):Prop where
 num:z.num.length≤140737488351232
 label:z.label.length≤140737488351232
 moves:z.moves.length≤140737488351232∧∀q∈z.moves,q.Dk
 parts:z.parts.length≤140737488351232∧∀q∈z.parts,q.Dk
 block:True
 mark:True
 follow:-9223372036854775808≤z.follow∧z.follow≤9223372036854775807
 link:z.link.length≤140737488351232
 loops:-9223372036854775808≤z.loops∧z.loops≤9223372036854775807
theorem Cu.rd {vs:List V}(h:OkCs Cu.sh vs):∃x:Cu,V.agg vs=x.v∧x.Dk:=by
 obtain⟨v0,r0,rfl,h0,t0⟩:=h.cons_inv
 obtain⟨v1,r1,rfl,h1,t1⟩:=t0.cons_inv
 obtain⟨v2,r2,rfl,h2,t2⟩:=t1.cons_inv
 obtain⟨v3,r3,rfl,h3,t3⟩:=t2.cons_inv
 obtain⟨v4,r4,rfl,h4,t4⟩:=t3.cons_inv
 obtain⟨v5,r5,rfl,h5,t5⟩:=t4.cons_inv
 obtain⟨v6,r6,rfl,h6,t6⟩:=t5.cons_inv
 obtain⟨v7,r7,rfl,h7,t7⟩:=t6.cons_inv
 obtain⟨v8,r8,rfl,h8,t8⟩:=t7.cons_inv
 obtain rfl:=t8.nil_inv
 obtain⟨y0,rfl,b0⟩:=h0.str_inv
 obtain⟨y1,rfl,b1⟩:=h1.str_inv
 obtain⟨y2,rfl,b2⟩:=h2.agg_inv (f:=Mov.v) (by decide) (fun _=>Mov.rd)
 obtain⟨y3,rfl,b3⟩:=h3.agg_inv (f:=Tim.v) (by decide) (fun _=>Tim.rd)
 obtain⟨y4,rfl⟩:=h4.bool_inv
 have b4:=trivial
 obtain⟨y5,rfl⟩:=h5.bool_inv
 have b5:=trivial
 obtain⟨y6,rfl,b6⟩:=h6.i64_inv
 obtain⟨y7,rfl,b7⟩:=h7.str_inv
 obtain⟨y8,rfl,b8⟩:=h8.i64_inv
 exact⟨⟨y0,y1,y2,y3,y4,y5,y6,y7,y8⟩,rfl,⟨b0,b1,b2,b3,b4,b5,b6,b7,b8⟩⟩
def Lst.sh:List CSh:=[.int .i64,.int .i64,.sl true 120 Cu.sh]
structure Lst.Dk (z:Lst):Prop where
 num:-9223372036854775808≤z.num∧z.num≤9223372036854775807
 prio:-9223372036854775808≤z.prio∧z.prio≤9223372036854775807
 cues:z.cues.length≤140737488351232∧∀q∈z.cues,q.Dk
theorem Lst.rd {vs:List V}(h:OkCs Lst.sh vs):∃x:Lst,V.agg vs=x.v∧x.Dk:=by
 obtain⟨v0,r0,rfl,h0,t0⟩:=h.cons_inv
 obtain⟨v1,r1,rfl,h1,t1⟩:=t0.cons_inv
 obtain⟨v2,r2,rfl,h2,t2⟩:=t1.cons_inv
 obtain rfl:=t2.nil_inv
 obtain⟨y0,rfl,b0⟩:=h0.i64_inv
 obtain⟨y1,rfl,b1⟩:=h1.i64_inv
 obtain⟨y2,rfl,b2⟩:=h2.agg_inv (f:=Cu.v) (by decide) (fun _=>Cu.rd)
 exact⟨⟨y0,y1,y2⟩,rfl,⟨b0,b1,b2⟩⟩
def Gan.sh:List CSh:=[.int .i64,.int .i64,.int .i64]
structure Gan.Dk (z:Gan):Prop where
 prm:z.prm.Dk
 lev:-9223372036854775808≤z.lev∧z.lev≤9223372036854775807
theorem Gan.rd {vs:List V}(h:OkCs Gan.sh vs):∃x:Gan,V.agg vs=x.v∧x.Dk:=by
 obtain⟨v0,r0,rfl,h0,t0⟩:=h.cons_inv
 obtain⟨v1,r1,rfl,h1,t1⟩:=t0.cons_inv
 obtain⟨v2,r2,rfl,h2,t2⟩:=t1.cons_inv
 obtain rfl:=t2.nil_inv
 obtain⟨y0,rfl,b0⟩:=h0.i64_inv
 obtain⟨y1,rfl,b1⟩:=h1.i64_inv
 obtain⟨y2,rfl,b2⟩:=h2.i64_inv
 exact⟨⟨⟨y0,y1⟩,y2⟩,rfl,⟨⟨b0,b1⟩,b2⟩⟩
def Sb.sh:List CSh:=[.int .i64,.int .i64,.bool,.sl true 24 Gan.sh]
structure Sb.Dk (z:Sb):Prop where
 num:-9223372036854775808≤z.num∧z.num≤9223372036854775807
 prio:-9223372036854775808≤z.prio∧z.prio≤9223372036854775807
 inh:True
 gains:z.gains.length≤140737488351232∧∀q∈z.gains,q.Dk
theorem Sb.rd {vs:List V}(h:OkCs Sb.sh vs):∃x:Sb,V.agg vs=x.v∧x.Dk:=by
 obtain⟨v0,r0,rfl,h0,t0⟩:=h.cons_inv
 obtain⟨v1,r1,rfl,h1,t1⟩:=t0.cons_inv
 obtain⟨v2,r2,rfl,h2,t2⟩:=t1.cons_inv
 obtain⟨v3,r3,rfl,h3,t3⟩:=t2.cons_inv
 obtain rfl:=t3.nil_inv
 obtain⟨y0,rfl,b0⟩:=h0.i64_inv
 obtain⟨y1,rfl,b1⟩:=h1.i64_inv
 obtain⟨y2,rfl⟩:=h2.bool_inv
 have b2:=trivial
 obtain⟨y3,rfl,b3⟩:=h3.agg_inv (f:=Gan.v) (by decide) (fun _=>Gan.rd)
 exact⟨⟨y0,y1,y2,y3⟩,rfl,⟨b0,b1,b2,b3⟩⟩
def Eff.sh:List CSh:=[.int .i64,.int .i64,.sl true 16 Pt.sh,.int .i64,.int .i64,.int .i64]
structure Eff.Dk (z:Eff):Prop where
 num:-9223372036854775808≤z.num∧z.num≤9223372036854775807
 attr:-9223372036854775808≤z.attr∧z.attr≤9223372036854775807
 wave:z.wave.length≤140737488351232∧∀q∈z.wave,q.Dk
 period:-9223372036854775808≤z.period∧z.period≤9223372036854775807
 spread:-9223372036854775808≤z.spread∧z.spread≤9223372036854775807
 size:-9223372036854775808≤z.size∧z.size≤9223372036854775807
theorem Eff.rd {vs:List V}(h:OkCs Eff.sh vs):∃x:Eff,V.agg vs=x.v∧x.Dk:=by
 obtain⟨v0,r0,rfl,h0,t0⟩:=h.cons_inv
 obtain⟨v1,r1,rfl,h1,t1⟩:=t0.cons_inv
 obtain⟨v2,r2,rfl,h2,t2⟩:=t1.cons_inv
 obtain⟨v3,r3,rfl,h3,t3⟩:=t2.cons_inv
 obtain⟨v4,r4,rfl,h4,t4⟩:=t3.cons_inv
 obtain⟨v5,r5,rfl,h5,t5⟩:=t4.cons_inv
 obtain rfl:=t5.nil_inv
 obtain⟨y0,rfl,b0⟩:=h0.i64_inv
 obtain⟨y1,rfl,b1⟩:=h1.i64_inv
 obtain⟨y2,rfl,b2⟩:=h2.agg_inv (f:=Pt.v) (by decide) (fun _=>Pt.rd)
 obtain⟨y3,rfl,b3⟩:=h3.i64_inv
 obtain⟨y4,rfl,b4⟩:=h4.i64_inv
 obtain⟨y5,rfl,b5⟩:=h5.i64_inv
 exact⟨⟨y0,y1,y2,y3,y4,y5⟩,rfl,⟨b0,b1,b2,b3,b4,b5⟩⟩
def Sho.sh:List CSh:=[.str,.sl false 24 [.sl true 16 Pt.sh],.sl true 56 Prof.sh,.sl true 72 Fixt.sh,.sl true 32 Grp.sh,.sl true 32 Pal.sh,.sl true 40 Lst.sh,.sl true 48 Sb.sh,.sl true 64 Eff.sh]
structure Sho.Dk (z:Sho):Prop where
 title:z.title.length≤140737488351232
 curves:z.curves.length≤140737488351232∧∀l∈z.curves,l.length≤140737488351232∧∀q∈l,q.Dk
 profs:z.profs.length≤140737488351232∧∀q∈z.profs,q.Dk
 fixts:z.fixts.length≤140737488351232∧∀q∈z.fixts,q.Dk
 grps:z.grps.length≤140737488351232∧∀q∈z.grps,q.Dk
 pals:z.pals.length≤140737488351232∧∀q∈z.pals,q.Dk
 lsts:z.lsts.length≤140737488351232∧∀q∈z.lsts,q.Dk
 subs:z.subs.length≤140737488351232∧∀q∈z.subs,q.Dk
 effs:z.effs.length≤140737488351232∧∀q∈z.effs,q.Dk
theorem Sho.rd {vs:List V}(h:OkCs Sho.sh vs):∃x:Sho,V.agg vs=x.v∧x.Dk:=by
 obtain⟨v0,r0,rfl,h0,t0⟩:=h.cons_inv
 obtain⟨v1,r1,rfl,h1,t1⟩:=t0.cons_inv
 obtain⟨v2,r2,rfl,h2,t2⟩:=t1.cons_inv
 obtain⟨v3,r3,rfl,h3,t3⟩:=t2.cons_inv
 obtain⟨v4,r4,rfl,h4,t4⟩:=t3.cons_inv
 obtain⟨v5,r5,rfl,h5,t5⟩:=t4.cons_inv
 obtain⟨v6,r6,rfl,h6,t6⟩:=t5.cons_inv
 obtain⟨v7,r7,rfl,h7,t7⟩:=t6.cons_inv
 obtain⟨v8,r8,rfl,h8,t8⟩:=t7.cons_inv
 obtain rfl:=t8.nil_inv
 obtain⟨y0,rfl,b0⟩:=h0.str_inv
 obtain⟨y1,rfl,b1⟩:=h1.one_inv (f:=Pt.vs) (by decide) (fun v h=>h.agg_inv (f:=Pt.v) (by decide) (fun _=>Pt.rd))
 obtain⟨y2,rfl,b2⟩:=h2.agg_inv (f:=Prof.v) (by decide) (fun _=>Prof.rd)
 obtain⟨y3,rfl,b3⟩:=h3.agg_inv (f:=Fixt.v) (by decide) (fun _=>Fixt.rd)
 obtain⟨y4,rfl,b4⟩:=h4.agg_inv (f:=Grp.v) (by decide) (fun _=>Grp.rd)
 obtain⟨y5,rfl,b5⟩:=h5.agg_inv (f:=Pal.v) (by decide) (fun _=>Pal.rd)
 obtain⟨y6,rfl,b6⟩:=h6.agg_inv (f:=Lst.v) (by decide) (fun _=>Lst.rd)
 obtain⟨y7,rfl,b7⟩:=h7.agg_inv (f:=Sb.v) (by decide) (fun _=>Sb.rd)
 obtain⟨y8,rfl,b8⟩:=h8.agg_inv (f:=Eff.v) (by decide) (fun _=>Eff.rd)
 exact⟨⟨y0,y1,y2,y3,y4,y5,y6,y7,y8⟩,rfl,⟨b0,b1,b2,b3,b4,b5,b6,b7,b8⟩⟩
def Edi.sh:List CSh:=[.int .i64,.int .i64,.int .i64,.int .i64,.str,.str,.str,.sl true 40 Mov.sh,.sl true 48 Tim.sh,.bool,.bool,.int .i64,.str,.int .i64,.int .i64,.sl true 24 Hue.sh,.int .i64,.sl false 8 [.int .i64],.int .i64,.int .i64,.bool,.sl true 24 Gan.sh,.int .i64,.int .i64,.sl true 16 Pt.sh,.int .i64,.int .i64,.int .i64,.int .i64,.int .i64,.str,.int .i64,.int .i64,.int .i64,.str]
structure Edi.Dk (z:Edi):Prop where
 kind:-9223372036854775808≤z.kind∧z.kind≤9223372036854775807
 num:-9223372036854775808≤z.num∧z.num≤9223372036854775807
 chan:-9223372036854775808≤z.chan∧z.chan≤9223372036854775807
 prio:-9223372036854775808≤z.prio∧z.prio≤9223372036854775807
 key:z.key.length≤140737488351232
 cue:z.cue.Dk
 pal:z.pal.Dk
 grp:z.grp.Dk
 sub:z.sub.Dk
 eff:z.eff.Dk
 fix:z.fix.Dk
theorem Edi.rd {vs:List V}(h:OkCs Edi.sh vs):∃x:Edi,V.agg vs=x.v∧x.Dk:=by
 obtain⟨v0,r0,rfl,h0,t0⟩:=h.cons_inv
 obtain⟨v1,r1,rfl,h1,t1⟩:=t0.cons_inv
 obtain⟨v2,r2,rfl,h2,t2⟩:=t1.cons_inv
 obtain⟨v3,r3,rfl,h3,t3⟩:=t2.cons_inv
 obtain⟨v4,r4,rfl,h4,t4⟩:=t3.cons_inv
 obtain⟨v5,r5,rfl,h5,t5⟩:=t4.cons_inv
 obtain⟨v6,r6,rfl,h6,t6⟩:=t5.cons_inv
 obtain⟨v7,r7,rfl,h7,t7⟩:=t6.cons_inv
 obtain⟨v8,r8,rfl,h8,t8⟩:=t7.cons_inv
 obtain⟨v9,r9,rfl,h9,t9⟩:=t8.cons_inv
 obtain⟨v10,r10,rfl,h10,t10⟩:=t9.cons_inv
 obtain⟨v11,r11,rfl,h11,t11⟩:=t10.cons_inv
 obtain⟨v12,r12,rfl,h12,t12⟩:=t11.cons_inv
 obtain⟨v13,r13,rfl,h13,t13⟩:=t12.cons_inv
 obtain⟨v14,r14,rfl,h14,t14⟩:=t13.cons_inv
 obtain⟨v15,r15,rfl,h15,t15⟩:=t14.cons_inv
 obtain⟨v16,r16,rfl,h16,t16⟩:=t15.cons_inv
 obtain⟨v17,r17,rfl,h17,t17⟩:=t16.cons_inv
 obtain⟨v18,r18,rfl,h18,t18⟩:=t17.cons_inv
 obtain⟨v19,r19,rfl,h19,t19⟩:=t18.cons_inv
 obtain⟨v20,r20,rfl,h20,t20⟩:=t19.cons_inv
 obtain⟨v21,r21,rfl,h21,t21⟩:=t20.cons_inv
 obtain⟨v22,r22,rfl,h22,t22⟩:=t21.cons_inv
 obtain⟨v23,r23,rfl,h23,t23⟩:=t22.cons_inv
 obtain⟨v24,r24,rfl,h24,t24⟩:=t23.cons_inv
 obtain⟨v25,r25,rfl,h25,t25⟩:=t24.cons_inv
 obtain⟨v26,r26,rfl,h26,t26⟩:=t25.cons_inv
 obtain⟨v27,r27,rfl,h27,t27⟩:=t26.cons_inv
 obtain⟨v28,r28,rfl,h28,t28⟩:=t27.cons_inv
 obtain⟨v29,r29,rfl,h29,t29⟩:=t28.cons_inv
 obtain⟨v30,r30,rfl,h30,t30⟩:=t29.cons_inv
 obtain⟨v31,r31,rfl,h31,t31⟩:=t30.cons_inv
 obtain⟨v32,r32,rfl,h32,t32⟩:=t31.cons_inv
 obtain⟨v33,r33,rfl,h33,t33⟩:=t32.cons_inv
 obtain⟨v34,r34,rfl,h34,t34⟩:=t33.cons_inv
 obtain rfl:=t34.nil_inv
 obtain⟨y0,rfl,b0⟩:=h0.i64_inv
 obtain⟨y1,rfl,b1⟩:=h1.i64_inv
 obtain⟨y2,rfl,b2⟩:=h2.i64_inv
 obtain⟨y3,rfl,b3⟩:=h3.i64_inv
 obtain⟨y4,rfl,b4⟩:=h4.str_inv
 obtain⟨y5,rfl,b5⟩:=h5.str_inv
 obtain⟨y6,rfl,b6⟩:=h6.str_inv
 obtain⟨y7,rfl,b7⟩:=h7.agg_inv (f:=Mov.v) (by decide) (fun _=>Mov.rd)
 obtain⟨y8,rfl,b8⟩:=h8.agg_inv (f:=Tim.v) (by decide) (fun _=>Tim.rd)
 obtain⟨y9,rfl⟩:=h9.bool_inv
 have b9:=trivial
 obtain⟨y10,rfl⟩:=h10.bool_inv
 have b10:=trivial
 obtain⟨y11,rfl,b11⟩:=h11.i64_inv
 obtain⟨y12,rfl,b12⟩:=h12.str_inv
 obtain⟨y13,rfl,b13⟩:=h13.i64_inv
 obtain⟨y14,rfl,b14⟩:=h14.i64_inv
 obtain⟨y15,rfl,b15⟩:=h15.agg_inv (f:=Hue.v) (by decide) (fun _=>Hue.rd)
 obtain⟨y16,rfl,b16⟩:=h16.i64_inv
 obtain⟨y17,rfl,b17⟩:=h17.one_inv (f:=V.int .i64) (by decide) (fun v h=>h.i64_inv)
 obtain⟨y18,rfl,b18⟩:=h18.i64_inv
 obtain⟨y19,rfl,b19⟩:=h19.i64_inv
 obtain⟨y20,rfl⟩:=h20.bool_inv
 have b20:=trivial
 obtain⟨y21,rfl,b21⟩:=h21.agg_inv (f:=Gan.v) (by decide) (fun _=>Gan.rd)
 obtain⟨y22,rfl,b22⟩:=h22.i64_inv
 obtain⟨y23,rfl,b23⟩:=h23.i64_inv
 obtain⟨y24,rfl,b24⟩:=h24.agg_inv (f:=Pt.v) (by decide) (fun _=>Pt.rd)
 obtain⟨y25,rfl,b25⟩:=h25.i64_inv
 obtain⟨y26,rfl,b26⟩:=h26.i64_inv
 obtain⟨y27,rfl,b27⟩:=h27.i64_inv
 obtain⟨y28,rfl,b28⟩:=h28.i64_inv
 obtain⟨y29,rfl,b29⟩:=h29.i64_inv
 obtain⟨y30,rfl,b30⟩:=h30.str_inv
 obtain⟨y31,rfl,b31⟩:=h31.i64_inv
 obtain⟨y32,rfl,b32⟩:=h32.i64_inv
 obtain⟨y33,rfl,b33⟩:=h33.i64_inv
 obtain⟨y34,rfl,b34⟩:=h34.str_inv
 exact⟨⟨y0,y1,y2,y3,y4,⟨y5,y6,y7,y8,y9,y10,y11,y12,y13⟩,⟨y14,y15⟩,⟨y16,y17⟩,⟨y18,y19,y20,y21⟩,⟨y22,y23,y24,y25,y26,y27⟩,⟨y28,y29,y30,y31,y32,y33,y34⟩⟩,rfl,⟨b0,b1,b2,b3,b4,⟨b5,b6,b7,b8,b9,b10,b11,b12,b13⟩,⟨b14,b15⟩,⟨b16,b17⟩,⟨b18,b19,b20,b21⟩,⟨b22,b23,b24,b25,b26,b27⟩,⟨b28,b29,b30,b31,b32,b33,b34⟩⟩⟩
def His.sh:List CSh:=[.sl true 208 Sho.sh,.str,.sl false 24 [.sl true 16 Pt.sh],.sl true 56 Prof.sh,.sl true 72 Fixt.sh,.sl true 32 Grp.sh,.sl true 32 Pal.sh,.sl true 40 Lst.sh,.sl true 48 Sb.sh,.sl true 64 Eff.sh,.sl true 208 Sho.sh]
structure His.Dk (z:His):Prop where
 past:z.past.length≤140737488351232∧∀q∈z.past,q.Dk
 shw:z.shw.Dk
 fut:z.fut.length≤140737488351232∧∀q∈z.fut,q.Dk
theorem His.rd {vs:List V}(h:OkCs His.sh vs):∃x:His,V.agg vs=x.v∧x.Dk:=by
 obtain⟨v0,r0,rfl,h0,t0⟩:=h.cons_inv
 obtain⟨v1,r1,rfl,h1,t1⟩:=t0.cons_inv
 obtain⟨v2,r2,rfl,h2,t2⟩:=t1.cons_inv
 obtain⟨v3,r3,rfl,h3,t3⟩:=t2.cons_inv
 obtain⟨v4,r4,rfl,h4,t4⟩:=t3.cons_inv
 obtain⟨v5,r5,rfl,h5,t5⟩:=t4.cons_inv
 obtain⟨v6,r6,rfl,h6,t6⟩:=t5.cons_inv
 obtain⟨v7,r7,rfl,h7,t7⟩:=t6.cons_inv
 obtain⟨v8,r8,rfl,h8,t8⟩:=t7.cons_inv
 obtain⟨v9,r9,rfl,h9,t9⟩:=t8.cons_inv
 obtain⟨v10,r10,rfl,h10,t10⟩:=t9.cons_inv
 obtain rfl:=t10.nil_inv
 obtain⟨y0,rfl,b0⟩:=h0.agg_inv (f:=Sho.v) (by decide) (fun _=>Sho.rd)
 obtain⟨y1,rfl,b1⟩:=h1.str_inv
 obtain⟨y2,rfl,b2⟩:=h2.one_inv (f:=Pt.vs) (by decide) (fun v h=>h.agg_inv (f:=Pt.v) (by decide) (fun _=>Pt.rd))
 obtain⟨y3,rfl,b3⟩:=h3.agg_inv (f:=Prof.v) (by decide) (fun _=>Prof.rd)
 obtain⟨y4,rfl,b4⟩:=h4.agg_inv (f:=Fixt.v) (by decide) (fun _=>Fixt.rd)
 obtain⟨y5,rfl,b5⟩:=h5.agg_inv (f:=Grp.v) (by decide) (fun _=>Grp.rd)
 obtain⟨y6,rfl,b6⟩:=h6.agg_inv (f:=Pal.v) (by decide) (fun _=>Pal.rd)
 obtain⟨y7,rfl,b7⟩:=h7.agg_inv (f:=Lst.v) (by decide) (fun _=>Lst.rd)
 obtain⟨y8,rfl,b8⟩:=h8.agg_inv (f:=Sb.v) (by decide) (fun _=>Sb.rd)
 obtain⟨y9,rfl,b9⟩:=h9.agg_inv (f:=Eff.v) (by decide) (fun _=>Eff.rd)
 obtain⟨y10,rfl,b10⟩:=h10.agg_inv (f:=Sho.v) (by decide) (fun _=>Sho.rd)
 exact⟨⟨y0,⟨y1,y2,y3,y4,y5,y6,y7,y8,y9⟩,y10⟩,rfl,⟨b0,⟨b1,b2,b3,b4,b5,b6,b7,b8,b9⟩,b10⟩⟩
theorem Pt.inj {x y:Pt}(h:x.v=y.v):x=y:=by
 obtain⟨x0,x1⟩:=x;obtain⟨y0,y1⟩:=y
 simp only[Pt.v,V.agg.injEq,List.cons.injEq,V.int.injEq,V.str.injEq,V.bool.injEq,V.sl.injEq,true_and,and_true]at h
 obtain⟨h0,h1⟩:=h
 cases h0
 cases h1
 rfl
theorem Slt.inj {x y:Slt}(h:x.v=y.v):x=y:=by
 obtain⟨x0,x1,x2⟩:=x;obtain⟨y0,y1,y2⟩:=y
 simp only[Slt.v,V.agg.injEq,List.cons.injEq,V.int.injEq,V.str.injEq,V.bool.injEq,V.sl.injEq,true_and,and_true]at h
 obtain⟨h0,h1,h2⟩:=h
 cases h0
 cases h1
 cases h2
 rfl
theorem Ftr.inj {x y:Ftr}(h:x.v=y.v):x=y:=by
 obtain⟨x0,x1,x2,x3,x4,x5,x6,x7,x8,x9⟩:=x;obtain⟨y0,y1,y2,y3,y4,y5,y6,y7,y8,y9⟩:=y
 simp only[Ftr.v,V.agg.injEq,List.cons.injEq,V.int.injEq,V.str.injEq,V.bool.injEq,V.sl.injEq,true_and,and_true]at h
 obtain⟨h0,h1,h2,h3,h4,h5,h6,h7,h8,h9⟩:=h
 cases h0
 cases h1
 cases h2
 cases h3
 cases h4
 cases h5
 cases h6
 cases h7
 cases h8
 cases map_inj Slt.inj h9
 rfl
theorem Prof.inj {x y:Prof}(h:x.v=y.v):x=y:=by
 obtain⟨x0,x1,x2,x3⟩:=x;obtain⟨y0,y1,y2,y3⟩:=y
 simp only[Prof.v,V.agg.injEq,List.cons.injEq,V.int.injEq,V.str.injEq,V.bool.injEq,V.sl.injEq,true_and,and_true]at h
 obtain⟨h0,h1,h2,h3⟩:=h
 cases h0
 cases h1
 cases h2
 cases map_inj Ftr.inj h3
 rfl
theorem Fixt.inj {x y:Fixt}(h:x.v=y.v):x=y:=by
 obtain⟨x0,x1,x2,x3,x4,x5,x6⟩:=x;obtain⟨y0,y1,y2,y3,y4,y5,y6⟩:=y
 simp only[Fixt.v,V.agg.injEq,List.cons.injEq,V.int.injEq,V.str.injEq,V.bool.injEq,V.sl.injEq,true_and,and_true]at h
 obtain⟨h0,h1,h2,h3,h4,h5,h6⟩:=h
 cases h0
 cases h1
 cases h2
 cases h3
 cases h4
 cases h5
 cases h6
 rfl
theorem Prm.inj {x y:Prm}(h:x.v=y.v):x=y:=by
 obtain⟨x0,x1⟩:=x;obtain⟨y0,y1⟩:=y
 simp only[Prm.v,V.agg.injEq,List.cons.injEq,V.int.injEq,V.str.injEq,V.bool.injEq,V.sl.injEq,true_and,and_true]at h
 obtain⟨h0,h1⟩:=h
 cases h0
 cases h1
 rfl
theorem Val.inj {x y:Val}(h:x.v=y.v):x=y:=by
 obtain⟨x0,x1⟩:=x;obtain⟨y0,y1⟩:=y
 simp only[Val.v,V.agg.injEq,List.cons.injEq,V.int.injEq,V.str.injEq,V.bool.injEq,V.sl.injEq,true_and,and_true]at h
 obtain⟨h0,h1⟩:=h
 cases h0
 cases h1
 rfl
theorem Grp.inj {x y:Grp}(h:x.v=y.v):x=y:=by
 obtain⟨x0,x1⟩:=x;obtain⟨y0,y1⟩:=y
 simp only[Grp.v,V.agg.injEq,List.cons.injEq,V.int.injEq,V.str.injEq,V.bool.injEq,V.sl.injEq,true_and,and_true]at h
 obtain⟨h0,h1⟩:=h
 cases h0
 cases map_inj (f:=V.int .i64) (fun h=>(V.int.inj h).2) h1
 rfl
theorem Hue.inj {x y:Hue}(h:x.v=y.v):x=y:=by
 obtain⟨x0,x1,x2⟩:=x;obtain⟨y0,y1,y2⟩:=y
 simp only[Hue.v,V.agg.injEq,List.cons.injEq,V.int.injEq,V.str.injEq,V.bool.injEq,V.sl.injEq,true_and,and_true]at h
 obtain⟨h0,h1,h2⟩:=h
 cases h0
 cases h1
 cases h2
 rfl
theorem Pal.inj {x y:Pal}(h:x.v=y.v):x=y:=by
 obtain⟨x0,x1⟩:=x;obtain⟨y0,y1⟩:=y
 simp only[Pal.v,V.agg.injEq,List.cons.injEq,V.int.injEq,V.str.injEq,V.bool.injEq,V.sl.injEq,true_and,and_true]at h
 obtain⟨h0,h1⟩:=h
 cases h0
 cases map_inj Hue.inj h1
 rfl
theorem Tim.inj {x y:Tim}(h:x.v=y.v):x=y:=by
 obtain⟨x0,x1,x2,x3,x4,x5⟩:=x;obtain⟨y0,y1,y2,y3,y4,y5⟩:=y
 simp only[Tim.v,V.agg.injEq,List.cons.injEq,V.int.injEq,V.str.injEq,V.bool.injEq,V.sl.injEq,true_and,and_true]at h
 obtain⟨h0,h1,h2,h3,h4,h5⟩:=h
 cases h0
 cases h1
 cases h2
 cases h3
 cases h4
 cases h5
 rfl
theorem Mov.inj {x y:Mov}(h:x.v=y.v):x=y:=by
 obtain⟨⟨x0,x1⟩,⟨x2,x3⟩,x4⟩:=x;obtain⟨⟨y0,y1⟩,⟨y2,y3⟩,y4⟩:=y
 simp only[Mov.v,V.agg.injEq,List.cons.injEq,V.int.injEq,V.str.injEq,V.bool.injEq,V.sl.injEq,true_and,and_true]at h
 obtain⟨h0,h1,h2,h3,h4⟩:=h
 cases h0
 cases h1
 cases h2
 cases h3
 cases h4
 rfl
theorem Cu.inj {x y:Cu}(h:x.v=y.v):x=y:=by
 obtain⟨x0,x1,x2,x3,x4,x5,x6,x7,x8⟩:=x;obtain⟨y0,y1,y2,y3,y4,y5,y6,y7,y8⟩:=y
 simp only[Cu.v,V.agg.injEq,List.cons.injEq,V.int.injEq,V.str.injEq,V.bool.injEq,V.sl.injEq,true_and,and_true]at h
 obtain⟨h0,h1,h2,h3,h4,h5,h6,h7,h8⟩:=h
 cases h0
 cases h1
 cases map_inj Mov.inj h2
 cases map_inj Tim.inj h3
 cases h4
 cases h5
 cases h6
 cases h7
 cases h8
 rfl
theorem Lst.inj {x y:Lst}(h:x.v=y.v):x=y:=by
 obtain⟨x0,x1,x2⟩:=x;obtain⟨y0,y1,y2⟩:=y
 simp only[Lst.v,V.agg.injEq,List.cons.injEq,V.int.injEq,V.str.injEq,V.bool.injEq,V.sl.injEq,true_and,and_true]at h
 obtain⟨h0,h1,h2⟩:=h
 cases h0
 cases h1
 cases map_inj Cu.inj h2
 rfl
theorem Gan.inj {x y:Gan}(h:x.v=y.v):x=y:=by
 obtain⟨⟨x0,x1⟩,x2⟩:=x;obtain⟨⟨y0,y1⟩,y2⟩:=y
 simp only[Gan.v,V.agg.injEq,List.cons.injEq,V.int.injEq,V.str.injEq,V.bool.injEq,V.sl.injEq,true_and,and_true]at h
 obtain⟨h0,h1,h2⟩:=h
 cases h0
 cases h1
 cases h2
 rfl
theorem Sb.inj {x y:Sb}(h:x.v=y.v):x=y:=by
 obtain⟨x0,x1,x2,x3⟩:=x;obtain⟨y0,y1,y2,y3⟩:=y
 simp only[Sb.v,V.agg.injEq,List.cons.injEq,V.int.injEq,V.str.injEq,V.bool.injEq,V.sl.injEq,true_and,and_true]at h
 obtain⟨h0,h1,h2,h3⟩:=h
 cases h0
 cases h1
 cases h2
 cases map_inj Gan.inj h3
 rfl
theorem Eff.inj {x y:Eff}(h:x.v=y.v):x=y:=by
 obtain⟨x0,x1,x2,x3,x4,x5⟩:=x;obtain⟨y0,y1,y2,y3,y4,y5⟩:=y
 simp only[Eff.v,V.agg.injEq,List.cons.injEq,V.int.injEq,V.str.injEq,V.bool.injEq,V.sl.injEq,true_and,and_true]at h
 obtain⟨h0,h1,h2,h3,h4,h5⟩:=h
 cases h0
 cases h1
 cases map_inj Pt.inj h2
 cases h3
 cases h4
 cases h5
 rfl
theorem Sho.inj {x y:Sho}(h:x.v=y.v):x=y:=by
 obtain⟨x0,x1,x2,x3,x4,x5,x6,x7,x8⟩:=x;obtain⟨y0,y1,y2,y3,y4,y5,y6,y7,y8⟩:=y
 simp only[Sho.v,V.agg.injEq,List.cons.injEq,V.int.injEq,V.str.injEq,V.bool.injEq,V.sl.injEq,true_and,and_true]at h
 obtain⟨h0,h1,h2,h3,h4,h5,h6,h7,h8⟩:=h
 cases h0
 cases map_inj (f:=Pt.vs) (fun h=>map_inj Pt.inj (V.sl.inj h)) h1
 cases map_inj Prof.inj h2
 cases map_inj Fixt.inj h3
 cases map_inj Grp.inj h4
 cases map_inj Pal.inj h5
 cases map_inj Lst.inj h6
 cases map_inj Sb.inj h7
 cases map_inj Eff.inj h8
 rfl
theorem Edi.inj {x y:Edi}(h:x.v=y.v):x=y:=by
 obtain⟨x0,x1,x2,x3,x4,⟨x5,x6,x7,x8,x9,x10,x11,x12,x13⟩,⟨x14,x15⟩,⟨x16,x17⟩,⟨x18,x19,x20,x21⟩,⟨x22,x23,x24,x25,x26,x27⟩,⟨x28,x29,x30,x31,x32,x33,x34⟩⟩:=x;obtain⟨y0,y1,y2,y3,y4,⟨y5,y6,y7,y8,y9,y10,y11,y12,y13⟩,⟨y14,y15⟩,⟨y16,y17⟩,⟨y18,y19,y20,y21⟩,⟨y22,y23,y24,y25,y26,y27⟩,⟨y28,y29,y30,y31,y32,y33,y34⟩⟩:=y
 simp only[Edi.v,V.agg.injEq,List.cons.injEq,V.int.injEq,V.str.injEq,V.bool.injEq,V.sl.injEq,true_and,and_true]at h
 obtain⟨h0,h1,h2,h3,h4,h5,h6,h7,h8,h9,h10,h11,h12,h13,h14,h15,h16,h17,h18,h19,h20,h21,h22,h23,h24,h25,h26,h27,h28,h29,h30,h31,h32,h33,h34⟩:=h
 cases h0
 cases h1
 cases h2
 cases h3
 cases h4
 cases h5
 cases h6
 cases map_inj Mov.inj h7
 cases map_inj Tim.inj h8
 cases h9
 cases h10
 cases h11
 cases h12
 cases h13
 cases h14
 cases map_inj Hue.inj h15
 cases h16
 cases map_inj (f:=V.int .i64) (fun h=>(V.int.inj h).2) h17
 cases h18
 cases h19
 cases h20
 cases map_inj Gan.inj h21
 cases h22
 cases h23
 cases map_inj Pt.inj h24
 cases h25
 cases h26
 cases h27
 cases h28
 cases h29
 cases h30
 cases h31
 cases h32
 cases h33
 cases h34
 rfl
theorem His.inj {x y:His}(h:x.v=y.v):x=y:=by
 obtain⟨x0,⟨x1,x2,x3,x4,x5,x6,x7,x8,x9⟩,x10⟩:=x;obtain⟨y0,⟨y1,y2,y3,y4,y5,y6,y7,y8,y9⟩,y10⟩:=y
 simp only[His.v,V.agg.injEq,List.cons.injEq,V.int.injEq,V.str.injEq,V.bool.injEq,V.sl.injEq,true_and,and_true]at h
 obtain⟨h0,h1,h2,h3,h4,h5,h6,h7,h8,h9,h10⟩:=h
 cases map_inj Sho.inj h0
 cases h1
 cases map_inj (f:=Pt.vs) (fun h=>map_inj Pt.inj (V.sl.inj h)) h2
 cases map_inj Prof.inj h3
 cases map_inj Fixt.inj h4
 cases map_inj Grp.inj h5
 cases map_inj Pal.inj h6
 cases map_inj Lst.inj h7
 cases map_inj Sb.inj h8
 cases map_inj Eff.inj h9
 cases map_inj Sho.inj h10
 rfl
end Go.Proofs.YtaneehgfdpadjaaGreatDoor

namespace Go.Proofs.YtaneehgfdpadjaaGreatDoor
open Go.Sha
set_option maxRecDepth 100000
theorem Cu.Dk.ok {x:Cu}(h:x.Dk):x.ok:=⟨by have:=h.num;omega,by have:=h.label;omega,by have:=h.moves.1;omega,by have:=h.parts.1;omega,by have:=h.link;omega⟩
theorem Lst.Dk.ok {x:Lst}(h:x.Dk):x.ok:=⟨by have:=h.cues.1;omega,fun q hq=>(h.cues.2 q hq).ok⟩
theorem Prof.Dk.ok {x:Prof}(h:x.Dk):x.ok∧x.okR:=⟨⟨by have:=h.feats.1;omega,fun q hq=>by have:=(h.feats.2 q hq).wheel.1;omega,by have:=h.name;omega⟩,
 by have:=h.feats.1;omega,fun q hq=>⟨by have:=(h.feats.2 q hq).wheel.1;omega,fun z hz=>by have:=((h.feats.2 q hq).wheel.2 z hz).name;omega⟩,by have:=h.name;omega⟩
theorem Sho.Dk.ok {x : Sho}(h : x.Dk) : x.ok :=
  ⟨by have := h.title; omega, ⟨by have := h.curves.1; omega, fun q hq => by have := (h.curves.2 q hq).1; omega⟩, ⟨by have := h.profs.1; omega, fun q hq => (h.profs.2 q hq).ok.1, fun q hq => (h.profs.2 q hq).ok.2⟩,
   ⟨by have := h.fixts.1; omega, fun q hq => by have := (h.fixts.2 q hq).cable; omega⟩, ⟨by have := h.grps.1; omega, fun q hq => by have := (h.grps.2 q hq).chans.1; omega⟩, ⟨by have := h.pals.1; omega, fun q hq => by have := (h.pals.2 q hq).hues.1; omega⟩,
   ⟨by have := h.lsts.1; omega, fun q hq => (h.lsts.2 q hq).ok⟩, ⟨by have := h.subs.1; omega, fun q hq => by have := (h.subs.2 q hq).gains.1; omega⟩, ⟨by have := h.effs.1; omega, fun q hq => by have := (h.effs.2 q hq).wave.1; omega⟩⟩
end Go.Proofs.YtaneehgfdpadjaaGreatDoor

namespace Go.Proofs.YtaneehgfdpadjaaGreatDoor
open Go.Sha
set_option maxRecDepth 10000
theorem F98:compF Tryz.prog 98=some ⟨12,[.tmp 4],(.g [.c 4 0] (.join [1] (.join [1,10] (.reg [.m 5 1,.v 6 .eql 5 0,.m 7 6,.my 8 0 7,.y 9 (.un .not (.t 8)) 7,.e 10 7 9]) (.i 10 (.g [.c 4 6] (.ret [4])) .skip)) (.g [.m 11 1,.m 4 11] (.ret [4]))))⟩:=by kernel_rfl
def B230_0:Cd:=(.g [.b 14 .lss 13 12] (.join [0,1,12,13] (.i 14 .skip (.exit [] 0)) (.join [0,1,12,13] (.block 1 (.g [.m 15 13,.m 5 15] (.q (.dreg 9 [.m 16 0,.m 17 5,.r 18 5 16 17,.d 19 5 18,.m 20 1,.m 21 5,.r 22 5 20 21,.d 23 5 22,.s 24 (.eqs true [.i,.i,.i,.i,.i] (.t 19) (.t 23))]) (.i 24 (.g [.k 4 false] (.ret [4])) .skip)))) (.reg [.v 25 .add 13 1,.m 13 25]))))
theorem F230:compF Tryz.prog 230=some ⟨26,[.tmp 4],(.g [.k 4 false] (.join [0,1] (.g [.m 6 0,.u 7 6,.m 8 1,.u 9 8,.b 10 .neq 7 9] (.i 10 (.g [.k 4 false] (.ret [4])) .skip)) (.join [] (.g [.m 11 0,.u 12 11,.c 13 0] (.block 0 (.loop [0,1,12,13] [] B230_0))) (.g [.k 4 true] (.ret [4])))))⟩:=by kernel_rfl
def B231_0:Cd:=(.g [.b 14 .lss 13 12] (.join [0,1,12,13] (.i 14 .skip (.exit [] 0)) (.join [0,1,12,13] (.block 1 (.g [.m 15 13,.m 5 15] (.q (.dreg 9 [.m 16 0,.m 17 5,.r 18 6 16 17,.d 19 6 18,.m 20 1,.m 21 5,.r 22 6 20 21,.d 23 6 22,.s 24 (.eqs true [.i,.i,.i,.i,.i,.i] (.t 19) (.t 23))]) (.i 24 (.g [.k 4 false] (.ret [4])) .skip)))) (.reg [.v 25 .add 13 1,.m 13 25]))))
theorem F231:compF Tryz.prog 231=some ⟨26,[.tmp 4],(.g [.k 4 false] (.join [0,1] (.g [.m 6 0,.u 7 6,.m 8 1,.u 9 8,.b 10 .neq 7 9] (.i 10 (.g [.k 4 false] (.ret [4])) .skip)) (.join [] (.g [.m 11 0,.u 12 11,.c 13 0] (.block 0 (.loop [0,1,12,13] [] B231_0))) (.g [.k 4 true] (.ret [4])))))⟩:=by kernel_rfl
def B44_0:Cd:=(.g [.b 16 .lss 15 14] (.join [1,13,14,15] (.i 16 .skip (.exit [] 0)) (.join [1,13,14,15] (.block 1 (.g [.r 17 2 13 15,.d 18 2 17,.s 4 (.alloc 152 [.nils,.nilf]),.w 2 4 18] (.z [4] (.join [1,13,14,15,31] (.reg [.a 19 0 4,.l 20 19,.a 21 0 1,.l 22 21,.g' 23 91 20 22,.z 24 23,.m 25 24,.ay 26 1 4 25,.ly 27 26 25,.y 28 (.load (some 35) (.t 1)) 25,.y 29 (.call (.t 27) [.t 28]) 25,.y 30 (.un .not (.t 29)) 25,.e 31 25 30]) (.i 31 (.g [.c 2 3] (.ret [2])) .skip))))) (.reg [.v 32 .add 15 1,.m 15 32]))))
theorem F44:compF Tryz.prog 44=some ⟨33,[.tmp 2],(.g [.q 1 51 0,.c 2 0] (.z [1] (.join [1] (.join [1,12] (.reg [.a 5 0 1,.l 6 5,.v 7 .lss 6 0,.m 8 7,.ax 9 0 1 8,.lx 10 9 8,.vx 11 .gtr 10 13 8,.o 12 8 11]) (.i 12 (.g [.c 2 1] (.ret [2])) .skip)) (.join [] (.g [.s 13 (.f 90 []),.u 14 13,.c 15 0] (.block 0 (.loop [1,13,14,15] [] B44_0))) (.g [.c 2 0] (.ret [2]))))))⟩:=by kernel_rfl
theorem F90:compF Tryz.prog 90=some ⟨43,[.tmp 0],(.g [.s 0 (.mv (.c .nils))] (.g [.s 1 (.mv (.c (.fn (.func 143) [] [])))] (.g [.m 2 1,.s 3 (.bslice 3 1 [.i 0,.i 1,.i 2,.i 4,.i 6,.i 8,.i 10,.i 12]),.s 4 (.call (.t 2) [.t 3]),.s 5 (.build [.nils,.nilf] [(0,1,(.t 4)),(1,1,(.c (.fn (.func 144) [] [])))]),.m 6 1,.s 7 (.bslice 3 1 [.i 12]),.s 8 (.call (.t 6) [.t 7]),.s 9 (.build [.nils,.nilf] [(0,1,(.t 8)),(1,1,(.c (.fn (.func 145) [] [])))]),.m 10 1,.s 11 (.bslice 3 1 [.i 2]),.s 12 (.call (.t 10) [.t 11]),.s 13 (.build [.nils,.nilf] [(0,1,(.t 12)),(1,1,(.c (.fn (.func 146) [] [])))]),.m 14 1,.s 15 (.bslice 3 1 [.i 1,.i 13]),.s 16 (.call (.t 14) [.t 15]),.s 17 (.build [.nils,.nilf] [(0,1,(.t 16)),(1,1,(.c (.fn (.func 147) [] [])))]),.m 18 1,.s 19 (.bslice 3 1 [.i 0]),.s 20 (.call (.t 18) [.t 19]),.s 21 (.build [.nils,.nilf] [(0,1,(.t 20)),(1,1,(.c (.fn (.func 148) [] [])))]),.m 22 1,.s 23 (.bslice 3 1 [.i 3]),.s 24 (.call (.t 22) [.t 23]),.s 25 (.build [.nils,.nilf] [(0,1,(.t 24)),(1,1,(.c (.fn (.func 150) [] [])))]),.m 26 1,.s 27 (.bslice 3 1 [.i 5]),.s 28 (.call (.t 26) [.t 27]),.s 29 (.build [.nils,.nilf] [(0,1,(.t 28)),(1,1,(.c (.fn (.func 151) [] [])))]),.m 30 1,.s 31 (.bslice 3 1 [.i 7]),.s 32 (.call (.t 30) [.t 31]),.s 33 (.build [.nils,.nilf] [(0,1,(.t 32)),(1,1,(.c (.fn (.func 152) [] [])))]),.m 34 1,.s 35 (.bslice 3 1 [.i 9]),.s 36 (.call (.t 34) [.t 35]),.s 37 (.build [.nils,.nilf] [(0,1,(.t 36)),(1,1,(.c (.fn (.func 153) [] [])))]),.m 38 1,.s 39 (.bslice 3 1 [.i 11]),.s 40 (.call (.t 38) [.t 39]),.s 41 (.build [.nils,.nilf] [(0,1,(.t 40)),(1,1,(.c (.fn (.func 154) [] [])))]),.s 42 (.bslice 152 2 [.t 5,.t 9,.t 13,.t 17,.t 21,.t 25,.t 29,.t 33,.t 37,.t 41]),.m 0 42] (.ret [0]))))⟩:=by kernel_rfl
theorem F21:compF Tryz.prog 21=some ⟨72,[.cell 4 (some 9),.tmp 5],(.g [.q 2 31 0,.q 3 51 1,.s 4 (.alloc 31 [(.str []),.nils,.nils,.nils,.nils,.nils,.nils,.nils,.nils]),.c 5 0] (.z [2,3] (.join [2,3,4] (.g [.d 11 35 3,.f 12 44 11,.m 6 12] (.g [.m 13 6,.v 14 .neq 13 0] (.i 14 (.g [.s 15 (.build [(.str []),.nils,.nils,.nils,.nils,.nils,.nils,.nils,.nils] []),.m 16 6,.w 9 4 15,.m 5 16] (.ret [4,5])) .skip))) (.g [.d 17 9 2,.d 18 35 3,.s 19 (.build [(.str []),.nils,.nils,.nils,.nils,.nils,.nils,.nils,.nils,.i 0,.i 0,.i 0,.i 0,(.str []),(.str []),(.str []),.nils,.nils,(.bool false),(.bool false),.i 0,(.str []),.i 0,.i 0,.nils,.i 0,.nils,.i 0,.i 0,(.bool false),.nils,.i 0,.i 0,.nils,.i 0,.i 0,.i 0,.i 0,.i 0,(.str []),.i 0,.i 0,.i 0,(.str [])] [(0,9,(.t 17)),(9,35,(.t 18))]),.q 20 116 19,.m 7 20] (.g [.m 21 7,.s 22 (.mkfn (.func 45) [.t 21] []),.m 23 7,.s 24 (.mkfn (.func 46) [.t 23] []),.m 25 7,.s 26 (.mkfn (.func 47) [.t 25] []),.m 27 7,.s 28 (.mkfn (.func 48) [.t 27] []),.m 29 7,.s 30 (.mkfn (.func 49) [.t 29] []),.m 31 7,.s 32 (.mkfn (.func 50) [.t 31] []),.m 33 7,.s 34 (.mkfn (.func 51) [.t 33] []),.m 35 7,.s 36 (.mkfn (.func 52) [.t 35] []),.m 37 7,.s 38 (.mkfn (.func 53) [.t 37] []),.m 39 7,.s 40 (.mkfn (.func 54) [.t 39] []),.m 41 7,.s 42 (.mkfn (.func 55) [.t 41] []),.m 43 7,.s 44 (.mkfn (.func 56) [.t 43] []),.m 45 7,.s 46 (.mkfn (.func 57) [.t 45] []),.m 47 7,.s 48 (.mkfn (.func 58) [.t 47] []),.s 49 (.build [.nilf,.nilf,.nilf,.nilf,.nilf,.nilf,.nilf,.nilf,.nilf,.nilf,.nilf,.nilf,.nilf,.nilf] [(0,1,(.t 22)),(1,1,(.t 24)),(2,1,(.t 26)),(3,1,(.t 28)),(4,1,(.t 30)),(5,1,(.t 32)),(6,1,(.t 34)),(7,1,(.t 36)),(8,1,(.t 38)),(9,1,(.t 40)),(10,1,(.t 42)),(11,1,(.t 44)),(12,1,(.t 46)),(13,1,(.t 48))]),.s 8 (.alloc 118 [.nilf,.nilf,.nilf,.nilf,.nilf,.nilf,.nilf,.nilf,.nilf,.nilf,.nilf,.nilf,.nilf,.nilf]),.w 14 8 49] (.z [8] (.join [4,7] (.g [.a 50 0 3,.l 51 50,.s 52 (.iadra 14 1 (.t 8) (.t 51)),.l 53 52,.s 54 (.call (.t 53) []),.m 9 54] (.g [.m 55 9,.v 56 .neq 55 0] (.i 56 (.g [.s 57 (.build [(.str []),.nils,.nils,.nils,.nils,.nils,.nils,.nils,.nils] []),.m 58 9,.w 9 4 57,.m 5 58] (.ret [4,5])) .skip))) (.join [4,7] (.g [.m 59 7,.s 60 (.k 59),.a 61 0 60,.d 62 9 61,.f 63 20 62,.m 10 63] (.g [.m 64 10,.v 65 .neq 64 0] (.i 65 (.g [.s 66 (.build [(.str []),.nils,.nils,.nils,.nils,.nils,.nils,.nils,.nils] []),.m 67 10,.w 9 4 66,.m 5 67] (.ret [4,5])) .skip))) (.g [.m 68 7,.s 69 (.k 68),.a 70 0 69,.d 71 9 70,.w 9 4 71,.c 5 0] (.ret [4,5]))))))))))⟩:=by kernel_rfl
theorem F8:compF Tryz.prog 8=some ⟨18,[.cell 4 (some 9),.tmp 5],(.g [.q 2 31 0,.q 3 51 1,.s 4 (.alloc 31 [(.str []),.nils,.nils,.nils,.nils,.nils,.nils,.nils,.nils]),.c 5 0] (.z [2,3] (.join [2,3,4] (.g [.d 7 9 2,.f 8 20 7,.m 6 8] (.g [.m 9 6,.v 10 .neq 9 0] (.i 10 (.g [.s 11 (.build [(.str []),.nils,.nils,.nils,.nils,.nils,.nils,.nils,.nils] []),.m 12 6,.w 9 4 11,.m 5 12] (.ret [4,5])) .skip))) (.g [.d 13 9 2,.d 14 35 3,.g' 15 21 13 14,.j 16 0 15,.j 17 1 15,.w 9 4 16,.m 5 17] (.ret [4,5])))))⟩:=by kernel_rfl
theorem F92:compF Tryz.prog 92=some ⟨58,[.tmp 4],(.g [.c 4 0] (.q (.dreg 15 [.m 9 0,.s 10 (.k 9),.a 11 0 10,.d 12 9 11,.m 13 0,.s 14 (.k 13),.a 15 9 14,.a 16 1 15,.l 17 16,.g' 18 156 12 17,.m 8 18,.j 19 0 8,.j 20 1 8,.m 5 19,.m 6 20]) (.join [0,1,5] (.g [.m 21 6,.v 22 .neq 21 0] (.i 22 (.g [.m 23 6,.m 4 23] (.ret [4])) .skip)) (.g [.m 25 1,.m 26 0,.s 27 (.k 26),.a 28 0 27,.a 29 6 28,.l 30 29,.m 31 5,.r 32 3 30 31,.d 33 3 32,.s 34 (.call (.t 25) [.t 33]),.m 24 34,.j 35 0 24,.j 36 1 24,.s 7 (.alloc 97 [.i 0,.i 0,.nils]),.w 3 7 35,.m 6 36] (.z [7] (.join [0,5,7] (.g [.m 37 6,.v 38 .neq 37 0] (.i 38 (.g [.m 39 6,.m 4 39] (.ret [4])) .skip)) (.g [.m 40 0,.m 41 0,.s 42 (.k 41),.a 43 0 42,.a 44 6 43,.l 45 44,.f 46 102 45,.s 47 (.k 40),.a 48 0 47,.a 49 6 48,.w 1 49 46] (.q (.dreg 8 [.m 50 0,.s 51 (.k 50),.a 52 0 51,.a 53 6 52,.l 54 53,.m 55 5,.d 56 3 7,.r 57 3 54 55,.w 3 57 56]) (.g [.c 4 0] (.ret [4]))))))))))⟩:=by kernel_rfl
theorem F45:compF Tryz.prog 45=some ⟨6,[.tmp 2],(.g [.q 1 114 0,.c 2 0] (.z [1] (.g [.l 3 1,.s 4 (.mkfn (.func 93) [] [.t 1]),.g' 5 92 3 4,.m 2 5] (.ret [2]))))⟩:=by kernel_rfl
theorem F46:compF Tryz.prog 46=some ⟨6,[.tmp 2],(.g [.q 1 114 0,.c 2 0] (.z [1] (.g [.l 3 1,.s 4 (.mkfn (.func 95) [] [.t 1]),.g' 5 92 3 4,.m 2 5] (.ret [2]))))⟩:=by kernel_rfl
theorem F47:compF Tryz.prog 47=some ⟨62,[.tmp 2],(.g [.c 2 0] (.q (.dreg 16 [.m 6 0,.s 7 (.k 6),.a 8 0 7,.a 9 6 8,.l 10 9,.m 11 0,.s 12 (.k 11),.a 13 9 12,.a 14 1 13,.l 15 14,.s 16 (.f 99 [.t 10,.t 15,(.c (.fn (.func 100) [] []))]),.m 5 16,.j 17 0 5,.j 18 1 5,.m 3 17,.m 4 18]) (.g [.m 19 0,.m 20 0,.s 21 (.k 20),.a 22 0 21,.a 23 6 22,.l 24 23,.f 25 102 24,.s 26 (.k 19),.a 27 0 26,.a 28 6 27,.w 1 28 25] (.join [0,3] (.g [.m 29 4,.z 30 29] (.i 30 (.greg [45] [] [[],[],[],[],[],[],[],[],[],[],[],[],[],[false,false,false,false,false,false,true,true,true,true,true,true,true],[false,false,false,false,false,false,false,false,false,false,false,false,false,true],[],[],[],[false,false,false,false,false,false,false,false,false,false,false,false,false,false,false,false,false,false]] [.m 31 0,.m 32 0,.s 33 (.k 32),.a 34 0 33,.a 35 6 34,.l 36 35,.m 37 3,.m 38 0,.s 39 (.k 38),.a 40 9 39,.a 41 1 40,.l 42 41,.s 43 (.build [.i 0,.i 0,.nils] [(0,1,(.t 42))]),.s 44 (.bslice 97 3 [.t 43]),.s 45 (.f 103 [.t 36,.t 37,.t 44]),.s 46 (.k 31),.a 47 0 46,.a 48 6 47,.w 1 48 45]) .skip)) (.join [] (.greg [] [] [[],[],[],[],[],[],[],[],[],[],[],[],[],[false,false,false,false,false,false,false,false,false,false,false,false,false]] [.m 49 0,.s 50 (.k 49),.a 51 0 50,.a 52 6 51,.l 53 52,.m 54 3,.m 55 0,.s 56 (.k 55),.a 57 9 56,.a 58 3 57,.l 59 58,.r 60 3 53 54,.a 61 1 60,.w 1 61 59]) (.g [.c 2 0] (.ret [2])))))))⟩:=by kernel_rfl
theorem F48:compF Tryz.prog 48=some ⟨22,[.tmp 2],(.g [.c 2 0] (.join [2] (.greg [] [] [[],[],[],[],[],[],[],[],[],[],[],[],[],[],[],[],[],[],[false,false,false,true,false,false,false,false,false,false,false,false,false,false,false,false,false,false],[]] [.m 4 0,.m 5 0,.s 6 (.k 5),.a 7 0 6,.a 8 5 7,.l 9 8,.m 10 0,.s 11 (.k 10),.a 12 9 11,.a 13 14 12,.d 14 2 13,.g' 15 104 9 14,.m 3 15,.j 16 0 3,.j 17 1 3,.s 18 (.k 4),.a 19 0 18,.a 20 5 19,.w 1 20 16,.m 2 17]) (.g [.m 21 2,.m 2 21] (.ret [2]))))⟩:=by kernel_rfl
theorem F49:compF Tryz.prog 49=some ⟨29,[.tmp 2],(.g [.c 2 0] (.q (.dreg 18 [.m 7 0,.s 8 (.k 7),.a 9 0 8,.a 10 5 9,.l 11 10,.m 12 0,.s 13 (.k 12),.a 14 9 13,.a 15 1 14,.l 16 15,.g' 17 105 11 16,.m 6 17,.j 18 0 6,.j 19 1 6,.j 20 2 6,.m 3 18,.m 4 19,.m 5 20]) (.g [.m 21 0,.m 22 3,.s 23 (.k 21),.a 24 0 23,.a 25 5 24,.w 1 25 22] (.g [.m 26 4,.m 27 5,.g' 28 98 26 27,.m 2 28] (.ret [2])))))⟩:=by kernel_rfl
theorem F50:compF Tryz.prog 50=some ⟨22,[.tmp 2],(.g [.c 2 0] (.join [2] (.greg [] [] [[],[],[],[],[],[],[],[],[],[],[],[],[],[],[],[],[],[],[false,false,false,true,false,false,false,false,false,false,false,false,false,false,false,false,false,false],[]] [.m 4 0,.m 5 0,.s 6 (.k 5),.a 7 0 6,.a 8 4 7,.l 9 8,.m 10 0,.s 11 (.k 10),.a 12 9 11,.a 13 16 12,.d 14 2 13,.g' 15 106 9 14,.m 3 15,.j 16 0 3,.j 17 1 3,.s 18 (.k 4),.a 19 0 18,.a 20 4 19,.w 1 20 16,.m 2 17]) (.g [.m 21 2,.m 2 21] (.ret [2]))))⟩:=by kernel_rfl
theorem F51:compF Tryz.prog 51=some ⟨22,[.tmp 2],(.g [.c 2 0] (.join [2] (.greg [] [] [[],[],[],[],[],[],[],[],[],[],[],[],[],[],[],[],[],[],[false,false,false,true,false,false,false,false,false,false,false,false,false,false,false,false,false,false],[]] [.m 4 0,.m 5 0,.s 6 (.k 5),.a 7 0 6,.a 8 4 7,.l 9 8,.m 10 0,.s 11 (.k 10),.a 12 9 11,.a 13 1 12,.l 14 13,.g' 15 107 9 14,.m 3 15,.j 16 0 3,.j 17 1 3,.s 18 (.k 4),.a 19 0 18,.a 20 4 19,.w 1 20 16,.m 2 17]) (.g [.m 21 2,.m 2 21] (.ret [2]))))⟩:=by kernel_rfl
theorem F52:compF Tryz.prog 52=some ⟨22,[.tmp 2],(.g [.c 2 0] (.join [2] (.greg [] [] [[],[],[],[],[],[],[],[],[],[],[],[],[],[],[],[],[],[],[false,false,false,true,false,false,false,false,false,false,false,false,false,false,false,false,false,false],[]] [.m 4 0,.m 5 0,.s 6 (.k 5),.a 7 0 6,.a 8 7 7,.l 9 8,.m 10 0,.s 11 (.k 10),.a 12 9 11,.a 13 18 12,.d 14 4 13,.g' 15 108 9 14,.m 3 15,.j 16 0 3,.j 17 1 3,.s 18 (.k 4),.a 19 0 18,.a 20 7 19,.w 1 20 16,.m 2 17]) (.g [.m 21 2,.m 2 21] (.ret [2]))))⟩:=by kernel_rfl
theorem F53:compF Tryz.prog 53=some ⟨22,[.tmp 2],(.g [.c 2 0] (.join [2] (.greg [] [] [[],[],[],[],[],[],[],[],[],[],[],[],[],[],[],[],[],[],[false,false,false,true,false,false,false,false,false,false,false,false,false,false,false,false,false,false],[]] [.m 4 0,.m 5 0,.s 6 (.k 5),.a 7 0 6,.a 8 7 7,.l 9 8,.m 10 0,.s 11 (.k 10),.a 12 9 11,.a 13 1 12,.l 14 13,.g' 15 109 9 14,.m 3 15,.j 16 0 3,.j 17 1 3,.s 18 (.k 4),.a 19 0 18,.a 20 7 19,.w 1 20 16,.m 2 17]) (.g [.m 21 2,.m 2 21] (.ret [2]))))⟩:=by kernel_rfl
theorem F54:compF Tryz.prog 54=some ⟨60,[.tmp 2],(.g [.c 2 0] (.q (.dreg 17 [.m 6 0,.s 7 (.k 6),.a 8 0 7,.a 9 8 8,.l 10 9,.m 11 0,.s 12 (.k 11),.a 13 9 12,.a 14 22 13,.a 15 0 14,.l 16 15,.s 17 (.f 110 [.t 10,.t 16,(.c (.fn (.func 111) [] []))]),.m 5 17,.j 18 0 5,.j 19 1 5,.m 3 18,.m 4 19]) (.g [.m 20 0,.m 21 0,.s 22 (.k 21),.a 23 0 22,.a 24 8 23,.l 25 24,.f 26 112 25,.s 27 (.k 20),.a 28 0 27,.a 29 8 28,.w 1 29 26] (.join [] (.g [.m 30 4] (.i 30 (.dreg 12 [.m 31 0,.s 32 (.k 31),.a 33 0 32,.a 34 8 33,.l 35 34,.m 36 3,.m 37 0,.s 38 (.k 37),.a 39 9 38,.a 40 22 39,.d 41 6 40,.r 42 6 35 36,.w 6 42 41]) (.greg [56] [] [[],[],[],[],[],[],[],[],[],[],[],[],[false,false,false,false,false,true,true,true,true,true,true,true],[false,false,false,false,false,false,false,false,false,false,false,false,true],[],[],[],[false,false,false,false,false,false,false,false,false,false,false,false,false,false,false,false,false]] [.m 43 0,.m 44 0,.s 45 (.k 44),.a 46 0 45,.a 47 8 46,.l 48 47,.m 49 3,.m 50 0,.s 51 (.k 50),.a 52 9 51,.a 53 22 52,.d 54 6 53,.s 55 (.bslice 47 6 [.t 54]),.s 56 (.f 113 [.t 48,.t 49,.t 55]),.s 57 (.k 43),.a 58 0 57,.a 59 8 58,.w 1 59 56]))) (.g [.c 2 0] (.ret [2]))))))⟩:=by kernel_rfl
theorem F55:compF Tryz.prog 55=some ⟨44,[.tmp 2],(.g [.c 2 0] (.q (.dreg 18 [.m 7 0,.s 8 (.k 7),.a 9 0 8,.a 10 8 9,.l 11 10,.m 12 0,.s 13 (.k 12),.a 14 9 13,.a 15 1 14,.l 16 15,.g' 17 114 11 16,.m 6 17,.j 18 0 6,.j 19 1 6,.j 20 2 6,.m 3 18,.m 4 19,.m 5 20]) (.join [0,3] (.join [0,3,4,5,26] (.reg [.m 21 5,.v 22 .neq 21 0,.m 23 22,.mx 24 4 23,.x 25 (.un .not (.t 24)) 23,.o 26 23 25]) (.i 26 (.g [.m 27 4,.m 28 5,.g' 29 98 27 28,.m 2 29] (.ret [2])) .skip)) (.g [.m 30 0,.m 31 0,.s 32 (.k 31),.a 33 0 32,.a 34 8 33,.l 35 34,.f 36 112 35,.m 37 3,.m 38 3,.v 39 .add 38 1,.s 40 (.f 115 [.t 36,.t 37,.t 39]),.s 41 (.k 30),.a 42 0 41,.a 43 8 42,.w 1 43 40] (.g [.c 2 0] (.ret [2]))))))⟩:=by kernel_rfl
theorem F56:compF Tryz.prog 56=some ⟨27,[.tmp 2],(.g [.c 2 0] (.join [2] (.greg [] [] [[],[],[],[],[],[],[],[],[],[],[],[],[],[],[],[],[],[],[],[],[],[],[],[false,false,false,true,false,false,false,false,false,false,false,false,false,false,false,false,false,false,false,false,false,false,false],[]] [.m 4 0,.m 5 0,.s 6 (.k 5),.a 7 0 6,.a 8 3 7,.l 9 8,.m 10 0,.s 11 (.k 10),.a 12 0 11,.a 13 2 12,.l 14 13,.m 15 0,.s 16 (.k 15),.a 17 9 16,.a 18 28 17,.d 19 7 18,.s 20 (.f 116 [.t 9,.t 14,.t 19]),.m 3 20,.j 21 0 3,.j 22 1 3,.s 23 (.k 4),.a 24 0 23,.a 25 3 24,.w 1 25 21,.m 2 22]) (.g [.m 26 2,.m 2 26] (.ret [2]))))⟩:=by kernel_rfl
theorem F57:compF Tryz.prog 57=some ⟨39,[.tmp 2],(.g [.c 2 0] (.q (.dreg 28 [.m 7 0,.s 8 (.k 7),.a 9 0 8,.a 10 3 9,.l 11 10,.m 12 0,.s 13 (.k 12),.a 14 0 13,.a 15 2 14,.l 16 15,.m 17 0,.s 18 (.k 17),.a 19 9 18,.a 20 2 19,.l 21 20,.m 22 0,.s 23 (.k 22),.a 24 9 23,.a 25 1 24,.l 26 25,.s 27 (.f 117 [.t 11,.t 16,.t 21,.t 26]),.m 6 27,.j 28 0 6,.j 29 1 6,.j 30 2 6,.m 3 28,.m 4 29,.m 5 30]) (.g [.m 31 0,.m 32 3,.s 33 (.k 31),.a 34 0 33,.a 35 3 34,.w 1 35 32] (.g [.m 36 4,.m 37 5,.g' 38 98 36 37,.m 2 38] (.ret [2])))))⟩:=by kernel_rfl
theorem F58:compF Tryz.prog 58=some ⟨12,[.tmp 2],(.g [.c 2 0] (.g [.m 3 0,.m 4 0,.s 5 (.k 4),.a 6 9 5,.a 7 4 6,.l 8 7,.s 9 (.k 3),.a 10 0 9,.a 11 0 10,.w 1 11 8] (.g [.c 2 0] (.ret [2]))))⟩:=by kernel_rfl
theorem F143:compF Tryz.prog 143=some ⟨4,[.tmp 2],(.g [.s 2 (.mv (.c .nils))] (.g [.m 3 0,.m 2 3] (.ret [2])))⟩:=by kernel_rfl
theorem F144:compF Tryz.prog 144=some ⟨6,[.tmp 2],(.g [.q 1 51 0,.k 2 false] (.z [1] (.g [.a 3 1 1,.l 4 3,.v 5 .eql 4 0,.m 2 5] (.ret [2]))))⟩:=by kernel_rfl
theorem F145:compF Tryz.prog 145=some ⟨6,[.tmp 2],(.g [.q 1 51 0,.k 2 false] (.z [1] (.g [.a 3 2 1,.l 4 3,.v 5 .eql 4 0,.m 2 5] (.ret [2]))))⟩:=by kernel_rfl
theorem F146:compF Tryz.prog 146=some ⟨6,[.tmp 2],(.g [.q 1 51 0,.k 2 false] (.z [1] (.g [.a 3 3 1,.l 4 3,.v 5 .eql 4 0,.m 2 5] (.ret [2]))))⟩:=by kernel_rfl
theorem F147:compF Tryz.prog 147=some ⟨6,[.tmp 2],(.g [.q 1 51 0,.k 2 false] (.z [1] (.g [.a 3 4 1,.l 4 3,.s 5 (.bin .eql (.t 4) (.w [])),.m 2 5] (.ret [2]))))⟩:=by kernel_rfl
theorem F148:compF Tryz.prog 148=some ⟨7,[.tmp 2],(.g [.q 1 51 0,.k 2 false] (.z [1] (.g [.a 3 5 1,.d 4 9 3,.s 5 (.build [(.str []),(.str []),.nils,.nils,(.bool false),(.bool false),.i 0,(.str []),.i 0] []),.g' 6 149 4 5,.m 2 6] (.ret [2]))))⟩:=by kernel_rfl
theorem F149:compF Tryz.prog 149=some ⟨66,[.tmp 4],(.g [.q 2 35 0,.q 3 35 1,.k 4 false] (.z [2,3] (.join [2,3] (.join [2,3,18] (.reg [.a 5 2 2,.l 6 5,.a 7 2 3,.l 8 7,.g' 9 230 6 8,.z 10 9,.m 11 10,.ax 12 3 2 11,.lx 13 12 11,.ax 14 3 3 11,.lx 15 14 11,.x 16 (.f 231 [.t 13,.t 15]) 11,.x 17 (.un .not (.t 16)) 11,.o 18 11 17]) (.i 18 (.g [.k 4 false] (.ret [4])) .skip)) (.join [4] (.reg [.a 19 0 2,.l 20 19,.a 21 0 3,.l 22 21,.b 23 .eql 20 22,.m 24 23,.ay 25 1 2 24,.ly 26 25 24,.ay 27 1 3 24,.ly 28 27 24,.by' 29 .eql 26 28 24,.e 30 24 29,.m 31 30,.ay 32 4 2 31,.ly 33 32 31,.ay 34 4 3 31,.ly 35 34 31,.y 36 (.eqb false (.t 33) (.t 35)) 31,.e 37 31 36,.m 38 37,.ay 39 5 2 38,.ly 40 39 38,.ay 41 5 3 38,.ly 42 41 38,.y 43 (.eqb false (.t 40) (.t 42)) 38,.e 44 38 43,.m 45 44,.ay 46 6 2 45,.ly 47 46 45,.ay 48 6 3 45,.ly 49 48 45,.by' 50 .eql 47 49 45,.e 51 45 50,.m 52 51,.ay 53 7 2 52,.ly 54 53 52,.ay 55 7 3 52,.ly 56 55 52,.by' 57 .eql 54 56 52,.e 58 52 57,.m 59 58,.ay 60 8 2 59,.ly 61 60 59,.ay 62 8 3 59,.ly 63 62 59,.by' 64 .eql 61 63 59,.e 65 59 64,.m 4 65]) (.ret [4])))))⟩:=by kernel_rfl
theorem F150:compF Tryz.prog 150=some ⟨14,[.tmp 2],(.g [.q 1 51 0,.k 2 false] (.z [1] (.join [2] (.reg [.a 3 14 1,.a 4 0 3,.l 5 4,.v 6 .eql 5 0,.m 7 6,.ay 8 14 1 7,.ay 9 1 8 7,.ly 10 9 7,.y 11 (.len (.t 10)) 7,.vy 12 .eql 11 0 7,.e 13 7 12,.m 2 13]) (.ret [2]))))⟩:=by kernel_rfl
theorem F151:compF Tryz.prog 151=some ⟨14,[.tmp 2],(.g [.q 1 51 0,.k 2 false] (.z [1] (.join [2] (.reg [.a 3 16 1,.a 4 0 3,.l 5 4,.v 6 .eql 5 0,.m 7 6,.ay 8 16 1 7,.ay 9 1 8 7,.ly 10 9 7,.y 11 (.len (.t 10)) 7,.vy 12 .eql 11 0 7,.e 13 7 12,.m 2 13]) (.ret [2]))))⟩:=by kernel_rfl
theorem F152:compF Tryz.prog 152=some ⟨25,[.tmp 2],(.g [.q 1 51 0,.k 2 false] (.z [1] (.g [.a 4 18 1,.d 5 4 4,.s 3 (.alloc 44 [.i 0,.i 0,(.bool false),.nils]),.w 4 3 5] (.z [3] (.join [2] (.reg [.a 6 0 3,.l 7 6,.v 8 .eql 7 0,.m 9 8,.ay 10 1 3 9,.ly 11 10 9,.vy 12 .eql 11 0 9,.e 13 9 12,.m 14 13,.ay 15 2 3 14,.ly 16 15 14,.y 17 (.un .not (.t 16)) 14,.e 18 14 17,.m 19 18,.ay 20 3 3 19,.ly 21 20 19,.y 22 (.len (.t 21)) 19,.vy 23 .eql 22 0 19,.e 24 19 23,.m 2 24]) (.ret [2]))))))⟩:=by kernel_rfl
theorem F153:compF Tryz.prog 153=some ⟨35,[.tmp 2],(.g [.q 1 51 0,.k 2 false] (.z [1] (.g [.a 4 22 1,.d 5 6 4,.s 3 (.alloc 47 [.i 0,.i 0,.nils,.i 0,.i 0,.i 0]),.w 6 3 5] (.z [3] (.join [2] (.reg [.a 6 0 3,.l 7 6,.v 8 .eql 7 0,.m 9 8,.ay 10 1 3 9,.ly 11 10 9,.vy 12 .eql 11 0 9,.e 13 9 12,.m 14 13,.ay 15 2 3 14,.ly 16 15 14,.y 17 (.len (.t 16)) 14,.vy 18 .eql 17 0 14,.e 19 14 18,.m 20 19,.ay 21 3 3 20,.ly 22 21 20,.vy 23 .eql 22 0 20,.e 24 20 23,.m 25 24,.ay 26 4 3 25,.ly 27 26 25,.vy 28 .eql 27 0 25,.e 29 25 28,.m 30 29,.ay 31 5 3 30,.ly 32 31 30,.vy 33 .eql 32 0 30,.e 34 30 33,.m 2 34]) (.ret [2]))))))⟩:=by kernel_rfl
theorem F154:compF Tryz.prog 154=some ⟨7,[.tmp 2],(.g [.q 1 51 0,.k 2 false] (.z [1] (.g [.a 3 28 1,.d 4 7 3,.s 5 (.build [.i 0,.i 0,(.str []),.i 0,.i 0,.i 0,(.str [])] []),.s 6 (.eqs false [.i,.i,.s,.i,.i,.i,.s] (.t 4) (.t 5)),.m 2 6] (.ret [2]))))⟩:=by kernel_rfl
end Go.Proofs.YtaneehgfdpadjaaGreatDoor

namespace Go.Proofs.YtaneehgfdpadjaaGreatDoor
open Go.Sha
set_option maxRecDepth 100000
variable {g:List (Nat×Obj)}{n:Nat}
theorem f230 {l:List Mov}(hl:l.length<140737488355328){st:St}:run Tryz.prog HH 230 [.sl (l.map Mov.v),.sl []] st=some (.ret (.bool (decide (l.length=0))),st):=by
 by_cases h:l.length=0
 ·have h0:l=[]:=List.length_eq_zero_iff.1 h
  subst h0
  rw[run_shut F230 rfl rfl (by simp)]
  push_cast[runL_of B230_0.eq_1]
 ·have h1:¬(l.length:Int)=0:=by omega
  rw[run_shut F230 rfl rfl (by simp)]
  push_cast[Mov.v,h,h1]
theorem f231 {l:List Tim}(hl:l.length<140737488355328){st:St}:run Tryz.prog HH 231 [.sl (l.map Tim.v),.sl []] st=some (.ret (.bool (decide (l.length=0))),st):=by
 by_cases h:l.length=0
 ·have h0:l=[]:=List.length_eq_zero_iff.1 h
  subst h0
  rw[run_shut F231 rfl rfl (by simp)]
  push_cast[runL_of B231_0.eq_1]
 ·have h1:¬(l.length:Int)=0:=by omega
  rw[run_shut F231 rfl rfl (by simp)]
  push_cast[Tim.v,h,h1]
def zCu (c:Cu):Bool:=decide (c.moves=[])&&decide (c.parts=[])&&(decide (c.num=[])&&(decide (c.label=[])&&(!c.block&&(!c.mark&&(decide (c.follow=0)&&(decide (c.link=[])&&c.loops == 0))))))
theorem f149 {c:Cu}(hl:c.moves.length<140737488355328)(hk:c.parts.length<140737488355328){st:St}:run Tryz.prog HH 149 [c.v,.agg [.str [],.str [],.sl [],.sl [],.bool false,.bool false,.int .i64 0,.str [],.int .i64 0]] st=some (.ret (.bool (zCu c)),st):=by
 have h168:=fun(st:St)=>f230 hl (st:=st)
 have h169:=fun(st:St)=>f231 hk (st:=st)
 rw[run_shut F149 rfl rfl (by simp)]
 push_cast[Cu.v,h168,h169,zCu]
 all_goals ((repeat' split)<;>simp_all)
theorem f144 {e:Edi}{st:St}:run Tryz.prog HH 144 [e.v] st=some (.ret (.bool (e.num == 0)),st):=by
 rw[run_shut F144 rfl rfl (by simp)]
 push_cast[Edi.v]
theorem f145 {e:Edi}{st:St}:run Tryz.prog HH 145 [e.v] st=some (.ret (.bool (e.chan == 0)),st):=by
 rw[run_shut F145 rfl rfl (by simp)]
 push_cast[Edi.v]
theorem f146 {e:Edi}{st:St}:run Tryz.prog HH 146 [e.v] st=some (.ret (.bool (e.prio == 0)),st):=by
 rw[run_shut F146 rfl rfl (by simp)]
 push_cast[Edi.v]
theorem f147 {e:Edi}{st:St}:run Tryz.prog HH 147 [e.v] st=some (.ret (.bool (e.key == [])),st):=by
 rw[run_shut F147 rfl rfl (by simp)]
 push_cast[Edi.v]
theorem f148 {e:Edi}(hl:e.cue.moves.length<140737488355328)(hk:e.cue.parts.length<140737488355328){st:St}:run Tryz.prog HH 148 [e.v] st=some (.ret (.bool (zCu e.cue)),st):=by
 have h:=fun(st:St)=>f149 hl hk (st:=st)
 push_cast[Cu.v]at h
 rw[run_shut F148 rfl rfl (by simp)]
 push_cast[Edi.v,h]
theorem f150 {e:Edi}{st:St}:run Tryz.prog HH 150 [e.v] st=some (.ret (.bool (decide (e.pal.num=0)&&(e.pal.hues.length:Int) == 0)),st):=by
 rw[run_shut F150 rfl rfl (by simp)]
 push_cast[Edi.v]
theorem f151 {e:Edi}{st:St}:run Tryz.prog HH 151 [e.v] st=some (.ret (.bool (decide (e.grp.num=0)&&(e.grp.chans.length:Int) == 0)),st):=by
 rw[run_shut F151 rfl rfl (by simp)]
 push_cast[Edi.v]
theorem f152 {e:Edi}{st:St}:run Tryz.prog HH 152 [e.v] st=some (.ret (.bool (decide (e.sub.num=0)&&(decide (e.sub.prio=0)&&(!e.sub.inh&&(e.sub.gains.length:Int) == 0)))),st):=by
 rw[run_shut F152 rfl rfl (by simp)]
 push_cast[Edi.v]
theorem f153 {e:Edi}{st:St}:run Tryz.prog HH 153 [e.v] st=some (.ret (.bool (decide (e.eff.num=0)&&(decide (e.eff.attr=0)&&(decide (e.eff.wave=[])&&(decide (e.eff.period=0)&&(decide (e.eff.spread=0)&&e.eff.size == 0)))))),st):=by
 rw[run_shut F153 rfl rfl (by simp)]
 push_cast[Edi.v]
 all_goals ((repeat' split)<;>simp_all)
theorem f154 {e:Edi}{st:St}:run Tryz.prog HH 154 [e.v] st=some (.ret (.bool (e.fix.chan == 0&&(e.fix.part == 0&&(e.fix.prof.isEmpty&&(e.fix.univ == 0&&(e.fix.addr == 0&&(e.fix.phase == 0&&e.fix.cable.isEmpty))))))),st):=by
 rw[run_shut F154 rfl rfl (by simp)]
 push_cast[Edi.v]
 all_goals ((repeat' split)<;>simp_all)
structure Use where
 ks:List Int
 f:FuncId
 z:Edi→Bool
instance:Inhabited Use:=⟨⟨[],0,fun _=>true⟩⟩
@[reducible] def Use.v (u:Use):V:=.agg [.sl (u.ks.map (.int .i64)),.fn (.func u.f) [] []]
def uses:List Use:=[⟨[0,1,2,4,6,8,10,12],144,fun e=>e.num == 0⟩,⟨[12],145,fun e=>e.chan == 0⟩,⟨[2],146,fun e=>e.prio == 0⟩,⟨[1,13],147,fun e=>e.key == []⟩,⟨[0],148,fun e=>zCu e.cue⟩,
 ⟨[3],150,fun e=>decide (e.pal.num=0)&&(e.pal.hues.length:Int) == 0⟩,⟨[5],151,fun e=>decide (e.grp.num=0)&&(e.grp.chans.length:Int) == 0⟩,⟨[7],152,fun e=>decide (e.sub.num=0)&&(decide (e.sub.prio=0)&&(!e.sub.inh&&(e.sub.gains.length:Int) == 0))⟩,
 ⟨[9],153,fun e=>decide (e.eff.num=0)&&(decide (e.eff.attr=0)&&(decide (e.eff.wave=[])&&(decide (e.eff.period=0)&&(decide (e.eff.spread=0)&&e.eff.size == 0))))⟩,⟨[11],154,fun e=>e.fix.chan == 0&&(e.fix.part == 0&&(e.fix.prof.isEmpty&&(e.fix.univ == 0&&(e.fix.addr == 0&&(e.fix.phase == 0&&e.fix.cable.isEmpty)))))⟩]
theorem f90 {st:St}:run Tryz.prog HH 90 [] st=some (.ret (.sl (uses.map Use.v)),st):=by
 rw[run_shut F90 rfl rfl (by simp)]
 push_cast[uses,Use.v,List.map_cons,List.map_nil,(fun(a0:V) (st:St) (h:V.bdL 0 [a0]=true)=>run_shut (P:=Tryz.prog) (H:=HH) (args:=[a0]) (st:=st) F143 rfl rfl h)]
def useR (e:Edi):List Use→Int
 |[]=>0
 |u::r=>if u.ks.any (e.kind == ·)||u.z e then useR e r else 3
theorem L44 {e:Edi}{us:List Use}(hl:us.length<140737488355328)(hk:∀u∈us,u.ks.length<140737488355328∧memL u.f HH.raw=false∧∀st:St,run Tryz.prog HH u.f [e.v] st=some (.ret (.bool (u.z e)),st)):∀r j,us.drop j=r→runL Tryz.prog HH [1,13,14,15] n B44_0 [(1,.ep e.v 0),(13,.sl (us.map Use.v)),(14,.int .i64 us.length),(15,.int .i64 j)] (stN g n)=lpE (stN g n) [] 2 (useR e r):=by
 refine drop_ind (fun j h=>?_) (fun q r j h hx hd ih=>?_)
 all_goals rw[runL_of B44_0.eq_1]
 ·have h1:¬(j:Int)<us.length:=by omega
  push_cast[h1,useR]
 ·have h1:(j:Int)<us.length:=by omega
  have hw:=iw1 (j:=j) (by omega)
  obtain⟨h2,h3,h4⟩:=hk q (List.mem_of_mem_drop (hd▸List.mem_cons_self ..))
  have h5:=fun(st:St)=>f91 (v:=e.kind) h2 (st:=st)
  rw[HH_raw]at h3
  push_cast[Edi.v]at h3 h4
  push_cast[h1,hw,hx,Edi.v,Use.v,h3,h4,h5]at ih ⊢
  rw[useR,ih]
  cases q.ks.any (e.kind == ·)<;>cases q.z e<;>simp[lpE]
def edtC (e:Edi):Int:=if e.kind<0∨13<e.kind then 1 else useR e uses
theorem f44 {e:Edi}(hl:e.cue.moves.length<140737488355328)(hk:e.cue.parts.length<140737488355328){st:St}:run Tryz.prog HH 44 [e.v] st=some (.ret (.int .i64 (edtC e)),st):=by
 have hL:=L44 (g:=st.x.gl) (n:=1) (e:=e) (us:=uses) (by decide) (by
  intro u hu
  simp only[uses,List.mem_cons,List.mem_nil_iff,or_false]at hu
  rcases hu with rfl|rfl|rfl|rfl|rfl|rfl|rfl|rfl|rfl|rfl
  ·exact⟨by decide,rfl,fun _=>f144⟩
  ·exact⟨by decide,rfl,fun _=>f145⟩
  ·exact⟨by decide,rfl,fun _=>f146⟩
  ·exact⟨by decide,rfl,fun _=>f147⟩
  ·exact⟨by decide,rfl,fun _=>f148 hl hk⟩
  ·exact⟨by decide,rfl,fun _=>f150⟩
  ·exact⟨by decide,rfl,fun _=>f151⟩
  ·exact⟨by decide,rfl,fun _=>f152⟩
  ·exact⟨by decide,rfl,fun _=>f153⟩
  ·exact⟨by decide,rfl,fun _=>f154⟩) uses 0 rfl
 rw[run_shut F44 rfl rfl (by simp)]
 have h42:=fun(st:St)=>f90 (st:=st)
 have hlen:(uses.length:Int)=10:=rfl
 push_cast[Edi.v,hlen]at hL
 by_cases h1:e.kind<0
 ·have e1:edtC e=1:=if_pos (.inl h1)
  push_cast[Edi.v,e1,h1]
 ·by_cases h2:13<e.kind
  ·have e1:edtC e=1:=if_pos (.inr h2)
   push_cast[Edi.v,e1,h1,h2]
  ·have e1:edtC e=useR e uses:=if_neg (by omega)
   rw[e1]
   generalize useR e uses=c at *
   push_cast[Edi.v,h1,h2,h42,hL,hlen,lpE]
end Go.Proofs.YtaneehgfdpadjaaGreatDoor

namespace Go.Proofs.YtaneehgfdpadjaaGreatDoor
open Go.Sha
set_option maxRecDepth 10000
theorem F171:compF Tryz.prog 171=some ⟨11,[.tmp 4,.tmp 5],(.g [.c 4 0,.k 5 false] (.g [.m 6 0,.m 7 1,.s 8 (.f 252 [.t 6,.t 7,(.c (.fn (.func 253) [] []))]),.j 9 0 8,.j 10 1 8,.m 4 9,.m 5 10] (.ret [4,5])))⟩:=by kernel_rfl
def B252_0:Cd:=(.join [0,1,2,8,9,10] (.g [.m 15 9,.m 16 10,.b 17 .lss 15 16] (.i 17 .skip (.exit [0,1,2,8,9] 0))) (.block 1 (.g [.m 18 9,.m 19 10,.b 20 .add 18 19,.s 21 (.cvi .u64 (.t 20)),.s 22 (.bin .shr (.t 21) (.c (.int .u64 1))),.s 23 (.cvi .i64 (.t 22)),.m 11 23] (.g [.m 24 2,.m 25 0,.m 26 11,.r 27 2 25 26,.d 28 2 27,.m 29 1,.s 30 (.call (.t 24) [.t 28,.t 29]),.v 31 .lss 30 0] (.i 31 (.reg [.m 32 11,.v 33 .add 32 1,.m 9 33]) (.reg [.m 34 11,.m 10 34]))))))
theorem F252:compF Tryz.prog 252=some ⟨49,[.tmp 6,.tmp 7],(.g [.c 6 0,.k 7 false] (.g [.m 12 0,.u 13 12,.m 8 13] (.g [.m 14 8,.c 9 0,.m 10 14] (.join [0,1,2,8,9] (.block 0 (.loop [0,1,2,8,9,10] [] B252_0)) (.join [6,7] (.reg [.m 35 9,.m 36 9,.m 37 8,.b 38 .lss 36 37,.m 39 38,.my 40 2 39,.my 41 0 39,.my 42 9 39,.ry 43 2 41 42 39,.y 44 (.load (some 2) (.t 43)) 39,.my 45 1 39,.y 46 (.call (.t 40) [.t 44,.t 45]) 39,.vy 47 .eql 46 0 39,.e 48 39 47,.m 6 35,.m 7 48]) (.ret [6,7]))))))⟩:=by kernel_rfl
theorem F253:compF Tryz.prog 253=some ⟨9,[.tmp 4],(.g [.q 2 38 0,.c 4 0] (.z [2] (.g [.a 5 0 2,.l 6 5,.m 7 1,.b 8 .sub 6 7,.m 4 8] (.ret [4]))))⟩:=by kernel_rfl
end Go.Proofs.YtaneehgfdpadjaaGreatDoor

namespace Go.Proofs.YtaneehgfdpadjaaGreatDoor
open Go.Sha
set_option maxRecDepth 100000
variable {g:List (Nat×Obj)}{n:Nat}
def bsI (c:Nat→Int)(i j:Nat):Nat:=if h:i<j then if c ((i+j) / 2)<0 then bsI c ((i+j) / 2+1) j else bsI c i ((i+j) / 2) else i
termination_by j-i
theorem bsI_ok {c:Nat→Int}{N:Nat}(hm:∀a b,a<b→b<N→c b≤0→c a<0):∀{i j:Nat},i≤j→j≤N→(∀k<i,c k<0)→(∀k,j≤k→k<N→0≤c k)→i≤bsI c i j∧bsI c i j≤j∧(∀k<bsI c i j,c k<0)∧∀k,bsI c i j≤k→k<N→0≤c k:=by
 intro i j
 induction i,j using bsI.induct c with
 |case1 i j h h2 ih =>
  intro hij hj h3 h4
  rw[bsI,dif_pos h,if_pos h2]
  have:=ih (by omega) hj (fun k hk=>by
   rcases Nat.lt_or_ge k ((i+j) / 2) with e|e
   ·exact hm k ((i+j) / 2) e (by omega) (by omega)
   ·rw[show k=(i+j) / 2 by omega];exact h2) h4
  exact⟨by omega,this.2.1,this.2.2.1,this.2.2.2⟩
 |case2 i j h h2 ih =>
  intro hij hj h3 h4
  rw[bsI,dif_pos h,if_neg h2]
  have:=ih (by omega) (by omega) h3 (fun k hk hk2=>by
   rcases Nat.lt_or_ge ((i+j) / 2) k with e|e
   ·apply Classical.byContradiction;intro e2
    exact h2 (hm ((i+j) / 2) k e hk2 (by omega))
   ·rw[show k=(i+j) / 2 by omega];omega)
  exact⟨this.1,by omega,this.2.2.1,this.2.2.2⟩
 |case3 i j h =>
  intro hij hj h3 h4
  rw[bsI,dif_neg h]
  exact⟨Nat.le_refl _,hij,h3,fun k hk hk2=>h4 k (by omega) hk2⟩
theorem f253 {x:Pal}{v:Int}{st:St}:run Tryz.prog HH 253 [x.v,.int .i64 v] st=some (.ret (.int .i64 (IntKind.i64.wrap (x.num-v))),st):=by
 rw[run_shut F253 rfl rfl (by simp)]
 push_cast[Pal.v]
theorem halfI {i j:Nat}(h:i+j<4611686018427387904):IntKind.i64.wrap ((IntKind.u64.wrap (IntKind.i64.wrap ((i:Int)+j))).fdiv (2 ^ min 1 IntKind.u64.bits))=(((i+j) / 2:Nat):Int):=by
 have w1:IntKind.i64.wrap ((i:Int)+j)=((i+j:Nat):Int):=by rw[←Int.natCast_add];exact iwrap (by omega) (by omega)
 have w2:IntKind.u64.wrap ((i+j:Nat):Int)=((i+j:Nat):Int):=by
  unfold IntKind.wrap;simp[IntKind.bits,IntKind.signed];omega
 rw[w1,w2,show(2 ^ min 1 IntKind.u64.bits:Int)=2 from rfl,Int.fdiv_eq_ediv_of_nonneg _ (by omega),show(((i+j:Nat):Int) / 2)=(((i+j) / 2:Nat):Int) by simp]
 exact iwrap (by omega) (by omega)
theorem palsR_all {l:List Pal}:∀{r:List Pal}{j:Nat},l.drop j=r→palsR l r j=0→(∀q∈r,1≤q.num∧q.num≤1048576∧hueLR q.hues=0)∧((l.take j).Pairwise (fun a b=>a.num<b.num)→l.Pairwise fun a b=>a.num<b.num)
 |[],j,hd,_=>by
  have:l.length≤j:=List.drop_eq_nil_iff.1 hd
  rw[List.take_of_length_le this];exact⟨by simp,fun h=>h⟩
 |q::r,j,hd,h=>by
  rw[palsR]at h
  split at h
  ·cases h
  ·rename_i h1
   split at h
   ·cases h
   ·rename_i h2
    split at h
    ·rename_i h3
     obtain⟨a,b⟩:=palsR_all (drop_succ hd) h
     refine⟨fun x hx=>?_,fun hp=>b ?_⟩
     ·rcases List.mem_cons.1 hx with rfl|hx
      ·exact⟨by omega,by omega,h3⟩
      ·exact a x hx
     ·rw[take_snoc hd]
      refine List.pairwise_append.2 ⟨hp,List.pairwise_singleton ..,fun y hy z hz=>?_⟩
      rw[List.mem_singleton.1 hz]
      obtain⟨k,hk⟩:=List.mem_iff_getElem?.1 hy
      have hj:=drop_le hd
      rw[List.getElem?_take]at hk
      split at hk
      ·rename_i hkj
       have e:l.getD (j-1) default=l[j-1]:=by rw[List.getD_eq_getElem?_getD,List.getElem?_eq_getElem (by omega)];rfl
       rw[e]at h2
       rcases Nat.lt_or_ge k (j-1) with hk2|hk2
       ·have hm:=List.pairwise_iff_getElem.1 hp k (j-1) (by simp;omega) (by simp;omega) hk2
        rw[List.getElem_take,List.getElem_take]at hm
        rw[List.getElem?_eq_getElem (by omega)]at hk
        rw[←Option.some.inj hk];omega
       ·have:k=j-1:=by omega
        subst this
        rw[List.getElem?_eq_getElem (by omega)]at hk
        rw[←Option.some.inj hk];omega
      ·cases hk
    ·rename_i h3;exact absurd h h3
theorem pals_ok {l:List Pal}(h:palsCR l=0):(∀q∈l,1≤q.num∧q.num≤1048576∧hueLR q.hues=0)∧l.Pairwise fun a b=>a.num<b.num:=by
 unfold palsCR at h
 split at h
 ·cases h
 ·obtain⟨a,b⟩:=palsR_all (j:=0) rfl h
  exact⟨a,b List.Pairwise.nil⟩
end Go.Proofs.YtaneehgfdpadjaaGreatDoor

namespace Go.Proofs.YtaneehgfdpadjaaGreatDoor
open Go.Sha
set_option maxRecDepth 10000
theorem F156:compF Tryz.prog 156=some ⟨13,[.tmp 4,.tmp 5],(.g [.q 2 31 0,.c 4 0,.c 5 0] (.z [2] (.g [.d 6 9 2,.a 7 6 2,.l 8 7,.m 9 1,.s 10 (.f 232 [.t 6,.t 8,.t 9,(.c (.fn (.func 233) [] []))]),.j 11 0 10,.j 12 1 10,.m 4 11,.m 5 12] (.ret [4,5]))))⟩:=by kernel_rfl
theorem F232:compF Tryz.prog 232=some ⟨23,[.tmp 8,.tmp 9],(.g [.q 4 31 0,.q 6 3 2,.q 7 132 3,.c 8 0,.c 9 0] (.z [4,6,7] (.join [1,6,7] (.g [.d 12 9 4,.f 13 20 12,.m 10 13] (.g [.m 14 10,.v 15 .neq 14 0] (.i 15 (.g [.m 16 10,.c 8 0,.m 9 16] (.ret [8,9])) .skip))) (.g [.m 17 1,.s 18 (.mkfn (.func 299) [] [.t 7,.t 6]),.g' 19 298 17 18,.m 11 19] (.join [11] (.g [.m 20 11,.v 21 .lss 20 0] (.i 21 (.g [.c 8 0,.c 9 6] (.ret [8,9])) .skip)) (.g [.m 22 11,.m 8 22,.c 9 0] (.ret [8,9])))))))⟩:=by kernel_rfl
theorem F233:compF Tryz.prog 233=some ⟨5,[.tmp 2],(.g [.q 1 97 0,.c 2 0] (.z [1] (.g [.a 3 0 1,.l 4 3,.m 2 4] (.ret [2]))))⟩:=by kernel_rfl
def B298_0:Cd:=(.g [.b 9 .lss 8 7] (.join [0,1,7,8] (.i 9 .skip (.exit [] 0)) (.join [0,1,7,8] (.block 1 (.g [.m 10 8,.m 5 10] (.g [.m 11 1,.m 12 0,.m 13 5,.r 14 3 12 13,.d 15 3 14,.s 16 (.call (.t 11) [.t 15])] (.i 16 (.g [.m 17 5,.m 4 17] (.ret [4])) .skip)))) (.reg [.v 18 .add 8 1,.m 8 18]))))
theorem F298:compF Tryz.prog 298=some ⟨19,[.tmp 4],(.g [.c 4 0] (.join [] (.g [.m 6 0,.u 7 6,.c 8 0] (.block 0 (.loop [0,1,7,8] [] B298_0))) (.g [.c 4 (-1)] (.ret [4]))))⟩:=by kernel_rfl
theorem F299:compF Tryz.prog 299=some ⟨10,[.tmp 4],(.g [.q 3 97 0,.k 4 false] (.z [3] (.q (.dreg 6 [.l 5 1,.d 6 3 3,.s 7 (.call (.t 5) [.t 6]),.l 8 2,.b 9 .eql 7 8,.m 4 9]) (.ret [4]))))⟩:=by kernel_rfl
end Go.Proofs.YtaneehgfdpadjaaGreatDoor

namespace Go.Proofs.YtaneehgfdpadjaaGreatDoor
open Go.Sha
set_option maxRecDepth 100000
variable {g:List (Nat×Obj)}{n:Nat}
theorem f233 {x:Lst}{st:St}:run Tryz.prog HH 233 [x.v] st=some (.ret (.int .i64 x.num),st):=by
 rw[run_shut F233 rfl rfl (by simp)]
 push_cast[Lst.v]
theorem f299 {x:Lst}{v:Int}{st:St}:run Tryz.prog HH 299 [x.v,.ep (.agg [.fn (.func 233) [] []]) 0,.ep (.agg [.int .i64 v]) 0] st=some (.ret (.bool (x.num == v)),st):=by
 have h:=fun(st:St)=>f233 (x:=x) (st:=st)
 push_cast[Lst.v]at h
 rw[run_shut F299 rfl rfl (by simp)]
 push_cast[Lst.v,h]
theorem f298 {l:List Lst}{v:Int}(hl:l.length<140737488355328){st:St}:run Tryz.prog HH 298 [.sl (l.map Lst.v),.fn (.func 299) [] [.ep (.agg [.fn (.func 233) [] []]) 0,.ep (.agg [.int .i64 v]) 0]] st=some (.ret (.int .i64 (ix (fun x=>x.num == v) l 0)),st) :=
 IxF (f:=Lst.v) (n:=some 3) (fun _=>rfl) (fun _=>rfl) F298 rfl (by simp) hl (fun q _ _=>f299) (fun _ _=>rfl) (fun _=>rfl)
end Go.Proofs.YtaneehgfdpadjaaGreatDoor

namespace Go.Proofs.YtaneehgfdpadjaaGreatDoor
open Go.Sha
set_option maxRecDepth 10000
def B99_0:Cd:=(.join [0,1,2,8,9,10] (.g [.m 15 9,.m 16 10,.b 17 .lss 15 16] (.i 17 .skip (.exit [0,1,2,8,9] 0))) (.block 1 (.g [.m 18 9,.m 19 10,.b 20 .add 18 19,.s 21 (.cvi .u64 (.t 20)),.s 22 (.bin .shr (.t 21) (.c (.int .u64 1))),.s 23 (.cvi .i64 (.t 22)),.m 11 23] (.g [.m 24 2,.m 25 0,.m 26 11,.r 27 3 25 26,.d 28 3 27,.m 29 1,.s 30 (.call (.t 24) [.t 28,.t 29]),.v 31 .lss 30 0] (.i 31 (.reg [.m 32 11,.v 33 .add 32 1,.m 9 33]) (.reg [.m 34 11,.m 10 34]))))))
theorem F99:compF Tryz.prog 99=some ⟨49,[.tmp 6,.tmp 7],(.g [.c 6 0,.k 7 false] (.g [.m 12 0,.u 13 12,.m 8 13] (.g [.m 14 8,.c 9 0,.m 10 14] (.join [0,1,2,8,9] (.block 0 (.loop [0,1,2,8,9,10] [] B99_0)) (.join [6,7] (.reg [.m 35 9,.m 36 9,.m 37 8,.b 38 .lss 36 37,.m 39 38,.my 40 2 39,.my 41 0 39,.my 42 9 39,.ry 43 3 41 42 39,.y 44 (.load (some 3) (.t 43)) 39,.my 45 1 39,.y 46 (.call (.t 40) [.t 44,.t 45]) 39,.vy 47 .eql 46 0 39,.e 48 39 47,.m 6 35,.m 7 48]) (.ret [6,7]))))))⟩:=by kernel_rfl
theorem F100:compF Tryz.prog 100=some ⟨9,[.tmp 4],(.g [.q 2 97 0,.c 4 0] (.z [2] (.g [.a 5 0 2,.l 6 5,.m 7 1,.g' 8 101 6 7,.m 4 8] (.ret [4]))))⟩:=by kernel_rfl
theorem F101:compF Tryz.prog 101=some ⟨13,[.tmp 4],(.g [.c 4 0] (.join [] (.block 0 (.g [.m 6 0,.m 7 1,.b 8 .lss 6 7,.m 5 8] (.i 5 (.g [.c 4 (-1)] (.ret [4])) (.g [.m 10 0,.m 11 1,.b 12 .gtr 10 11,.m 9 12] (.i 9 (.g [.c 4 1] (.ret [4])) .skip))))) (.g [.c 4 0] (.ret [4]))))⟩:=by kernel_rfl
def B110_0:Cd:=(.join [0,1,2,8,9,10] (.g [.m 15 9,.m 16 10,.b 17 .lss 15 16] (.i 17 .skip (.exit [0,1,2,8,9] 0))) (.block 1 (.g [.m 18 9,.m 19 10,.b 20 .add 18 19,.s 21 (.cvi .u64 (.t 20)),.s 22 (.bin .shr (.t 21) (.c (.int .u64 1))),.s 23 (.cvi .i64 (.t 22)),.m 11 23] (.g [.m 24 2,.m 25 0,.m 26 11,.r 27 6 25 26,.d 28 6 27,.m 29 1,.s 30 (.call (.t 24) [.t 28,.t 29]),.v 31 .lss 30 0] (.i 31 (.reg [.m 32 11,.v 33 .add 32 1,.m 9 33]) (.reg [.m 34 11,.m 10 34]))))))
theorem F110:compF Tryz.prog 110=some ⟨49,[.tmp 6,.tmp 7],(.g [.c 6 0,.k 7 false] (.g [.m 12 0,.u 13 12,.m 8 13] (.g [.m 14 8,.c 9 0,.m 10 14] (.join [0,1,2,8,9] (.block 0 (.loop [0,1,2,8,9,10] [] B110_0)) (.join [6,7] (.reg [.m 35 9,.m 36 9,.m 37 8,.b 38 .lss 36 37,.m 39 38,.my 40 2 39,.my 41 0 39,.my 42 9 39,.ry 43 6 41 42 39,.y 44 (.load (some 6) (.t 43)) 39,.my 45 1 39,.y 46 (.call (.t 40) [.t 44,.t 45]) 39,.vy 47 .eql 46 0 39,.e 48 39 47,.m 6 35,.m 7 48]) (.ret [6,7]))))))⟩:=by kernel_rfl
theorem F111:compF Tryz.prog 111=some ⟨9,[.tmp 4],(.g [.q 2 47 0,.c 4 0] (.z [2] (.g [.a 5 0 2,.l 6 5,.m 7 1,.g' 8 101 6 7,.m 4 8] (.ret [4]))))⟩:=by kernel_rfl
theorem F187:compF Tryz.prog 187=some ⟨14,[.tmp 6,.tmp 7],(.g [.q 5 140 2,.c 6 0,.k 7 false] (.z [5] (.g [.m 8 0,.m 9 1,.s 10 (.mkfn (.func 267) [] [.t 5]),.s 11 (.f 110 [.t 8,.t 9,.t 10]),.j 12 0 11,.j 13 1 11,.m 6 12,.m 7 13] (.ret [6,7]))))⟩:=by kernel_rfl
theorem F267:compF Tryz.prog 267=some ⟨11,[.tmp 5],(.g [.q 3 47 0,.c 5 0] (.z [3] (.g [.l 6 2,.d 7 6 3,.s 8 (.call (.t 6) [.t 7]),.m 9 1,.b 10 .sub 8 9,.m 5 10] (.ret [5]))))⟩:=by kernel_rfl
def B256_0:Cd:=(.join [0,1,2,8,9,10] (.g [.m 15 9,.m 16 10,.b 17 .lss 15 16] (.i 17 .skip (.exit [0,1,2,8,9] 0))) (.block 1 (.g [.m 18 9,.m 19 10,.b 20 .add 18 19,.s 21 (.cvi .u64 (.t 20)),.s 22 (.bin .shr (.t 21) (.c (.int .u64 1))),.s 23 (.cvi .i64 (.t 22)),.m 11 23] (.g [.m 24 2,.m 25 0,.m 26 11,.r 27 2 25 26,.d 28 2 27,.m 29 1,.s 30 (.call (.t 24) [.t 28,.t 29]),.v 31 .lss 30 0] (.i 31 (.reg [.m 32 11,.v 33 .add 32 1,.m 9 33]) (.reg [.m 34 11,.m 10 34]))))))
theorem F256:compF Tryz.prog 256=some ⟨49,[.tmp 6,.tmp 7],(.g [.c 6 0,.k 7 false] (.g [.m 12 0,.u 13 12,.m 8 13] (.g [.m 14 8,.c 9 0,.m 10 14] (.join [0,1,2,8,9] (.block 0 (.loop [0,1,2,8,9,10] [] B256_0)) (.join [6,7] (.reg [.m 35 9,.m 36 9,.m 37 8,.b 38 .lss 36 37,.m 39 38,.my 40 2 39,.my 41 0 39,.my 42 9 39,.ry 43 2 41 42 39,.y 44 (.load (some 2) (.t 43)) 39,.my 45 1 39,.y 46 (.call (.t 40) [.t 44,.t 45]) 39,.vy 47 .eql 46 0 39,.e 48 39 47,.m 6 35,.m 7 48]) (.ret [6,7]))))))⟩:=by kernel_rfl
theorem F257:compF Tryz.prog 257=some ⟨11,[.tmp 5],(.g [.q 3 41 0,.c 5 0] (.z [3] (.g [.l 6 2,.d 7 2 3,.s 8 (.call (.t 6) [.t 7]),.m 9 1,.g' 10 258 8 9,.m 5 10] (.ret [5]))))⟩:=by kernel_rfl
theorem F258:compF Tryz.prog 258=some ⟨20,[.tmp 4],(.g [.c 4 0] (.g [.m 7 0,.f 8 311 7,.m 5 8] (.g [.m 9 1,.f 10 311 9,.m 6 10] (.join [0,1,6] (.g [.m 11 5] (.i 11 (.join [] (.g [.m 12 6] (.i 12 (.g [.c 4 0] (.ret [4])) .skip)) (.g [.c 4 (-1)] (.ret [4]))) .skip)) (.join [0,1] (.g [.m 13 6] (.i 13 (.g [.c 4 1] (.ret [4])) .skip)) (.join [0,1] (.g [.m 14 0,.m 15 1,.b 16 .lss 14 15] (.i 16 (.g [.c 4 (-1)] (.ret [4])) .skip)) (.join [] (.g [.m 17 0,.m 18 1,.b 19 .gtr 17 18] (.i 19 (.g [.c 4 1] (.ret [4])) .skip)) (.g [.c 4 0] (.ret [4])))))))))⟩:=by kernel_rfl
theorem F311:compF Tryz.prog 311=some ⟨6,[.tmp 2],(.g [.k 2 false] (.g [.m 3 0,.m 4 0,.b 5 .neq 3 4,.m 2 5] (.ret [2])))⟩:=by kernel_rfl
theorem F177:compF Tryz.prog 177=some ⟨14,[.tmp 6,.tmp 7],(.g [.q 4 137 1,.c 6 0,.k 7 false] (.z [4] (.g [.m 8 0,.m 9 2,.s 10 (.mkfn (.func 257) [] [.t 4]),.s 11 (.f 256 [.t 8,.t 9,.t 10]),.j 12 0 11,.j 13 1 11,.m 6 12,.m 7 13] (.ret [6,7]))))⟩:=by kernel_rfl
def B261_0:Cd:=(.join [0,1,2,8,9,10] (.g [.m 15 9,.m 16 10,.b 17 .lss 15 16] (.i 17 .skip (.exit [0,1,2,8,9] 0))) (.block 1 (.g [.m 18 9,.m 19 10,.b 20 .add 18 19,.s 21 (.cvi .u64 (.t 20)),.s 22 (.bin .shr (.t 21) (.c (.int .u64 1))),.s 23 (.cvi .i64 (.t 22)),.m 11 23] (.g [.m 24 2,.m 25 0,.m 26 11,.r 27 4 25 26,.d 28 4 27,.m 29 1,.s 30 (.call (.t 24) [.t 28,.t 29]),.v 31 .lss 30 0] (.i 31 (.reg [.m 32 11,.v 33 .add 32 1,.m 9 33]) (.reg [.m 34 11,.m 10 34]))))))
theorem F261:compF Tryz.prog 261=some ⟨49,[.tmp 6,.tmp 7],(.g [.c 6 0,.k 7 false] (.g [.m 12 0,.u 13 12,.m 8 13] (.g [.m 14 8,.c 9 0,.m 10 14] (.join [0,1,2,8,9] (.block 0 (.loop [0,1,2,8,9,10] [] B261_0)) (.join [6,7] (.reg [.m 35 9,.m 36 9,.m 37 8,.b 38 .lss 36 37,.m 39 38,.my 40 2 39,.my 41 0 39,.my 42 9 39,.ry 43 4 41 42 39,.y 44 (.load (some 4) (.t 43)) 39,.my 45 1 39,.y 46 (.call (.t 40) [.t 44,.t 45]) 39,.vy 47 .eql 46 0 39,.e 48 39 47,.m 6 35,.m 7 48]) (.ret [6,7]))))))⟩:=by kernel_rfl
theorem F262:compF Tryz.prog 262=some ⟨9,[.tmp 4],(.g [.q 2 44 0,.c 4 0] (.z [2] (.g [.a 5 0 2,.l 6 5,.m 7 1,.b 8 .sub 6 7,.m 4 8] (.ret [4]))))⟩:=by kernel_rfl
theorem F182:compF Tryz.prog 182=some ⟨11,[.tmp 4,.tmp 5],(.g [.c 4 0,.k 5 false] (.g [.m 6 0,.m 7 1,.s 8 (.f 261 [.t 6,.t 7,(.c (.fn (.func 262) [] []))]),.j 9 0 8,.j 10 1 8,.m 4 9,.m 5 10] (.ret [4,5])))⟩:=by kernel_rfl
theorem F178:compF Tryz.prog 178=some ⟨5,[.tmp 2],(.g [.q 1 41 0,.c 2 0] (.z [1] (.g [.a 3 0 1,.l 4 3,.m 2 4] (.ret [2]))))⟩:=by kernel_rfl
end Go.Proofs.YtaneehgfdpadjaaGreatDoor

namespace Go.Proofs.YtaneehgfdpadjaaGreatDoor
open Go.Sha
set_option maxRecDepth 100000
variable {g:List (Nat×Obj)}{n:Nat}
def BsB (es : Nat) : Cd := (.join [0, 1, 2, 8, 9, 10] (.g [.m 15 9, .m 16 10, .b 17 .lss 15 16]
 (.i 17 .skip (.exit [0, 1, 2, 8, 9] 0)))
 (.block 1 (.g [.m 18 9, .m 19 10, .b 20 .add 18 19, .s 21 (.cvi .u64 (.t 20)), .s 22 (.bin .shr (.t 21) (.c (.int .u64 1))), .s 23 (.cvi .i64 (.t 22)), .m 11 23]
 (.g [.m 24 2, .m 25 0, .m 26 11, .r 27 es 25 26, .d 28 es 27, .m 29 1, .s 30 (.call (.t 24) [.t 28, .t 29]), .v 31 .lss 30 0]
 (.i 31 (.reg [.m 32 11, .v 33 .add 32 1, .m 9 33]) (.reg [.m 34 11, .m 10 34]))))))
def BsC (es : Nat) : Cd := (.g [.c 6 0, .k 7 false]
 (.g [.m 12 0, .u 13 12, .m 8 13]
 (.g [.m 14 8, .c 9 0, .m 10 14]
 (.join [0, 1, 2, 8, 9] (.block 0 (.loop [0, 1, 2, 8, 9, 10] [] (BsB es)))
 (.join [6, 7] (.reg [.m 35 9, .m 36 9, .m 37 8, .b 38 .lss 36 37, .m 39 38, .my 40 2 39, .my 41 0 39, .my 42 9 39, .ry 43 es 41 42 39, .y 44 (.load (some es) (.t 43)) 39, .my 45 1 39, .y 46 (.call (.t 40) [.t 44, .t 45]) 39, .vy 47 .eql 46 0 39, .e 48 39 47, .m 6 35, .m 7 48])
 (.ret [6, 7]))))))
section
variable {α:Type} [Inhabited α] {f:α→V}{es:Nat}{h k:FuncId}{caps:List V}{v:Int}{c:α→Int}{l:List α}
theorem BsL (he:∀x,(f x).cells.length=es)(hr:∀x,rd (some es) (f x).cells 0=some (f x))(hl:l.length<140737488355328){st:St}(hp:∀x,run Tryz.prog HH h (f x::.int .i64 v::caps) st=some (.ret (.int .i64 (c x)),st))
  (hs:∀x,(snapA st (f x)).getD (f x)=f x) (hc:caps.map (fun v=>(snapA st v).getD v)=caps) (hk0:memL h HH.raw=false):∀i j,i≤j→j≤l.length →
  runL Tryz.prog HH [0,1,2,8,9,10] st.nx (BsB es) [(0,.sl (l.map f)),(1,.int .i64 v),(2,.fn (.func h) [] caps),(8,.int .i64 l.length),(9,.int .i64 i),(10,.int .i64 j)] st
  = some (.exit 0,[(0,.sl (l.map f)),(1,.int .i64 v),(2,.fn (.func h) [] caps),(8,.int .i64 l.length),(9,.int .i64 (bsI (fun k=>c (l.getD k default)) i j))],st):=by
 intro i j
 rw[HH_raw]at hk0
 push_cast at hk0
 induction i,j using bsI.induct (fun k=>c (l.getD k default)) with
 |case1 i j h h2 ih =>
  intro hij hj
  have ih:=ih (by omega) hj
  rw[bsI,dif_pos h,if_pos h2,runL_of (BsB.eq_1 _)]
  have h1:(i:Int)<j:=by omega
  have h3:=halfI (i:=i) (j:=j) (by omega)
  have h4:(((i+j) / 2:Nat):Int)<l.length:=by omega
  have h5:IntKind.i64.wrap ((((i+j) / 2:Nat):Int)+1)=(((i+j) / 2+1:Nat):Int):=iwrap (by omega) (by omega)
  have h207:=hp (l.getD ((i+j) / 2) default)
  generalize hk:(i+j) / 2=k at *
  push_cast at ih h207
  push_cast[h1,h3,h4,h5,h207,h2,he,hr,hs,hc,hk0,loadV]
  exact ih
 |case2 i j h h2 ih =>
  intro hij hj
  have ih:=ih (by omega) (by omega)
  rw[bsI,dif_pos h,if_neg h2,runL_of (BsB.eq_1 _)]
  have h1:(i:Int)<j:=by omega
  have h3:=halfI (i:=i) (j:=j) (by omega)
  have h4:(((i+j) / 2:Nat):Int)<l.length:=by omega
  have h207:=hp (l.getD ((i+j) / 2) default)
  generalize hk:(i+j) / 2=k at *
  push_cast at ih h207
  push_cast[h1,h3,h4,h207,h2,he,hr,hs,hc,hk0,loadV]
  exact ih
 |case3 i j h =>
  intro hij hj
  rw[bsI,dif_neg h,runL_of (BsB.eq_1 _)]
  have h1:¬(i:Int)<j:=by omega
  push_cast[h1]
def bsR (c:α→Int)(l:List α):Nat:=bsI (fun k=>c (l.getD k default)) 0 l.length
def bsF (c:α→Int)(l:List α):Bool:=decide ((bsR c l:Int)<l.length)&&c (l.getD (bsR c l) default) == 0
theorem BsF (he:∀x,(f x).cells.length=es)(hr:∀x,rd (some es) (f x).cells 0=some (f x))(hF:compF Tryz.prog k=some ⟨49,[.tmp 6,.tmp 7],BsC es⟩){st:St}(hH:HH k [.sl (l.map f),.int .i64 v,.fn (.func h) [] caps] st=none)(hb:V.bdL 0 [.sl (l.map f),.int .i64 v,.fn (.func h) [] caps]=true)(hl:l.length<140737488355328)
  (hp:∀x st,run Tryz.prog HH h (f x::.int .i64 v::caps) st=some (.ret (.int .i64 (c x)),st)) (hs:∀st x,(snapA st (f x)).getD (f x)=f x) (hc:∀st,caps.map (fun v=>(snapA st v).getD v)=caps) (hk0:memL h HH.raw=false:=by rfl) :
  run Tryz.prog HH k [.sl (l.map f),.int .i64 v,.fn (.func h) [] caps] st=some (.ret (.tup [.int .i64 (bsR c l),.bool (bsF c l)]),st):=by
 rw[run_shut hF hH rfl hb]
 unfold BsC
 have h0:=fun g n=>BsL (st:=stN g n) (c:=c) he hr hl (fun x=>hp x _) (hs _) (hc _) hk0 0 l.length (by omega) (Nat.le_refl _)
 have h207:=fun st=>hp (l.getD (bsR c l) default) st
 rw[show bsI (fun k=>c (l.getD k default)) 0 l.length=bsR c l from rfl]at h0
 rw[HH_raw]at hk0
 push_cast at h0 h207 hk0
 push_cast[h0,h207,he,hr,hs,hc,hk0,loadV,bsF]
 exact dn_eq (fun h=>h) rfl
end
end Go.Proofs.YtaneehgfdpadjaaGreatDoor

namespace Go.Proofs.YtaneehgfdpadjaaGreatDoor
open Go.Sha
section
set_option linter.unusedSectionVars false
variable {α:Type} [Inhabited α] {key:α→Int}{l:List α}{x:α}{v:Int}{c:α→Int}
def insT (key:α→Int)(x:α)(l:List α):List α:=l.filter (fun y=>decide (key y<key x))++x::l.filter (fun y=>decide (key x<key y))
def delT (key:α→Int)(v:Int)(l:List α):List α:=l.filter (fun y=>decide (¬key y=v))
theorem filter_id {p:α→Bool}(h:∀x∈l,p x=true):l.filter p=l:=List.filter_eq_self.2 h
theorem filter_no {p:α→Bool}(h:∀x∈l,p x=false):l.filter p=[]:=List.filter_eq_nil_iff.2 fun x hx=>by rw[h x hx];simp
theorem bs_split (hs:l.Pairwise fun a b=>c b≤0→c a<0) :
  bsR c l≤l.length∧l.take (bsR c l)=l.filter (fun y=>decide (c y<0))∧(bsF c l=true→bsR c l<l.length∧l.drop (bsR c l+1)=l.filter (fun y=>decide (0<c y))∧l.any (fun y=>decide (c y=0))=true) ∧
   (bsF c l=false→l.drop (bsR c l)=l.filter (fun y=>decide (0<c y))∧l.any (fun y=>decide (c y=0))=false):=by
 have hg:∀k d,k<l.length→l.getD k d∈l∧l[k]?=some (l.getD k d):=fun k d hk=>by
  rw[List.getD_eq_getElem?_getD,List.getElem?_eq_getElem hk];exact⟨List.getElem_mem hk,rfl⟩
 have hp:∀a b,a<b→b<l.length→c (l.getD b default)≤0→c (l.getD a default)<0:=fun a b hab hb h=>by
  have h1:=(hg a default (by omega)).2
  have h2:=(hg b default hb).2
  rw[List.getElem?_eq_getElem (by omega)]at h1 h2
  have:=List.pairwise_iff_getElem.1 hs a b (by omega) hb hab
  rw[Option.some.inj h1,Option.some.inj h2]at this
  exact this h
 obtain⟨_,r1,r2,r3⟩:=bsI_ok (c:=fun k=>c (l.getD k default)) hp (i:=0) (j:=l.length) (by omega) (Nat.le_refl _) (fun k hk=>by omega) (fun k h1 h2=>by omega)
 rw[show bsI (fun k=>c (l.getD k default)) 0 l.length=bsR c l from rfl]at r1 r2 r3
 have gD:∀(k:Nat) y,l[k]?=some y→l.getD k default=y:=fun k y h=>by rw[List.getD_eq_getElem?_getD,h];rfl
 have t1:∀y∈l.take (bsR c l),c y<0:=fun y hy=>by
  obtain⟨k,hk⟩:=List.mem_iff_getElem?.1 hy
  have hkl:k<bsR c l:=by have:=(List.getElem?_eq_some_iff.1 hk).1;simp at this;omega
  rw[List.getElem?_take_of_lt hkl]at hk
  have:=r2 k hkl
  rwa [gD k y hk]at this
 have t2:∀y∈l.drop (bsR c l),0≤c y:=fun y hy=>by
  obtain⟨k,hk⟩:=List.mem_iff_getElem?.1 hy
  rw[List.getElem?_drop]at hk
  have:=r3 (bsR c l+k) (by omega) (List.getElem?_eq_some_iff.1 hk).1
  rwa [gD _ y hk]at this
 have hl:l=l.take (bsR c l)++l.drop (bsR c l):=(List.take_append_drop _ _).symm
 refine⟨r1,?_,fun hf=>?_,fun hf=>?_⟩
 ·rw[show l.filter (fun y=>decide (c y<0))=(l.take (bsR c l)++l.drop (bsR c l)).filter (fun y=>decide (c y<0)) by rw[←hl],List.filter_append,filter_id (fun y hy=>by simpa using t1 y hy),filter_no (fun y hy=>by have:=t2 y hy;simp;omega),List.append_nil]
 ·simp only[bsF,Bool.and_eq_true,decide_eq_true_eq,beq_iff_eq]at hf
  have hr:bsR c l<l.length:=by omega
  have hd:l.drop (bsR c l)=l.getD (bsR c l) default::l.drop (bsR c l+1):=by
   rw[List.drop_eq_getElem_cons hr,List.getD_eq_getElem?_getD,List.getElem?_eq_getElem hr];rfl
  have t3:∀y∈l.drop (bsR c l+1),0<c y:=fun y hy=>by
   obtain⟨k,hk⟩:=List.mem_iff_getElem?.1 hy
   rw[List.getElem?_drop]at hk
   apply Classical.byContradiction;intro h
   have:=hp (bsR c l) (bsR c l+1+k) (by omega) (List.getElem?_eq_some_iff.1 hk).1 (by rw[gD _ y hk];omega)
   omega
  refine⟨hr,?_,?_⟩
  ·rw[show l.filter (fun y=>decide (0<c y))=(l.take (bsR c l)++l.drop (bsR c l)).filter (fun y=>decide (0<c y)) by rw[←hl],List.filter_append,hd,List.filter_cons,filter_id (l:=l.drop (bsR c l+1)) (fun y hy=>by simpa using t3 y hy),filter_no (l:=l.take (bsR c l)) (fun y hy=>by have:=t1 y hy;simp;omega),hf.2]
   simp
  ·rw[List.any_eq_true];exact⟨_,(hg _ default hr).1,by simpa using hf.2⟩
 ·have t4:∀y∈l.drop (bsR c l),0<c y:=fun y hy=>by
   obtain⟨k,hk⟩:=List.mem_iff_getElem?.1 hy
   have h0:=t2 y hy
   rw[List.getElem?_drop]at hk
   have hkl:=(List.getElem?_eq_some_iff.1 hk).1
   apply Classical.byContradiction;intro h
   have hy0:c y=0:=by omega
   rcases Nat.eq_zero_or_pos k with e|e
   ·subst e
    simp only[bsF,Bool.and_eq_false_iff,decide_eq_false_iff_not,beq_eq_false_iff_ne]at hf
    rw[Nat.add_zero]at hk hkl
    rcases hf with hf|hf
    ·omega
    ·rw[gD _ y hk]at hf;exact hf hy0
   ·have:=hp (bsR c l) (bsR c l+k) (by omega) hkl (by rw[gD _ y hk];omega)
    have:=r3 (bsR c l) (Nat.le_refl _) (by omega)
    omega
  refine⟨?_,?_⟩
  ·rw[show l.filter (fun y=>decide (0<c y))=(l.take (bsR c l)++l.drop (bsR c l)).filter (fun y=>decide (0<c y)) by rw[←hl],List.filter_append,filter_no (l:=l.take (bsR c l)) (fun y hy=>by have:=t1 y hy;simp;omega),List.nil_append,filter_id fun y hy=>by simpa using t4 y hy]
  ·rw[List.any_eq_false]
   intro y hy
   rw[hl]at hy
   rcases List.mem_append.1 hy with hy|hy
   ·have:=t1 y hy;simp;omega
   ·have:=t4 y hy;simp;omega
def Asc (key:α→Int)(l:List α):Prop:=l.Pairwise fun a b=>key a<key b
def CmpK (key:α→Int)(v:Int)(c:α→Int)(l:List α):Prop:=∀y∈l,(c y<0↔key y<v)∧(c y=0↔key y=v)
theorem asc_cmp (ha:Asc key l)(hc:CmpK key v c l):l.Pairwise fun a b=>c b≤0→c a<0:=by
 refine List.Pairwise.imp_of_mem ?_ ha
 intro a b h1 h2 hab hb
 have ca:=hc a h1
 have cb:=hc b h2
 rw[ca.1]
 have:key b≤v:=by
  rcases Int.lt_or_eq_of_le hb with h|h
  ·have:=cb.1.1 h;omega
  ·have:=cb.2.1 h;omega
 omega
theorem fil_congr {p q:α→Bool}(h:∀y∈l,p y=q y):l.filter p=l.filter q:=List.filter_congr h
theorem bs_tab (ha:Asc key l)(hc:CmpK key v c l):bsR c l≤l.length∧l.take (bsR c l)=l.filter (fun y=>decide (key y<v))∧bsF c l=l.any (fun y=>decide (key y=v)) ∧
  (bsF c l=true→bsR c l<l.length∧l.drop (bsR c l+1)=l.filter (fun y=>decide (v<key y)))∧(bsF c l=false→l.drop (bsR c l)=l.filter (fun y=>decide (v<key y))):=by
 obtain⟨a1,a2,a3,a4⟩:=bs_split (asc_cmp ha hc)
 have e1:l.filter (fun y=>decide (c y<0))=l.filter (fun y=>decide (key y<v)):=fil_congr fun y hy=>by simp only[(hc y hy).1]
 have e2:l.filter (fun y=>decide (0<c y))=l.filter (fun y=>decide (v<key y)):=fil_congr fun y hy=>by
  have:=hc y hy
  rw[decide_eq_decide]
  constructor
  ·intro h
   have h1:¬key y<v:=fun e=>by have:=this.1.2 e;omega
   have h2:¬key y=v:=fun e=>by have:=this.2.2 e;omega
   omega
  ·intro h
   have h1:¬c y<0:=fun e=>by have:=this.1.1 e;omega
   have h2:¬c y=0:=fun e=>by have:=this.2.1 e;omega
   omega
 have e3:l.any (fun y=>decide (c y=0))=l.any (fun y=>decide (key y=v)):=by
  rw[Bool.eq_iff_iff];simp only[List.any_eq_true,decide_eq_true_eq]
  exact⟨fun⟨y,hy,h⟩=>⟨y,hy,(hc y hy).2.1 h⟩,fun⟨y,hy,h⟩=>⟨y,hy,(hc y hy).2.2 h⟩⟩
 refine⟨a1,a2.trans e1,?_,fun h=>⟨(a3 h).1,(a3 h).2.1.trans e2⟩,fun h=>(a4 h).1.trans e2⟩
 cases h:bsF c l with
 |true=>rw[←e3,(a3 h).2.2]
 |false=>rw[←e3,(a4 h).2]
theorem bs_wrap (hk:∀y∈l,1≤key y∧key y≤1048576)(ha:Asc key l)(hv:-9223372036854775808≤v∧v≤9223372036854775807):bsF (fun y=>IntKind.i64.wrap (key y-v)) l=l.any (fun y=>decide (key y=v)) ∧
  (1≤v∧v≤1048576→CmpK key v (fun y=>IntKind.i64.wrap (key y-v)) l):=by
 have h2:1≤v∧v≤1048576→CmpK key v (fun y=>IntKind.i64.wrap (key y-v)) l:=fun h y hy=>by
  have:=hk y hy
  show(IntKind.i64.wrap (key y-v)<0↔_)∧(IntKind.i64.wrap (key y-v)=0↔_)
  rw[iwrap (by omega) (by omega)]
  constructor<;>constructor<;>intro h<;>omega
 refine⟨?_,h2⟩
 by_cases h:1≤v∧v≤1048576
 ·exact(bs_tab ha (h2 h)).2.2.1
 ·have h3:∀y∈l,¬key y=v:=fun y hy e=>by have:=hk y hy;omega
  have h4:∀y∈l,¬IntKind.i64.wrap (key y-v)=0:=fun y hy e=>by
   have:=hk y hy
   rw[IntKind.wrap_i64]at e
   omega
  have e1:l.any (fun y=>decide (key y=v))=false:=by rw[List.any_eq_false];intro y hy;simpa using h3 y hy
  rw[e1]
  cases hf:bsF (fun y=>IntKind.i64.wrap (key y-v)) l with
  |false=>rfl
  |true =>
   simp only[bsF,Bool.and_eq_true,decide_eq_true_eq,beq_iff_eq]at hf
   have hr:bsR (fun y=>IntKind.i64.wrap (key y-v)) l<l.length:=by omega
   refine absurd hf.2 (h4 _ ?_)
   rw[List.getD_eq_getElem?_getD,List.getElem?_eq_getElem hr];exact List.getElem_mem hr
theorem put_hit (ha:Asc key l)(hc:CmpK key (key x) c l)(hf:bsF c l=true):l.set (bsR c l) x=insT key x l:=by
 obtain⟨a1,a2,_,a4,_⟩:=bs_tab ha hc
 obtain⟨b1,b2⟩:=a4 hf
 rw[insT,←a2,←b2,List.set_eq_take_append_cons_drop,if_pos b1]
theorem put_miss (ha:Asc key l)(hc:CmpK key (key x) c l)(hf:bsF c l=false):l.take (bsR c l)++[x]++l.drop (bsR c l)=insT key x l:=by
 obtain⟨a1,a2,_,_,a5⟩:=bs_tab ha hc
 rw[insT,←a2,←a5 hf];simp
theorem fil_split:∀{l:List α},Asc key l→l.filter (fun y=>decide (key y<v))++l.filter (fun y=>decide (v<key y))=delT key v l
 |[],_=>rfl
 |y::r,ha=>by
  have ha':=List.pairwise_cons.1 ha
  have ih:=fil_split (l:=r) ha'.2
  simp only[delT]at ih ⊢
  simp only[List.filter_cons]
  by_cases h1:key y<v
  ·simp only[h1,decide_true,if_true,show ¬v<key y by omega,decide_false,Bool.false_eq_true,if_false,show ¬key y=v by omega,not_false_eq_true,List.cons_append,ih]
  ·have e:r.filter (fun y=>decide (key y<v))=[]:=filter_no fun z hz=>by have:=ha'.1 z hz;simp;omega
   rw[e,List.nil_append]at ih
   simp only[h1,decide_false,Bool.false_eq_true,if_false,e,List.nil_append]
   by_cases h2:v<key y
   ·simp only[h2,decide_true,if_true,show ¬key y=v by omega,not_false_eq_true,ih]
   ·rw[decide_eq_false h2,if_neg (by simp),ih];simp[show key y=v by omega]
theorem del_hit (ha:Asc key l)(hc:CmpK key v c l)(hf:bsF c l=true):l.take (bsR c l)++l.drop (bsR c l+1)=delT key v l:=by
 obtain⟨a1,a2,_,a4,_⟩:=bs_tab ha hc
 obtain⟨b1,b2⟩:=a4 hf
 rw[a2,b2,fil_split ha]
theorem fil_len:∀{l:List α},Asc key l→(l.filter (fun y=>decide (key y<v))).length+(l.filter (fun y=>decide (v<key y))).length+(if l.any (fun y=>decide (key y=v))=true then 1 else 0)=l.length
 |[],_=>rfl
 |y::r,ha=>by
  have ha':=List.pairwise_cons.1 ha
  have ih:=fil_len (l:=r) ha'.2
  simp only[List.filter_cons,List.any_cons,List.length_cons]
  by_cases h1:key y<v
  ·simp only[h1,show ¬v<key y by omega,show ¬key y=v by omega,decide_true,decide_false,Bool.false_or,if_true,Bool.false_eq_true,if_false,List.length_cons];omega
  ·by_cases h2:v<key y
   ·simp only[h1,h2,show ¬key y=v by omega,decide_true,decide_false,Bool.false_or,if_true,Bool.false_eq_true,if_false,List.length_cons];omega
   ·obtain rfl:v=key y:=by omega
    have e:r.any (fun z=>decide (key z=key y))=false:=by
     rw[List.any_eq_false];intro z hz;have:=ha'.1 z hz;simp;omega
    rw[e]at ih
    simp only[Int.lt_irrefl,decide_true,decide_false,Bool.true_or,if_true,Bool.false_eq_true,if_false]at ih ⊢
    omega
theorem insT_len (ha:Asc key l):(insT key x l).length=if l.any (fun y=>decide (key y=key x))=true then l.length else l.length+1:=by
 have:=fil_len (v:=key x) ha
 simp only[insT,List.length_append,List.length_cons]
 by_cases h:l.any (fun y=>decide (key y=key x))=true
 ·rw[if_pos h]at this ⊢;omega
 ·rw[if_neg h]at this ⊢;omega
end
end Go.Proofs.YtaneehgfdpadjaaGreatDoor

namespace Go.Proofs.YtaneehgfdpadjaaGreatDoor
open Go.Sha
set_option maxRecDepth 10000
theorem F104:compF Tryz.prog 104=some ⟨45,[.tmp 4,.tmp 5],(.g [.q 3 38 1,.s 4 (.mv (.c .nils)),.c 5 0] (.z [3] (.join [0,3] (.g [.m 11 0,.f 12 84 11,.m 6 12] (.g [.m 13 6,.v 14 .neq 13 0] (.i 14 (.g [.m 15 6,.s 4 (.mv (.c .nils)),.m 5 15] (.ret [4,5])) .skip))) (.join [0,3] (.g [.d 16 2 3,.s 17 (.bslice 38 2 [.t 16]),.f 18 84 17,.m 7 18] (.g [.m 19 7,.v 20 .neq 19 0] (.i 20 (.g [.m 21 7,.s 4 (.mv (.c .nils)),.m 5 21] (.ret [4,5])) .skip))) (.g [.m 23 0,.a 24 0 3,.l 25 24,.g' 26 171 23 25,.m 22 26,.j 27 0 22,.j 28 1 22,.m 8 27,.m 9 28] (.g [.m 29 0,.f 30 172 29,.m 10 30] (.join [0,3,8,10] (.g [.m 31 9] (.i 31 (.g [.m 32 10,.m 33 8,.d 34 2 3,.r 35 2 32 33,.w 2 35 34] (.g [.m 36 10,.m 4 36,.c 5 0] (.ret [4,5]))) .skip)) (.join [3,8,10] (.g [.m 37 0,.u 38 37,.v 39 .eql 38 32] (.i 39 (.g [.s 4 (.mv (.c .nils)),.c 5 5] (.ret [4,5])) .skip)) (.g [.m 40 10,.m 41 8,.d 42 2 3,.s 43 (.bslice 38 2 [.t 42]),.s 44 (.f 173 [.t 40,.t 41,.t 43]),.m 4 44,.c 5 0] (.ret [4,5]))))))))))⟩:=by kernel_rfl
theorem F105:compF Tryz.prog 105=some ⟨25,[.tmp 4,.tmp 5,.tmp 6],(.g [.q 3 3 1,.s 4 (.mv (.c .nils)),.k 5 false,.c 6 0] (.z [3] (.join [0,3] (.g [.m 10 0,.f 11 84 10,.m 7 11] (.g [.m 12 7,.v 13 .neq 12 0] (.i 13 (.g [.m 14 7,.s 4 (.mv (.c .nils)),.k 5 false,.m 6 14] (.ret [4,5,6])) .skip))) (.g [.m 16 0,.l 17 3,.g' 18 171 16 17,.m 15 18,.j 19 0 15,.j 20 1 15,.m 8 19,.m 9 20] (.g [.m 21 0,.s 22 (.mkfn (.func 175) [] [.t 3]),.g' 23 174 21 22,.m 24 9,.m 4 23,.m 5 24,.c 6 0] (.ret [4,5,6]))))))⟩:=by kernel_rfl
theorem F106:compF Tryz.prog 106=some ⟨44,[.tmp 4,.tmp 5],(.g [.q 3 41 1,.s 4 (.mv (.c .nils)),.c 5 0] (.z [3] (.join [0,3] (.g [.m 11 0,.f 12 82 11,.m 6 12] (.g [.m 13 6,.v 14 .neq 13 0] (.i 14 (.g [.m 15 6,.s 4 (.mv (.c .nils)),.m 5 15] (.ret [4,5])) .skip))) (.join [0,3] (.g [.d 16 2 3,.f 17 136 16,.m 7 17] (.g [.m 18 7,.v 19 .neq 18 0] (.i 19 (.g [.m 20 7,.s 4 (.mv (.c .nils)),.m 5 20] (.ret [4,5])) .skip))) (.g [.m 21 0,.f 22 176 21,.m 8 22] (.join [8] (.g [.m 24 0,.a 25 0 3,.l 26 25,.s 27 (.f 177 [.t 24,(.c (.fn (.func 178) [] [])),.t 26]),.m 23 27,.j 28 0 23,.j 29 1 23,.m 9 28,.m 10 29] (.g [.m 30 10] (.i 30 (.reg [.m 31 8,.m 32 9,.d 33 2 3,.r 34 2 31 32,.w 2 34 33]) (.reg [.m 35 8,.m 36 9,.d 37 2 3,.s 38 (.bslice 41 2 [.t 37]),.s 39 (.f 179 [.t 35,.t 36,.t 38]),.m 8 39])))) (.join [8] (.g [.m 40 8,.u 41 40,.v 42 .gtr 41 32] (.i 42 (.g [.s 4 (.mv (.c .nils)),.c 5 5] (.ret [4,5])) .skip)) (.g [.m 43 8,.m 4 43,.c 5 0] (.ret [4,5])))))))))⟩:=by kernel_rfl
theorem F107:compF Tryz.prog 107=some ⟨28,[.tmp 4,.tmp 5],(.g [.s 4 (.mv (.c .nils)),.c 5 0] (.join [0,1] (.g [.m 9 0,.f 10 82 9,.m 6 10] (.g [.m 11 6,.v 12 .neq 11 0] (.i 12 (.g [.m 13 6,.s 4 (.mv (.c .nils)),.m 5 13] (.ret [4,5])) .skip))) (.g [.m 15 0,.m 16 1,.s 17 (.f 177 [.t 15,(.c (.fn (.func 178) [] [])),.t 16]),.m 14 17,.j 18 0 14,.j 19 1 14,.m 7 18,.m 8 19] (.join [0,7] (.g [.m 20 8,.z 21 20] (.i 21 (.g [.s 4 (.mv (.c .nils)),.c 5 6] (.ret [4,5])) .skip)) (.g [.m 22 0,.f 23 176 22,.m 24 7,.m 25 7,.v 26 .add 25 1,.s 27 (.f 180 [.t 23,.t 24,.t 26]),.m 4 27,.c 5 0] (.ret [4,5]))))))⟩:=by kernel_rfl
theorem F108:compF Tryz.prog 108=some ⟨44,[.tmp 4,.tmp 5],(.g [.q 3 44 1,.s 4 (.mv (.c .nils)),.c 5 0] (.z [3] (.join [0,3] (.g [.m 11 0,.f 12 87 11,.m 6 12] (.g [.m 13 6,.v 14 .neq 13 0] (.i 14 (.g [.m 15 6,.s 4 (.mv (.c .nils)),.m 5 15] (.ret [4,5])) .skip))) (.join [0,3] (.g [.d 16 4 3,.f 17 139 16,.m 7 17] (.g [.m 18 7,.v 19 .neq 18 0] (.i 19 (.g [.m 20 7,.s 4 (.mv (.c .nils)),.m 5 20] (.ret [4,5])) .skip))) (.g [.m 21 0,.f 22 181 21,.m 8 22] (.g [.m 24 8,.a 25 0 3,.l 26 25,.g' 27 182 24 26,.m 23 27,.j 28 0 23,.j 29 1 23,.m 9 28,.m 10 29] (.join [3,8,9] (.g [.m 30 10] (.i 30 (.g [.m 31 8,.m 32 9,.d 33 4 3,.r 34 4 31 32,.w 4 34 33] (.g [.m 35 8,.m 4 35,.c 5 0] (.ret [4,5]))) .skip)) (.join [3,8,9] (.g [.m 36 8,.u 37 36,.v 38 .eql 37 16] (.i 38 (.g [.s 4 (.mv (.c .nils)),.c 5 5] (.ret [4,5])) .skip)) (.g [.m 39 8,.m 40 9,.d 41 4 3,.s 42 (.bslice 44 4 [.t 41]),.s 43 (.f 183 [.t 39,.t 40,.t 42]),.m 4 43,.c 5 0] (.ret [4,5]))))))))))⟩:=by kernel_rfl
theorem F109:compF Tryz.prog 109=some ⟨31,[.tmp 4,.tmp 5],(.g [.s 4 (.mv (.c .nils)),.c 5 0] (.join [0,1] (.g [.m 9 0,.f 10 87 9,.m 6 10] (.g [.m 11 6,.v 12 .neq 11 0] (.i 12 (.g [.m 13 6,.s 4 (.mv (.c .nils)),.m 5 13] (.ret [4,5])) .skip))) (.g [.m 15 0,.m 16 1,.g' 17 182 15 16,.m 14 17,.j 18 0 14,.j 19 1 14,.m 7 18,.m 8 19] (.join [0,7] (.g [.m 20 8,.z 21 20] (.i 21 (.g [.s 4 (.mv (.c .nils)),.c 5 6] (.ret [4,5])) .skip)) (.join [4,5] (.greg [] [] [[],[],[],[],[],[],[],[false,false,false,false,false,false,false],[],[],[]] [.m 22 0,.m 23 7,.s 24 (.slice 4 (.t 22) none (some (.t 23)) none),.m 25 0,.m 26 7,.v 27 .add 26 1,.s 28 (.slice 4 (.t 25) (some (.t 27)) none none),.s 29 (.bslice 28 1 [.t 24,.t 28]),.f 30 184 29,.m 4 30,.c 5 0]) (.ret [4,5]))))))⟩:=by kernel_rfl
def B174_0:Cd:=(.g [.b 11 .lss 10 9] (.join [1,5,8,9,10] (.i 11 .skip (.exit [5] 0)) (.join [1,5,8,9,10] (.block 1 (.g [.r 12 2 8 10,.d 13 2 12,.s 7 (.alloc 38 [.i 0,.nils]),.w 2 7 13] (.z [7] (.g [.m 14 1,.d 15 2 7,.s 16 (.call (.t 14) [.t 15])] (.i 16 (.reg [.m 17 5,.d 18 2 7,.s 19 (.bslice 38 2 [.t 18]),.s 20 (.append 38 2 32 (.t 17) (.t 19)),.m 5 20]) .skip))))) (.reg [.v 21 .add 10 1,.m 10 21]))))
theorem F174:compF Tryz.prog 174=some ⟨23,[.tmp 4],(.g [.s 4 (.mv (.c .nils))] (.g [.s 5 (.mv (.c .nils))] (.join [5] (.g [.m 8 0,.u 9 8,.c 10 0] (.block 0 (.loop [1,5,8,9,10] [(5,(38,2))] B174_0))) (.g [.m 22 5,.m 4 22] (.ret [4])))))⟩:=by kernel_rfl
theorem F175:compF Tryz.prog 175=some ⟨8,[.tmp 3],(.g [.q 2 38 0,.k 3 false] (.z [2] (.g [.a 4 0 2,.l 5 4,.l 6 1,.b 7 .neq 5 6,.m 3 7] (.ret [3]))))⟩:=by kernel_rfl
theorem F114:compF Tryz.prog 114=some ⟨25,[.tmp 4,.tmp 5,.tmp 6],(.g [.c 4 0,.k 5 false,.c 6 0] (.join [0,1] (.g [.m 10 0,.f 11 89 10,.m 7 11] (.g [.m 12 7,.v 13 .neq 12 0] (.i 13 (.g [.m 14 7,.c 4 0,.k 5 false,.m 6 14] (.ret [4,5,6])) .skip))) (.g [.m 16 0,.m 17 1,.s 18 (.f 187 [.t 16,.t 17,(.c (.fn (.func 142) [] []))]),.m 15 18,.j 19 0 15,.j 20 1 15,.m 8 19,.m 9 20] (.join [8,9] (.g [.m 21 9,.z 22 21] (.i 22 (.reg [.c 8 0]) .skip)) (.g [.m 23 8,.m 24 9,.m 4 23,.m 5 24,.c 6 0] (.ret [4,5,6]))))))⟩:=by kernel_rfl
def B184_0:Cd:=(.g [.b 12 .lss 11 10] (.join [0,3,9,10,11] (.i 12 .skip (.exit [0,3] 0)) (.join [0,3,9,10,11] (.block 1 (.g [.r 13 1 9 11,.l 14 13,.m 5 14] (.g [.m 15 3,.m 16 5,.u 17 16,.b 18 .add 15 17,.m 3 18] (.g [.m 19 3,.v 20 .lss 19 0] (.i 20 (.reg [.s 21 (.mkif 9 (.w [108,101,110,32,111,117,116,32,111,102,32,114,97,110,103,101])),.n (.panic (.t 21))]) .skip))))) (.reg [.v 22 .add 11 1,.m 11 22]))))
def B184_1:Cd:=(.g [.b 28 .lss 27 26] (.join [6,25,26,27] (.i 28 .skip (.exit [6] 2)) (.join [6,25,26,27] (.block 3 (.g [.r 29 1 25 27,.l 30 29,.m 8 30] (.reg [.m 31 6,.m 32 8,.s 33 (.append 44 4 48 (.t 31) (.t 32)),.m 6 33]))) (.reg [.v 34 .add 27 1,.m 27 34]))))
theorem F184:compF Tryz.prog 184=some ⟨36,[.tmp 2],(.g [.s 2 (.mv (.c .nils))] (.g [.c 3 0] (.join [0,3] (.g [.m 9 0,.u 10 9,.c 11 0] (.block 0 (.loop [0,3,9,10,11] [] B184_0))) (.g [.m 23 3,.s 24 (.f 265 [(.c .nils),.t 23]),.m 6 24] (.join [6] (.g [.m 25 0,.u 26 25,.c 27 0] (.block 2 (.loop [6,25,26,27] [(6,(44,4))] B184_1))) (.g [.m 35 6,.m 2 35] (.ret [2])))))))⟩:=by kernel_rfl
end Go.Proofs.YtaneehgfdpadjaaGreatDoor

namespace Go.Proofs.YtaneehgfdpadjaaGreatDoor
open Go.Sha
set_option maxRecDepth 100000
variable {g:List (Nat×Obj)}{n:Nat}
theorem room_ok {n b:Nat}(hr:n<140737488355328 / (b+1))(hb:0<b):roomV n b=true:=by
 simp only[roomV,Bool.and_eq_true,decide_eq_true_eq]
 have h1:n*(b+1)≤140737488355328 / (b+1)*(b+1):=Nat.mul_le_mul_right _ (by omega)
 have h2:=Nat.div_mul_le_self 140737488355328 (b+1)
 rw[Nat.mul_add]at h1
 unfold maxLen
 omega
theorem r_cln {α:Type}{k e es b:Nat}{f:α→V}{l:List α}{st:St}(hH:∀args st,HH k args st=hCln e es b args st)(hf:∀x,fastA (f x)=true)(he:∀x,(f x).cells.length=es)(hr:l.length<140737488355328 / (b+1))(hb:0<b) :
  run Tryz.prog HH k [.sl (l.map f)] st=some (.ret (.osl st.nx l.length),⟨st.nx+1,st.mem,(st.nx,⟨e,es,l.map f,true,false⟩)::st.arr,st.x⟩):=by
 have c1:(l.map f).all fastA=true:=by rw[List.all_map,List.all_eq_true];exact fun x _=>hf x
 have c2:(l.map f).all (fun y=>y.cells.length == es)=true:=by rw[List.all_map,List.all_eq_true];intro x _;simpa using he x
 have c3:roomV (l.map f).length b=true:=by rw[List.length_map];exact room_ok hr hb
 refine run_H ((hH _ _).trans ?_)
 show(if(l.map f).all fastA=true∧(l.map f).all (fun y=>y.cells.length == es)=true∧roomV (l.map f).length b=true then _ else _)=_
 rw[if_pos ⟨c1,c2,c3⟩,List.length_map]
theorem r_ins {k e e' es b id n id' m i:Nat}{xs ys zs:List V}{wr':Bool}{st:St}(hH:∀args st,HH k args st=hIns e es b args st)(h1:Sha.look st.arr id=some ⟨e,es,xs,true,false⟩)(h2:Sha.look st.arr id'=some ⟨e',es,ys,wr',false⟩)(hn:xs.length=n)(hm:ys.length=m)(hne:id'≠id)(h0:0<m)(hi:i≤n)(hr:n+m<140737488355328 / (b+1))(hb:0<b)(hz:mapO (snapA st) ys=some zs) :
  run Tryz.prog HH k [.osl id n,.int .i64 i,.osl id' m] st=some (.ret (.osl id (n+m)),{ st with arr:=updA st.arr id ⟨e,es,xs.take i++zs++xs.drop i,true,false⟩ }):=by
 refine run_H ((hH _ _).trans ?_)
 have h6:roomV (n+m) b=true:=room_ok hr hb
 simp only[hIns,h1,h2,insH]
 rw[if_pos ⟨hn,trivial,trivial,trivial,trivial,hm,trivial,trivial,hne,h0,by omega,by omega,h6⟩,hz,Option.map_some,Int.toNat_natCast]
theorem f252' {l:List Pal}{v:Int}(hl:l.length<140737488355328){st:St}:run Tryz.prog HH 252 [.sl (l.map Pal.v),.int .i64 v,.fn (.func 253) [] []] st=some (.ret (.tup [.int .i64 (bsR (fun y:Pal=>IntKind.i64.wrap (y.num-v)) l),.bool (bsF (fun y:Pal=>IntKind.i64.wrap (y.num-v)) l)]),st) :=
 BsF (f:=Pal.v) (es:=2) (fun _=>rfl) (fun _=>rfl) F252 rfl (by simp) hl (fun x st=>f253) (fun _ _=>rfl) (fun _=>rfl)
theorem f171 {l:List Pal}{v:Int}(hl:l.length<140737488355328){st:St}:run Tryz.prog HH 171 [.sl (l.map Pal.v),.int .i64 v] st=some (.ret (.tup [.int .i64 (bsR (fun y:Pal=>IntKind.i64.wrap (y.num-v)) l),.bool (bsF (fun y:Pal=>IntKind.i64.wrap (y.num-v)) l)]),st):=by
 have h:=fun(st:St)=>f252' (v:=v) hl (st:=st)
 push_cast[Pal.v]at h
 rw[run_shut F171 rfl rfl (by simp)]
 push_cast[Pal.v,h]
def putE (cl cx:Int)(m:Int)(len:Nat):Int:=if ¬cl=0 then cl else if ¬cx=0 then cx else if m<(len:Int) then 5 else 0
def palT (l:List Pal)(x:Pal):Int:=putE (palsCR l) (palsCR [x]) 32 (insT Pal.num x l).length
theorem asc_pal {l:List Pal}(h:palsCR l=0):Asc Pal.num l∧∀q∈l,1≤q.num∧q.num≤1048576:=by
 obtain⟨h1,h2⟩:=pals_ok h
 exact⟨h2,fun q hq=>⟨(h1 q hq).1,(h1 q hq).2.1⟩⟩
theorem f104 {l:List Pal}{x:Pal}(hl:l.length<1000000)(hb:∀q∈l,q.hues.length<140737488355328)(hx:x.hues.length<140737488355328){st:St}:run Tryz.prog HH 104 [.sl (l.map Pal.v),x.v] st=some (.ret (.tup [.sl ((if palT l x=0 then insT Pal.num x l else[]).map Pal.v),.int .i64 (palT l x)]),st):=by
 have h125:=fun(st:St)=>f84 (l:=l) (st:=st) (by omega) hb
 have h125x:=fun(st:St)=>f84 (l:=[x]) (st:=st) (by simp) (fun q hq=>by simp at hq;subst hq;exact hx)
 rw[palsC_eq]at h125 h125x
 have h209:=fun(st:St)=>f171 (l:=l) (v:=x.num) (st:=st) (by omega)
 have h210:=fun(st:St)=>r_cln (k:=172) (e:=38) (es:=2) (b:=32) (f:=Pal.v) (l:=l) (st:=st) (fun _ _=>rfl) (fun _=>rfl) (fun _=>rfl) (by omega) (by omega)
 push_cast[Pal.v,List.map_cons,List.map_nil]at h125 h125x h209 h210
 rw[run_shut F104 rfl rfl (by simp)]
 by_cases c1:palsCR l=0
 ·by_cases c2:palsCR [x]=0
  ·obtain⟨ha,hr⟩:=asc_pal c1
   have hr':=(asc_pal c2).2 x (by simp)
   have hc:=(bs_wrap hr ha (v:=x.num) (by omega)).2 hr'
   cases hf:bsF (fun y:Pal=>IntKind.i64.wrap (y.num-x.num)) l with
   |true =>
    have e1:=put_hit ha hc hf
    have e2:=((bs_tab ha hc).2.2.2.1 hf).1
    have e3:=insT_len (x:=x) ha
    rw[←(bs_tab ha hc).2.2.1,hf,if_pos rfl]at e3
    have e4:(l.length:Int)≤32:=by unfold palsCR at c1;split at c1;cases c1;omega
    generalize hr:bsR (fun y:Pal=>IntKind.i64.wrap (y.num-x.num)) l=r at *
    have e5:l[r]?=some l[r]:=List.getElem?_eq_getElem e2
    have e6:(l.map Pal.v).set r x.v=(insT Pal.num x l).map Pal.v:=by rw[←e1,List.map_set]
    rw[Pal.v]at e6
    have e7:palT l x=0:=by rw[palT,putE,c1,c2,e3];simp;omega
    push_cast[Pal.v,h125,h125x,h209,h210,c1,c2,hf,e5,stoB,V.cells,V.recell,e6,e3,e7,List.length_map]
    exact dn_eq e2 rfl
   |false =>
    have e1:=put_miss ha hc hf
    have e2:=(bs_tab ha hc).1
    have e3:=insT_len (x:=x) ha
    rw[←(bs_tab ha hc).2.2.1,hf,if_neg (by simp)]at e3
    have e4:(l.length:Int)≤32:=by unfold palsCR at c1;split at c1;cases c1;omega
    have e6:(l.map Pal.v).take (bsR (fun y:Pal=>IntKind.i64.wrap (y.num-x.num)) l)++[x.v]++(l.map Pal.v).drop (bsR (fun y:Pal=>IntKind.i64.wrap (y.num-x.num)) l)=(insT Pal.num x l).map Pal.v:=by rw[←e1];simp
    generalize hr:bsR (fun y:Pal=>IntKind.i64.wrap (y.num-x.num)) l=r at *
    by_cases e8:l.length=32
    ·have e7:palT l x=5:=by rw[palT,putE,c1,c2,e3];simp;omega
     have e9:(l.length:Int)=32:=by omega
     push_cast[Pal.v,h125,h125x,h209,h210,c1,c2,hf,e9,e7]
    ·have e7:palT l x=0:=by rw[palT,putE,c1,c2,e3];simp;omega
     have e9:¬(l.length:Int)=32:=by omega
     rw[Pal.v]at e6
     push_cast[Pal.v,h125,h125x,h209,h210,c1,c2,hf,e9]
     rw[r_ins (e:=38) (e':=38) (es:=2) (b:=32) (n:=l.length) (m:=1) (i:=r) (xs:=l.map Pal.v) (ys:=[V.agg [.int .i64 x.num,.sl (x.hues.map Hue.v)]]) (zs:=[V.agg [.int .i64 x.num,.sl (x.hues.map Hue.v)]]) (wr':=false) (fun _ _=>rfl) rfl rfl (by simp) rfl (by decide) (by decide) (by omega) (by omega) (by decide) rfl,e6]
     push_cast[e7,e3,updA]
  ·push_cast[Pal.v,h125,h125x,c1,c2,palT,putE]
 ·push_cast[Pal.v,h125,c1,palT,putE]
end Go.Proofs.YtaneehgfdpadjaaGreatDoor

namespace Go.Proofs.YtaneehgfdpadjaaGreatDoor
open Go.Sha
set_option maxRecDepth 100000
variable {g:List (Nat×Obj)}{n:Nat}
def stQ (g:List (Nat×Obj))(n e es:Nat)(xs:List V):St:=⟨n+1,[],[(n,⟨e,es,xs,false,false⟩)],⟨[],g,[]⟩⟩
@[push_cast]theorem stQ_eq {e es:Nat}{xs:List V}:stQ g n e es xs=⟨n+1,[],[(n,⟨e,es,xs,false,false⟩)],⟨[],g,[]⟩⟩:=idq rfl
theorem f175 {x:Pal}{v:Int}{st:St}:run Tryz.prog HH 175 [x.v,.ep (.agg [.int .i64 v]) 0] st=some (.ret (.bool (decide (¬x.num=v))),st):=by
 have h:(x.num != v)=decide (¬x.num=v):=by by_cases e:x.num=v<;>simp[e]
 rw[run_shut F175 rfl rfl (by simp)]
 push_cast[Pal.v,h]
theorem L174 {l:List Pal}{v:Int}(hl:l.length<1000000):∀r j,l.drop j=r→∀a,a.length+r.length≤1000000 →
  runL Tryz.prog HH [1,5,8,9,10] (n+1) B174_0 [(1,.fn (.func 175) [] [.ep (.agg [.int .i64 v]) 0]),(5,.osl n a.length),(8,.sl (l.map Pal.v)),(9,.int .i64 l.length),(10,.int .i64 j)] (stQ g n 38 2 (a.map Pal.v))
   = some (.exit 0,[(5,.osl n (a++delT Pal.num v r).length)],stQ g n 38 2 ((a++delT Pal.num v r).map Pal.v)):=by
 refine drop_ind (fun j h a ha=>?_) (fun q r j h hx hd ih a ha=>?_)
 all_goals rw[runL_of B174_0.eq_1]
 ·have h1:¬(j:Int)<l.length:=by omega
  push_cast[h1,delT,List.filter_nil,Pal.v]
 ·have h1:(j:Int)<l.length:=by omega
  have h5:=fun(st:St)=>f175 (x:=q) (v:=v) (st:=st)
  push_cast[Pal.v]at h5
  have hw:=iw1 (j:=j) (by omega)
  have h4:roomV (a.length+1) 32=true:=roomV_lit (by simp at ha;omega) (by simp at ha;omega)
  by_cases h2:q.num=v
  ·have ih:=ih a (by simp at ha ⊢;omega)
   have h3:=eq_true h2
   rw[show delT Pal.num v (q::r)=delT Pal.num v r by unfold delT;rw[List.filter_cons_of_neg (by simpa using h2)]]
   push_cast[h1,hw,hx,Pal.v,h3,h5]at ih ⊢
   exact ih
  ·have ih:=ih (a++[q]) (by simp at ha ⊢;omega)
   have h3:=eq_false h2
   rw[show delT Pal.num v (q::r)=q::delT Pal.num v r by unfold delT;rw[List.filter_cons_of_pos (by simpa using h2)]]
   push_cast[h1,hw,hx,Pal.v,h3,h4,List.map_append,h5]at ih ⊢
   exact ih
theorem f174 {l:List Pal}{v:Int}(hl:l.length<1000000){st:St}:run Tryz.prog HH 174 [.sl (l.map Pal.v),.fn (.func 175) [] [.ep (.agg [.int .i64 v]) 0]] st=some (.ret (.sl ((delT Pal.num v l).map Pal.v)),st):=by
 have h0:=L174 (g:=st.x.gl) (n:=0) (v:=v) hl l 0 rfl [] (by simp;omega)
 rw[run_shut F174 rfl rfl (by simp)]
 push_cast[Pal.v]at h0
 push_cast[Pal.v,h0]
theorem f105 {l:List Pal}{v:Int}(hl:l.length<1000000)(hb:∀q∈l,q.hues.length<140737488355328){st:St}:run Tryz.prog HH 105 [.sl (l.map Pal.v),.int .i64 v] st=some (.ret (.tup [.sl ((if palsCR l=0 then delT Pal.num v l else[]).map Pal.v),.bool (if palsCR l=0 then bsF (fun y:Pal=>IntKind.i64.wrap (y.num-v)) l else false),.int .i64 (palsCR l)]),st):=by
 have h125:=fun(st:St)=>f84 (l:=l) (st:=st) (by omega) hb
 rw[palsC_eq]at h125
 have h209:=fun(st:St)=>f171 (l:=l) (v:=v) (st:=st) (by omega)
 have h212:=fun(st:St)=>f174 (l:=l) (v:=v) (st:=st) hl
 push_cast[Pal.v]at h125 h209 h212
 rw[run_shut F105 rfl rfl (by simp)]
 by_cases c:palsCR l=0
 ·push_cast[Pal.v,h125,h209,h212,c]
 ·push_cast[Pal.v,h125,c]
theorem tab_all {α:Type}[Inhabited α]{chk num:α→Int}{l:List α}{T:List α→Nat→Int}(h0:∀j,T [] j=0)(h1:∀q r j,T (q::r) j=if chk q=0 then if 0<j∧num q≤num (l.getD (j-1) default) then 9 else T r (j+1) else chk q) :
  ∀{r:List α}{j:Nat},l.drop j=r→T r j=0→(∀q∈r,chk q=0)∧(Asc num (l.take j)→Asc num l)
 |[],j,hd,_=>by
  have:l.length≤j:=List.drop_eq_nil_iff.1 hd
  rw[List.take_of_length_le this];exact⟨by simp,fun h=>h⟩
 |q::r,j,hd,h=>by
  rw[h1]at h
  split at h
  ·rename_i h3
   split at h
   ·cases h
   ·rename_i h2
    obtain⟨a,b⟩:=tab_all h0 h1 (drop_succ hd) h
    refine⟨fun x hx=>?_,fun hp=>b ?_⟩
    ·rcases List.mem_cons.1 hx with rfl|hx
     ·exact h3
     ·exact a x hx
    ·rw[take_snoc hd]
     refine List.pairwise_append.2 ⟨hp,List.pairwise_singleton ..,fun y hy z hz=>?_⟩
     rw[List.mem_singleton.1 hz]
     obtain⟨k,hk⟩:=List.mem_iff_getElem?.1 hy
     have hj:=drop_le hd
     rw[List.getElem?_take]at hk
     split at hk
     ·rename_i hkj
      have e:l.getD (j-1) default=l[j-1]:=by rw[List.getD_eq_getElem?_getD,List.getElem?_eq_getElem (by omega)];rfl
      rw[e]at h2
      rcases Nat.lt_or_ge k (j-1) with hk2|hk2
      ·have hm:=List.pairwise_iff_getElem.1 hp k (j-1) (by simp;omega) (by simp;omega) hk2
       rw[List.getElem_take,List.getElem_take]at hm
       rw[List.getElem?_eq_getElem (by omega)]at hk
       rw[←Option.some.inj hk];omega
      ·have:k=j-1:=by omega
       subst this
       rw[List.getElem?_eq_getElem (by omega)]at hk
       rw[←Option.some.inj hk];omega
     ·cases hk
  ·rename_i h3;exact absurd h h3
theorem grps_ok {l:List Grp}(h:grpsC l=0):(l.length:Int)≤32∧(∀q∈l,grpC q=0)∧Asc Grp.num l:=by
 unfold grpsC at h
 split at h
 ·cases h
 ·obtain⟨a,b⟩:=tab_all (chk:=grpC) (num:=Grp.num) (l:=l) (T:=grpsL l) (fun _=>rfl) (fun _ _ _=>rfl) (j:=0) (r:=l) rfl h
  exact⟨by omega,a,b List.Pairwise.nil⟩
theorem subs_ok {l:List Sb}(h:subsCR l=0):(l.length:Int)≤16∧(∀q∈l,sbR q=0)∧Asc Sb.num l:=by
 unfold subsCR at h
 split at h
 ·cases h
 ·obtain⟨a,b⟩:=tab_all (chk:=sbR) (num:=Sb.num) (l:=l) (T:=subsR l) (fun _=>rfl) (fun _ _ _=>rfl) (j:=0) (r:=l) rfl h
  exact⟨by omega,a,b List.Pairwise.nil⟩
theorem effs_ok {l:List Eff}(h:effsC l=0):(l.length:Int)≤16∧(∀q∈l,effC q=0)∧Asc Eff.num l:=by
 unfold effsC at h
 split at h
 ·cases h
 ·obtain⟨a,b⟩:=tab_all (chk:=effC) (num:=Eff.num) (l:=l) (T:=effsL l) (fun _=>rfl) (fun _ _ _=>rfl) (j:=0) (r:=l) rfl h
  exact⟨by omega,a,b List.Pairwise.nil⟩
def cmpI (a b:Int):Int:=if a<b then -1 else if b<a then 1 else 0
theorem cmpI_ok {α:Type}{key:α→Int}{v:Int}{l:List α}:CmpK key v (fun y=>cmpI (key y) v) l:=fun y _=>by
 show(cmpI (key y) v<0↔_)∧(cmpI (key y) v=0↔_)
 unfold cmpI
 split
 ·omega
 ·split<;>omega
theorem f311 {v:Int}{st:St}:run Tryz.prog HH 311 [.int .i64 v] st=some (.ret (.bool false),st):=by
 rw[run_shut F311 rfl rfl (by simp)]
 push_cast
 all_goals ((repeat' split)<;>simp_all)
theorem f258 {a b:Int}{st:St}:run Tryz.prog HH 258 [.int .i64 a,.int .i64 b] st=some (.ret (.int .i64 (cmpI a b)),st):=by
 rw[run_shut F258 rfl rfl (by simp)]
 push_cast[f311,cmpI]
theorem f178 {x:Grp}{st:St}:run Tryz.prog HH 178 [x.v] st=some (.ret (.int .i64 x.num),st):=by
 rw[run_shut F178 rfl rfl (by simp)]
 push_cast[Grp.v]
theorem f257 {x:Grp}{v:Int}{st:St}:run Tryz.prog HH 257 [x.v,.int .i64 v,.ep (.agg [.fn (.func 178) [] []]) 0] st=some (.ret (.int .i64 (cmpI x.num v)),st):=by
 have h:=fun(st:St)=>f178 (x:=x) (st:=st)
 push_cast[Grp.v]at h
 rw[run_shut F257 rfl rfl (by simp)]
 push_cast[Grp.v,h,f258]
def grpB (v:Int):Grp→Int:=fun y=>cmpI y.num v
theorem f256 {l:List Grp}{v:Int}(hl:l.length<140737488355328){st:St}:run Tryz.prog HH 256 [.sl (l.map Grp.v),.int .i64 v,.fn (.func 257) [] [.ep (.agg [.fn (.func 178) [] []]) 0]] st=some (.ret (.tup [.int .i64 (bsR (grpB v) l),.bool (bsF (grpB v) l)]),st) :=
 BsF (f:=Grp.v) (es:=2) (fun _=>rfl) (fun _=>rfl) F256 rfl (by simp) hl (fun x st=>f257) (fun _ _=>rfl) (fun _=>rfl)
theorem f177 {l:List Grp}{v:Int}(hl:l.length<140737488355328){st:St}:run Tryz.prog HH 177 [.sl (l.map Grp.v),.fn (.func 178) [] [],.int .i64 v] st=some (.ret (.tup [.int .i64 (bsR (grpB v) l),.bool (bsF (grpB v) l)]),st):=by
 have h:=fun(st:St)=>f256 (v:=v) hl (st:=st)
 push_cast[Grp.v]at h
 rw[run_shut F177 rfl rfl (by simp)]
 push_cast[Grp.v,h]
def grpT (l:List Grp)(x:Grp):Int:=putE (grpsC l) (grpC x) 32 (insT Grp.num x l).length
theorem f106 {l:List Grp}{x:Grp}(hl:l.length<1000000)(hb:∀q∈l,q.chans.length<140737488355328)(hx:x.chans.length<140737488355328){st:St}:run Tryz.prog HH 106 [.sl (l.map Grp.v),x.v] st=some (.ret (.tup [.sl ((if grpT l x=0 then insT Grp.num x l else[]).map Grp.v),.int .i64 (grpT l x)]),st):=by
 have h123:=fun(st:St)=>f82 (l:=l) (st:=st) (by omega) hb
 have h187:=fun(st:St)=>f136 (x:=x) (st:=st) hx
 have h215:=fun(st:St)=>f177 (l:=l) (v:=x.num) (st:=st) (by omega)
 have h214:=fun(st:St)=>r_cln (k:=176) (e:=41) (es:=2) (b:=32) (f:=Grp.v) (l:=l) (st:=st) (fun _ _=>rfl) (fun _=>rfl) (fun _=>rfl) (by omega) (by omega)
 push_cast[Grp.v]at h123 h187 h215 h214
 rw[run_shut F106 rfl rfl (by simp)]
 by_cases c1:grpsC l=0
 ·by_cases c2:grpC x=0
  ·obtain⟨e4,-,ha⟩:=grps_ok c1
   have hc:CmpK Grp.num x.num (grpB x.num) l:=cmpI_ok
   cases hf:bsF (grpB x.num) l with
   |true =>
    have e1:=put_hit ha hc hf
    have e2:=((bs_tab ha hc).2.2.2.1 hf).1
    have e3:=insT_len (x:=x) ha
    rw[←(bs_tab ha hc).2.2.1,hf,if_pos rfl]at e3
    generalize hr:bsR (grpB x.num) l=r at *
    have e5:l[r]?=some l[r]:=List.getElem?_eq_getElem e2
    have e6:(l.map Grp.v).set r x.v=(insT Grp.num x l).map Grp.v:=by rw[←e1,List.map_set]
    rw[Grp.v]at e6
    have e7:grpT l x=0:=by rw[grpT,putE,c1,c2,e3];simp;omega
    have e8:¬(32:Int)<l.length:=by omega
    push_cast[Grp.v,h123,h187,h214,h215,c1,c2,hf,e5,stoB,V.cells,V.recell,e6,e3,e7,e8,List.length_map]
    exact dn_eq e2 rfl
   |false =>
    have e1:=put_miss ha hc hf
    have e2:=(bs_tab ha hc).1
    have e3:=insT_len (x:=x) ha
    rw[←(bs_tab ha hc).2.2.1,hf,if_neg (by simp)]at e3
    have e6:(l.map Grp.v).take (bsR (grpB x.num) l)++[x.v]++(l.map Grp.v).drop (bsR (grpB x.num) l)=(insT Grp.num x l).map Grp.v:=by rw[←e1];simp
    generalize hr:bsR (grpB x.num) l=r at *
    rw[Grp.v]at e6
    push_cast[Grp.v,h123,h187,h214,h215,c1,c2,hf]
    rw[r_ins (e:=41) (e':=41) (es:=2) (b:=32) (n:=l.length) (m:=1) (i:=r) (xs:=l.map Grp.v) (ys:=[V.agg [.int .i64 x.num,.sl (x.chans.map (.int .i64))]]) (zs:=[V.agg [.int .i64 x.num,.sl (x.chans.map (.int .i64))]]) (wr':=false) (fun _ _=>rfl) rfl rfl (by simp) rfl (by decide) (by decide) (by omega) (by omega) (by decide) rfl,e6]
    by_cases e8:l.length=32
    ·have e7:grpT l x=5:=by rw[grpT,putE,c1,c2,e3];simp;omega
     have e9:(32:Int)<l.length+1:=by omega
     push_cast[e7,e3,e9,updA]
    ·have e7:grpT l x=0:=by rw[grpT,putE,c1,c2,e3];simp;omega
     have e9:¬(32:Int)<l.length+1:=by omega
     push_cast[e7,e3,e9,updA]
  ·push_cast[Grp.v,h123,h187,c1,c2,grpT,putE]
 ·push_cast[Grp.v,h123,c1,grpT,putE]
theorem r_del {k e es id n i:Nat}{xs:List V}{st:St}(hH:∀args st,HH k args st=hDel e es args st)(h1:Sha.look st.arr id=some ⟨e,es,xs,true,false⟩)(hn:xs.length=n)(hi:i<n) :
  run Tryz.prog HH k [.osl id n,.int .i64 i,.int .i64 (i+1:Nat)] st=some (.ret (.osl st.nx (n-1)),⟨st.nx+1,st.mem,(st.nx,⟨e,es,xs.take i++xs.drop (i+1),true,false⟩)::delA st.arr id,st.x⟩):=by
 refine run_H ((hH _ _).trans ?_)
 simp only[hDel,h1,delH]
 rw[if_pos ⟨hn,trivial,trivial,trivial,trivial,by omega,by omega,by omega⟩,Int.toNat_natCast,Int.toNat_natCast,show i+1-i=1 by omega]
def delE (c:Int)(b:Bool):Int:=if ¬c=0 then c else if b=true then 0 else 6
theorem f107 {l:List Grp}{v:Int}(hl:l.length<1000000)(hb:∀q∈l,q.chans.length<140737488355328){st:St}:run Tryz.prog HH 107 [.sl (l.map Grp.v),.int .i64 v] st=some (.ret (.tup [.sl ((if delE (grpsC l) (bsF (grpB v) l)=0 then delT Grp.num v l else[]).map Grp.v),.int .i64 (delE (grpsC l) (bsF (grpB v) l))]),st):=by
 have h123:=fun(st:St)=>f82 (l:=l) (st:=st) (by omega) hb
 have h215:=fun(st:St)=>f177 (l:=l) (v:=v) (st:=st) (by omega)
 have h214:=fun(st:St)=>r_cln (k:=176) (e:=41) (es:=2) (b:=32) (f:=Grp.v) (l:=l) (st:=st) (fun _ _=>rfl) (fun _=>rfl) (fun _=>rfl) (by omega) (by omega)
 push_cast[Grp.v]at h123 h215 h214
 rw[run_shut F107 rfl rfl (by simp)]
 by_cases c1:grpsC l=0
 ·obtain⟨e4,-,ha⟩:=grps_ok c1
  have hc:CmpK Grp.num v (grpB v) l:=cmpI_ok
  cases hf:bsF (grpB v) l with
  |true =>
   have e1:=del_hit ha hc hf
   have e2:=((bs_tab ha hc).2.2.2.1 hf).1
   generalize hr:bsR (grpB v) l=r at *
   have e6:(l.map Grp.v).take r++(l.map Grp.v).drop (r+1)=(delT Grp.num v l).map Grp.v:=by rw[←e1];simp
   have hw:IntKind.i64.wrap ((r:Int)+1)=((r+1:Nat):Int):=iwrap (by omega) (by omega)
   have e3:l.length-1=(delT Grp.num v l).length:=by rw[←e1];simp;omega
   push_cast[Grp.v,h123,h214,h215,c1,hf,hw]
   rw[show((r:Int)+1)=((r+1:Nat):Int) by omega,r_del (e:=41) (es:=2) (n:=l.length) (i:=r) (xs:=l.map Grp.v) (fun _ _=>rfl) rfl (by simp) e2,e6]
   push_cast[e3,delE,delA]
  |false=>push_cast[Grp.v,h123,h215,c1,hf,delE]
 ·push_cast[Grp.v,h123,c1,delE]
def sbB (v:Int):Sb→Int:=fun y=>IntKind.i64.wrap (y.num-v)
theorem f262 {x:Sb}{v:Int}{st:St}:run Tryz.prog HH 262 [x.v,.int .i64 v] st=some (.ret (.int .i64 (sbB v x)),st):=by
 rw[run_shut F262 rfl rfl (by simp)]
 push_cast[Sb.v,sbB]
theorem f261 {l:List Sb}{v:Int}(hl:l.length<140737488355328){st:St}:run Tryz.prog HH 261 [.sl (l.map Sb.v),.int .i64 v,.fn (.func 262) [] []] st=some (.ret (.tup [.int .i64 (bsR (sbB v) l),.bool (bsF (sbB v) l)]),st) :=
 BsF (f:=Sb.v) (es:=4) (fun _=>rfl) (fun _=>rfl) F261 rfl (by simp) hl (fun x st=>f262) (fun _ _=>rfl) (fun _=>rfl)
theorem f182 {l:List Sb}{v:Int}(hl:l.length<140737488355328){st:St}:run Tryz.prog HH 182 [.sl (l.map Sb.v),.int .i64 v] st=some (.ret (.tup [.int .i64 (bsR (sbB v) l),.bool (bsF (sbB v) l)]),st):=by
 have h:=fun(st:St)=>f261 (v:=v) hl (st:=st)
 push_cast[Sb.v]at h
 rw[run_shut F182 rfl rfl (by simp)]
 push_cast[Sb.v,h]
section
variable {α:Type} [Inhabited α] {f:α→V}{e es:Nat}{wr:Bool}{h k:FuncId}{caps:List V}{v:Int}{c:α→Int}{l:List α}
theorem BsLo (hg:∀x,V.agg ((f x).cells.take es)=f x)(he:∀x,(f x).cells.length=es)(hr:∀x,rd (some es) (f x).cells 0=some (f x))(hl:l.length<140737488355328){st:St}{id:Nat}(h1':Sha.look st.arr id=some ⟨e,es,l.map f,wr,false⟩)(hp:∀x,run Tryz.prog HH h (f x::.int .i64 v::caps) st=some (.ret (.int .i64 (c x)),st))
  (hs:∀x,(snapA st (f x)).getD (f x)=f x) (hc:caps.map (fun v=>(snapA st v).getD v)=caps) (hk0:memL h HH.raw=false):∀i j,i≤j→j≤l.length →
  runL Tryz.prog HH [0,1,2,8,9,10] st.nx (BsB es) [(0,.osl id l.length),(1,.int .i64 v),(2,.fn (.func h) [] caps),(8,.int .i64 l.length),(9,.int .i64 i),(10,.int .i64 j)] st
  = some (.exit 0,[(0,.osl id l.length),(1,.int .i64 v),(2,.fn (.func h) [] caps),(8,.int .i64 l.length),(9,.int .i64 (bsI (fun k=>c (l.getD k default)) i j))],st):=by
 intro i j
 rw[HH_raw]at hk0
 push_cast at hk0
 induction i,j using bsI.induct (fun k=>c (l.getD k default)) with
 |case1 i j h h2 ih =>
  intro hij hj
  have ih:=ih (by omega) hj
  rw[bsI,dif_pos h,if_pos h2,runL_of (BsB.eq_1 _)]
  have h1:(i:Int)<j:=by omega
  have h3:=halfI (i:=i) (j:=j) (by omega)
  have h4:(((i+j) / 2:Nat):Int)<l.length:=by omega
  have h5:IntKind.i64.wrap ((((i+j) / 2:Nat):Int)+1)=(((i+j) / 2+1:Nat):Int):=iwrap (by omega) (by omega)
  have h207:=hp (l.getD ((i+j) / 2) default)
  generalize hk:(i+j) / 2=k at *
  have e5:l[k]?=some (l.getD k default):=by rw[List.getD_eq_getElem?_getD,List.getElem?_eq_getElem (by omega)];rfl
  have e6:k<l.length:=by omega
  push_cast at ih h207
  push_cast[h1,h3,h4,h5,h207,h2,h1',e5,e6,hg,he,hr,hs,hc,hk0,loadV]
  exact ih
 |case2 i j h h2 ih =>
  intro hij hj
  have ih:=ih (by omega) (by omega)
  rw[bsI,dif_pos h,if_neg h2,runL_of (BsB.eq_1 _)]
  have h1:(i:Int)<j:=by omega
  have h3:=halfI (i:=i) (j:=j) (by omega)
  have h4:(((i+j) / 2:Nat):Int)<l.length:=by omega
  have h207:=hp (l.getD ((i+j) / 2) default)
  generalize hk:(i+j) / 2=k at *
  have e5:l[k]?=some (l.getD k default):=by rw[List.getD_eq_getElem?_getD,List.getElem?_eq_getElem (by omega)];rfl
  have e6:k<l.length:=by omega
  push_cast at ih h207
  push_cast[h1,h3,h4,h207,h2,h1',e5,e6,hg,he,hr,hs,hc,hk0,loadV]
  exact ih
 |case3 i j h =>
  intro hij hj
  rw[bsI,dif_neg h,runL_of (BsB.eq_1 _)]
  have h1:¬(i:Int)<j:=by omega
  push_cast[h1]
theorem BsFo (hg:∀x,V.agg ((f x).cells.take es)=f x)(he:∀x,(f x).cells.length=es)(hr:∀x,rd (some es) (f x).cells 0=some (f x))(hF:compF Tryz.prog k=some ⟨49,[.tmp 6,.tmp 7],BsC es⟩){st:St}{id:Nat}(h1':Sha.look st.arr id=some ⟨e,es,l.map f,wr,false⟩)
  (hH:HH k [.osl id l.length,.int .i64 v,.fn (.func h) [] caps] st=none) (hb:V.bdL 0 [.osl id l.length,.int .i64 v,.fn (.func h) [] caps]=false) (hl:l.length<140737488355328)
  (hp:∀x,run Tryz.prog HH h (f x::.int .i64 v::caps) st=some (.ret (.int .i64 (c x)),st)) (hs:∀x,(snapA st (f x)).getD (f x)=f x) (hc:caps.map (fun v=>(snapA st v).getD v)=caps) (hk0:memL h HH.raw=false:=by rfl) :
  run Tryz.prog HH k [.osl id l.length,.int .i64 v,.fn (.func h) [] caps] st=some (.ret (.tup [.int .i64 (bsR c l),.bool (bsF c l)]),st):=by
 rw[run_open hF hH rfl hb]
 unfold BsC
 have h0:=BsLo hg he hr hl h1' hp hs hc hk0 0 l.length (by omega) (Nat.le_refl _)
 have h207:=hp (l.getD (bsR c l) default)
 rw[show bsI (fun k=>c (l.getD k default)) 0 l.length=bsR c l from rfl]at h0
 rw[HH_raw]at hk0
 push_cast at h0 h207 hk0
 by_cases h2:bsR c l<l.length
 ·have e5:l[bsR c l]?=some (l.getD (bsR c l) default):=by rw[List.getD_eq_getElem?_getD,List.getElem?_eq_getElem (by omega)];rfl
  have h3:(bsR c l:Int)<l.length:=by omega
  push_cast[h0,h207,h1',e5,h2,h3,hg,he,hr,hs,hc,hk0,loadV,bsF]
 ·have h3:¬(bsR c l:Int)<l.length:=by omega
  push_cast[h0,h207,h1',h3,hg,he,hr,hs,hc,hk0,loadV,bsF]
end
end Go.Proofs.YtaneehgfdpadjaaGreatDoor

namespace Go.Proofs.YtaneehgfdpadjaaGreatDoor
open Go.Sha
set_option maxRecDepth 100000
variable {g:List (Nat×Obj)}{n:Nat}
theorem f220o {l:List Sb}{v:Int}{e id:Nat}{st:St}(hl:l.length<140737488355328)(h1:Sha.look st.arr id=some ⟨e,4,l.map Sb.v,true,false⟩) :
  run Tryz.prog HH 182 [.osl id l.length,.int .i64 v] st=some (.ret (.tup [.int .i64 (bsR (sbB v) l),.bool (bsF (sbB v) l)]),st):=by
 have h:=BsFo (f:=Sb.v) (es:=4) (e:=e) (wr:=true) (h:=262) (k:=261) (v:=v) (c:=sbB v) (caps:=[]) (l:=l) (fun _=>rfl) (fun _=>rfl) (fun _=>rfl) F261 h1 rfl (by simp) hl (fun x=>f262) (fun _=>rfl) rfl
 rw[run_open F182 rfl rfl (by simp)]
 push_cast[h,h1]
def sbT (l:List Sb)(x:Sb):Int:=putE (subsCR l) (sbR x) 16 (insT Sb.num x l).length
theorem sb_range {x:Sb}(h:sbR x=0):1≤x.num∧x.num≤1048576:=by
 unfold sbR at h
 split at h
 ·cases h
 ·rename_i h1;unfold sbOk at h1;omega
theorem sb_cmp {l:List Sb}(h:subsCR l=0){v:Int}(hv:1≤v∧v≤1048576):CmpK Sb.num v (sbB v) l:=by
 obtain⟨-,h1,ha⟩:=subs_ok h
 exact(bs_wrap (fun y hy=>sb_range (h1 y hy)) ha (by omega)).2 hv
theorem f108 {l:List Sb}{x:Sb}(hl:l.length<1000000)(hb:∀q∈l,q.gains.length<140737488355328)(hx:x.gains.length<140737488355328){st:St}:run Tryz.prog HH 108 [.sl (l.map Sb.v),x.v] st=some (.ret (.tup [.sl ((if sbT l x=0 then insT Sb.num x l else[]).map Sb.v),.int .i64 (sbT l x)]),st):=by
 have h128:=fun(st:St)=>f87 (l:=l) (st:=st) (by omega) hb
 have h190:=fun(st:St)=>f139 (x:=x) (st:=st) hx
 rw[subsC_eq]at h128
 rw[sb_eq]at h190
 have h219:=fun(st:St)=>r_cln (k:=181) (e:=44) (es:=4) (b:=48) (f:=Sb.v) (l:=l) (st:=st) (fun _ _=>rfl) (fun _=>rfl) (fun _=>rfl) (by omega) (by omega)
 have h220:=fun(arr:List (Nat×Arr)) (id:Nat) (st:St) (h:st.arr=arr) (h1:Sha.look arr id=some ⟨44,4,l.map Sb.v,true,false⟩)=>f220o (v:=x.num) (st:=st) (id:=id) (e:=44) (l:=l) (by omega) (by rw[h];exact h1)
 push_cast[Sb.v]at h128 h190 h219 h220
 rw[run_shut F108 rfl rfl (by simp)]
 by_cases c1:subsCR l=0
 ·by_cases c2:sbR x=0
  ·obtain⟨e4,-,ha⟩:=subs_ok c1
   have hc:CmpK Sb.num x.num (sbB x.num) l:=sb_cmp c1 (sb_range c2)
   push_cast[Sb.v,h128,h190,h219,c1,c2]
   rw[h220 _ 1 _ rfl rfl]
   cases hf:bsF (sbB x.num) l with
   |true =>
    have e1:=put_hit ha hc hf
    have e2:=((bs_tab ha hc).2.2.2.1 hf).1
    have e3:=insT_len (x:=x) ha
    rw[←(bs_tab ha hc).2.2.1,hf,if_pos rfl]at e3
    generalize hr:bsR (sbB x.num) l=r at *
    have e5:l[r]?=some l[r]:=List.getElem?_eq_getElem e2
    have e6:(l.map Sb.v).set r x.v=(insT Sb.num x l).map Sb.v:=by rw[←e1,List.map_set]
    rw[Sb.v]at e6
    have e7:sbT l x=0:=by rw[sbT,putE,c1,c2,e3];simp;omega
    push_cast[Sb.v,e5,stoB,V.cells,V.recell,e6,e3,e7,List.length_map]
    exact dn_eq e2 rfl
   |false =>
    have e1:=put_miss ha hc hf
    have e2:=(bs_tab ha hc).1
    have e3:=insT_len (x:=x) ha
    rw[←(bs_tab ha hc).2.2.1,hf,if_neg (by simp)]at e3
    have e6:(l.map Sb.v).take (bsR (sbB x.num) l)++[x.v]++(l.map Sb.v).drop (bsR (sbB x.num) l)=(insT Sb.num x l).map Sb.v:=by rw[←e1];simp
    generalize hr:bsR (sbB x.num) l=r at *
    rw[Sb.v]at e6
    by_cases e8:l.length=16
    ·have e7:sbT l x=5:=by rw[sbT,putE,c1,c2,e3];simp;omega
     have e9:(l.length:Int)=16:=by omega
     push_cast[e7,e9]
    ·have e7:sbT l x=0:=by rw[sbT,putE,c1,c2,e3];simp;omega
     have e9:¬(l.length:Int)=16:=by omega
     push_cast[e9]
     rw[r_ins (e:=44) (e':=44) (es:=4) (b:=48) (n:=l.length) (m:=1) (i:=r) (xs:=l.map Sb.v) (ys:=[V.agg [.int .i64 x.num,.int .i64 x.prio,.bool x.inh,.sl (x.gains.map Gan.v)]]) (zs:=[V.agg [.int .i64 x.num,.int .i64 x.prio,.bool x.inh,.sl (x.gains.map Gan.v)]]) (wr':=false) (fun _ _=>rfl) rfl rfl (by simp) rfl (by decide) (by decide) (by omega) (by omega) (by decide) rfl,e6]
     push_cast[e7,e3,updA]
  ·push_cast[Sb.v,h128,h190,c1,c2,sbT,putE]
 ·push_cast[Sb.v,h128,c1,sbT,putE]
end Go.Proofs.YtaneehgfdpadjaaGreatDoor

namespace Go.Proofs.YtaneehgfdpadjaaGreatDoor
open Go.Sha
set_option maxRecDepth 10000
theorem F116:compF Tryz.prog 116=some ⟨44,[.tmp 6,.tmp 7],(.g [.q 5 49 2,.s 6 (.mv (.c .nils)),.c 7 0] (.z [5] (.g [.m 13 0,.m 14 1,.g' 15 188 13 14,.m 12 15,.j 16 0 12,.j 17 1 12,.s 8 (.alloc 256 [.nils,.nilm]),.w 2 8 16,.m 9 17] (.z [8] (.join [0,1,5,8] (.g [.m 18 9,.v 19 .neq 18 0] (.i 19 (.g [.m 20 9,.s 6 (.mv (.c .nils)),.m 7 20] (.ret [6,7])) .skip)) (.g [.m 21 0,.f 22 189 21,.m 10 22] (.join [1,10] (.g [.d 23 2 8,.a 24 0 5,.l 25 24,.a 26 1 5,.l 27 26,.s 28 (.f 190 [.t 23,.t 25,.t 27]),.m 11 28] (.g [.m 29 11,.v 30 .geq 29 0] (.i 30 (.reg [.m 31 10,.m 32 11,.d 33 7 5,.r 34 7 31 32,.w 7 34 33]) (.reg [.m 35 10,.d 36 7 5,.s 37 (.bslice 49 7 [.t 36]),.s 38 (.append 49 7 72 (.t 35) (.t 37)),.m 10 38])))) (.g [.m 39 10,.m 40 1,.g' 41 191 39 40,.j 42 0 41,.j 43 1 41,.m 6 42,.m 7 43] (.ret [6,7])))))))))⟩:=by kernel_rfl
theorem F117:compF Tryz.prog 117=some ⟨40,[.tmp 8,.tmp 9,.tmp 10],(.g [.s 8 (.mv (.c .nils)),.k 9 false,.c 10 0] (.g [.m 15 0,.m 16 1,.g' 17 188 15 16,.m 14 17,.j 18 0 14,.j 19 1 14,.s 11 (.alloc 256 [.nils,.nilm]),.w 2 11 18,.m 12 19] (.z [11] (.join [0,2,3,11] (.g [.m 20 12,.v 21 .neq 20 0] (.i 21 (.g [.m 22 12,.s 8 (.mv (.c .nils)),.k 9 false,.m 10 22] (.ret [8,9,10])) .skip)) (.g [.d 23 2 11,.m 24 2,.m 25 3,.s 26 (.f 190 [.t 23,.t 24,.t 25]),.m 13 26] (.join [0,13] (.g [.m 27 13,.v 28 .lss 27 0] (.i 28 (.g [.m 29 0,.f 30 189 29,.m 8 30,.k 9 false,.c 10 0] (.ret [8,9,10])) .skip)) (.join [8,9,10] (.greg [] [] [[],[],[],[],[],[],[],[false,false,false,false,false,false,false],[],[],[],[]] [.m 31 0,.m 32 13,.s 33 (.slice 7 (.t 31) none (some (.t 32)) none),.m 34 0,.m 35 13,.v 36 .add 35 1,.s 37 (.slice 7 (.t 34) (some (.t 36)) none none),.s 38 (.bslice 24 1 [.t 33,.t 37]),.f 39 192 38,.m 8 39,.k 9 true,.c 10 0]) (.ret [8,9,10]))))))))⟩:=by kernel_rfl
def B192_0:Cd:=(.g [.b 12 .lss 11 10] (.join [0,3,9,10,11] (.i 12 .skip (.exit [0,3] 0)) (.join [0,3,9,10,11] (.block 1 (.g [.r 13 1 9 11,.l 14 13,.m 5 14] (.g [.m 15 3,.m 16 5,.u 17 16,.b 18 .add 15 17,.m 3 18] (.g [.m 19 3,.v 20 .lss 19 0] (.i 20 (.reg [.s 21 (.mkif 9 (.w [108,101,110,32,111,117,116,32,111,102,32,114,97,110,103,101])),.n (.panic (.t 21))]) .skip))))) (.reg [.v 22 .add 11 1,.m 11 22]))))
def B192_1:Cd:=(.g [.b 28 .lss 27 26] (.join [6,25,26,27] (.i 28 .skip (.exit [6] 2)) (.join [6,25,26,27] (.block 3 (.g [.r 29 1 25 27,.l 30 29,.m 8 30] (.reg [.m 31 6,.m 32 8,.s 33 (.append 49 7 72 (.t 31) (.t 32)),.m 6 33]))) (.reg [.v 34 .add 27 1,.m 27 34]))))
theorem F192:compF Tryz.prog 192=some ⟨36,[.tmp 2],(.g [.s 2 (.mv (.c .nils))] (.g [.c 3 0] (.join [0,3] (.g [.m 9 0,.u 10 9,.c 11 0] (.block 0 (.loop [0,3,9,10,11] [] B192_0))) (.g [.m 23 3,.s 24 (.f 270 [(.c .nils),.t 23]),.m 6 24] (.join [6] (.g [.m 25 0,.u 26 25,.c 27 0] (.block 2 (.loop [6,25,26,27] [(6,(49,7))] B192_1))) (.g [.m 35 6,.m 2 35] (.ret [2])))))))⟩:=by kernel_rfl
end Go.Proofs.YtaneehgfdpadjaaGreatDoor

namespace Go.Proofs.YtaneehgfdpadjaaGreatDoor
open Go.Sha
set_option maxRecDepth 100000
variable {g:List (Nat×Obj)}{n:Nat}
def CcB (e es b : Nat) : Cd := (.g [.b 28 .lss 27 26]
 (.join [6, 25, 26, 27] (.i 28 .skip
 (.exit [6] 2))
 (.join [6, 25, 26, 27] (.block 3 (.g [.r 29 1 25 27, .l 30 29, .m 8 30]
 (.reg [.m 31 6, .m 32 8, .s 33 (.append e es b (.t 31) (.t 32)), .m 6 33])))
 (.reg [.v 34 .add 27 1, .m 27 34]))))
def CcC (e es b k : Nat) : Cd := (.g [.s 2 (.mv (.c .nils))]
 (.g [.c 3 0]
 (.join [0, 3] (.g [.m 9 0, .u 10 9, .c 11 0]
 (.block 0 (.loop [0, 3, 9, 10, 11] [] B184_0)))
 (.g [.m 23 3, .s 24 (.f k [(.c .nils), .t 23]), .m 6 24]
 (.join [6] (.g [.m 25 0, .u 26 25, .c 27 0]
 (.block 2 (.loop [6, 25, 26, 27] [(6, (e, es))] (CcB e es b))))
 (.g [.m 35 6, .m 2 35]
 (.ret [2])))))))
def sumN {α:Type}(ls:List (List α)):Nat:=(ls.map List.length).sum
theorem sumN_cons {α:Type}{q:List α}{r:List (List α)}:sumN (q::r)=q.length+sumN r:=rfl
section
variable {α:Type}{f:α→V}{ls:List (List α)}{e es b k:Nat}
theorem CcL0 (hl:ls.length<1000000):∀r j,ls.drop j=r→∀s,s+sumN r≤1000000 →
  runL Tryz.prog HH [0,3,9,10,11] n B184_0 [(0,.sl (ls.map fun l=>.sl (l.map f))),(3,.int .i64 (s:Nat)),(9,.sl (ls.map fun l=>.sl (l.map f))),(10,.int .i64 ls.length),(11,.int .i64 j)] (stN g n)
   = some (.exit 0,[(0,.sl (ls.map fun l=>.sl (l.map f))),(3,.int .i64 (s+sumN r:Nat))],stN g n):=by
 refine drop_ind (fun j h s hs=>?_) (fun q r j h hx hd ih s hs=>?_)
 all_goals rw[runL_of B184_0.eq_1]
 ·have h1:¬(j:Int)<ls.length:=by omega
  push_cast[h1,sumN,List.map_nil,List.sum_nil]
 ·have h1:(j:Int)<ls.length:=by omega
  rw[sumN_cons]at hs ⊢
  have hw:=iw1 (j:=j) (by omega)
  have hw2:IntKind.i64.wrap ((s:Int)+q.length)=((s+q.length:Nat):Int):=iwrap (by omega) (by omega)
  have h2:¬((s:Int)+q.length)<0:=by omega
  have ih:=ih (s+q.length) (by omega)
  push_cast[Int.add_assoc]at ih
  push_cast[h1,hw,hw2,hx,h2]at ih ⊢
  exact ih
def stJ (g:List (Nat×Obj))(n e es:Nat)(xs:List V):St:=⟨n+1,[],[(n,⟨e,es,xs,true,false⟩)],⟨[],g,[]⟩⟩
@[push_cast]theorem stJ_eq {e es:Nat}{xs:List V}:stJ g n e es xs=⟨n+1,[],[(n,⟨e,es,xs,true,false⟩)],⟨[],g,[]⟩⟩:=idq rfl
theorem mapO_id {st:St}{l:List V}(h:∀x∈l,snapA st x=some x):mapO (snapA st) l=some l:=by
 induction l with
 |nil=>rfl
 |cons x r ih=>simp only[mapO,h x (List.mem_cons_self ..),ih fun y hy=>h y (List.mem_cons_of_mem _ hy)]
theorem CcL1 (hs:∀st x,snapA st (f x)=some (f x))(hb:b≤1000)(he:∀x,(f x).cells.length=es)(hfa:∀x,fastA (f x)=true)(hl:ls.length<1000000):∀r j,ls.drop j=r→∀a:List α,a.length+sumN r≤1000000 →
  runL Tryz.prog HH [6,25,26,27] (n+1) (CcB e es b) [(6,.osl n a.length),(25,.sl (ls.map fun l=>.sl (l.map f))),(26,.int .i64 ls.length),(27,.int .i64 j)] (stJ g n e es (a.map f))
   = some (.exit 2,[(6,.osl n (a++r.flatten).length)],stJ g n e es ((a++r.flatten).map f)):=by
 refine drop_ind (fun j h a ha=>?_) (fun q r j h hx hd ih a ha=>?_)
 all_goals rw[runL_of (CcB.eq_1 _ _ _)]
 ·have h1:¬(j:Int)<ls.length:=by omega
  push_cast[h1,List.flatten_nil,List.append_nil]
 ·have h1:(j:Int)<ls.length:=by omega
  rw[sumN_cons]at ha
  have hw:=iw1 (j:=j) (by omega)
  have h5:=fun st:St=>mapO_id (st:=st) (l:=q.map f) (fun x hx=>by obtain⟨y,-,rfl⟩:=List.mem_map.1 hx;exact hs st y)
  have h6:((q.map f).all fun y=>y.cells.length == es)=true:=by rw[List.all_map,List.all_eq_true];intro y _;simpa using he y
  have h4:roomV (a.length+q.length) b=true:=roomV_lit (by have:=Nat.mul_le_mul (show a.length+q.length≤1000000 by omega) hb;omega) (by omega)
  have ih:=ih (a++q) (by simp;omega)
  push_cast[List.map_append,List.append_assoc]at ih
  push_cast[h1,hw,hx,h4,h5,h6,appS_s,appG_osl,List.map_append,List.flatten_cons]at ih ⊢
  exact ih
theorem r_grw {m:Nat}{st:St}(hH:∀args st,HH k args st=hGrw e es b args st)(hm:m≤1000000)(hb:b≤1000) :
  run Tryz.prog HH k [.nils,.int .i64 m] st=some (.ret (.osl st.nx 0),⟨st.nx+1,st.mem,(st.nx,⟨e,es,[],true,false⟩)::st.arr,st.x⟩):=by
 refine run_H ((hH _ _).trans ?_)
 have h6:roomV m b=true:=roomV_lit (by have:=Nat.mul_le_mul hm hb;omega) (by omega)
 simp only[hGrw]
 rw[if_pos ⟨by omega,by omega,by rw[Int.toNat_natCast];exact h6⟩]
theorem CcF {k':FuncId}(hF:compF Tryz.prog k'=some ⟨36,[.tmp 2],CcC e es b k⟩){st:St}(hH':HH k' [.sl (ls.map fun l=>.sl (l.map f))] st=none)(hB:V.bdL 0 [.sl (ls.map fun l=>.sl (l.map f))]=true)(hH:∀args st,HH k args st=hGrw e es b args st)(hs:∀st x,snapA st (f x)=some (f x))(hb:b≤1000)(he:∀x,(f x).cells.length=es)(hfa:∀x,fastA (f x)=true)(hbd:∀x,V.bd 0 (f x)=true)
  (hl:ls.length<1000000) (hN:sumN ls≤1000000) (hk0:(decide (103=k)||(decide (113=k)||(decide (173=k)||(decide (179=k)||(decide (183=k)||(decide (265=k)||decide (270=k)))))))=true:=by rfl):run Tryz.prog HH k' [.sl (ls.map fun l=>.sl (l.map f))] st=some (.ret (.sl (ls.flatten.map f)),st):=by
 rw[run_shut hF hH' rfl hB]
 unfold CcC
 have h0:=CcL0 (g:=st.x.gl) (n:=0) (f:=f) hl ls 0 rfl 0 (by omega)
 have h1:=CcL1 (g:=st.x.gl) (n:=0) (f:=f) (e:=e) hs hb he hfa hl ls 0 rfl [] (by simpa using hN)
 have h2:=fun st:St=>r_grw (m:=sumN ls) (st:=st) hH hN hb
 push_cast at h0 h1 h2
 have h6:(ls.flatten.all fun x=>V.bd 0 (f x))=true:=List.all_eq_true.2 fun x _=>hbd x
 push_cast[h0,h1,h2,hk0,h6]
end
theorem f184 {ls:List (List Sb)}(hl:ls.length<1000000)(hN:sumN ls≤1000000){st:St}:run Tryz.prog HH 184 [.sl (ls.map fun l=>.sl (l.map Sb.v))] st=some (.ret (.sl (ls.flatten.map Sb.v)),st) :=
 CcF (e:=44) (es:=4) (b:=48) (k:=265) F184 rfl (by simp) (fun _ _=>rfl) (fun _ _=>rfl) (by decide) (fun _=>rfl) (fun _=>rfl) (fun _=>(by simp)) hl hN
theorem f192 {ls:List (List Fixt)}(hl:ls.length<1000000)(hN:sumN ls≤1000000){st:St}:run Tryz.prog HH 192 [.sl (ls.map fun l=>.sl (l.map Fixt.v))] st=some (.ret (.sl (ls.flatten.map Fixt.v)),st) :=
 CcF (e:=49) (es:=7) (b:=72) (k:=270) F192 rfl (by simp) (fun _ _=>rfl) (fun _ _=>rfl) (by decide) (fun _=>rfl) (fun _=>rfl) (fun _=>(by simp)) hl hN
theorem f109 {l:List Sb}{v:Int}(hv:-9223372036854775808≤v∧v≤9223372036854775807)(hl:l.length<1000000)(hb:∀q∈l,q.gains.length<140737488355328){st:St}:run Tryz.prog HH 109 [.sl (l.map Sb.v),.int .i64 v] st=some (.ret (.tup [.sl ((if delE (subsCR l) (bsF (sbB v) l)=0 then delT Sb.num v l else[]).map Sb.v),.int .i64 (delE (subsCR l) (bsF (sbB v) l))]),st):=by
 have h128:=fun(st:St)=>f87 (l:=l) (st:=st) (by omega) hb
 rw[subsC_eq]at h128
 have h220:=fun(st:St)=>f182 (l:=l) (v:=v) (st:=st) (by omega)
 push_cast[Sb.v]at h128 h220
 rw[run_shut F109 rfl rfl (by simp)]
 by_cases c1:subsCR l=0
 ·obtain⟨e4,h1,ha⟩:=subs_ok c1
  cases hf:bsF (sbB v) l with
  |true =>
   have hv:1≤v∧v≤1048576:=by
    have e:=(bs_wrap (v:=v) (fun y hy=>sb_range (h1 y hy)) ha hv).1
    rw[show(fun y:Sb=>IntKind.i64.wrap (y.num-v))=sbB v from rfl,hf]at e
    obtain⟨y,hy,h⟩:=List.any_eq_true.1 e.symm
    have h:=of_decide_eq_true h
    subst h
    exact sb_range (h1 y hy)
   have hc:CmpK Sb.num v (sbB v) l:=sb_cmp c1 hv
   have e1:=del_hit ha hc hf
   have e2:=((bs_tab ha hc).2.2.2.1 hf).1
   generalize hr:bsR (sbB v) l=r at *
   have hw:IntKind.i64.wrap ((r:Int)+1)=((r+1:Nat):Int):=iwrap (by omega) (by omega)
   have h222:∀st,run Tryz.prog HH 184 [.sl [.sl ((l.take r).map Sb.v),.sl ((l.drop (r+1)).map Sb.v)]] st=some (.ret (.sl ((delT Sb.num v l).map Sb.v)),st):=fun st=>by
    have h:=f184 (ls:=[l.take r,l.drop (r+1)]) (st:=st) (by simp) (by simp[sumN];omega)
    rw[show[l.take r,l.drop (r+1)].flatten=delT Sb.num v l by rw[←e1];simp]at h
    exact h
   have h7:((r:Int)+1).toNat=r+1:=by omega
   push_cast[Sb.v,h128,h220,h222,c1,hf,hw,delE,h7,List.take_length]
   exact dn_eq (by omega) rfl
  |false=>push_cast[Sb.v,h128,h220,c1,hf,delE]
 ·push_cast[Sb.v,h128,c1,delE]
end Go.Proofs.YtaneehgfdpadjaaGreatDoor

namespace Go.Proofs.YtaneehgfdpadjaaGreatDoor
open Go.Sha
set_option maxRecDepth 100000
variable {g:List (Nat×Obj)}{n:Nat}
def effB (v:Int):Eff→Int:=fun y=>IntKind.i64.wrap (y.num-v)
theorem f267 {x:Eff}{v:Int}{st:St}:run Tryz.prog HH 267 [x.v,.int .i64 v,.ep (.agg [.fn (.func 142) [] []]) 0] st=some (.ret (.int .i64 (effB v x)),st):=by
 have h:=fun(st:St)=>f142 (x:=x) (st:=st)
 push_cast[Eff.v]at h
 rw[run_shut F267 rfl rfl (by simp)]
 push_cast[Eff.v,h,effB]
theorem f110 {l:List Eff}{v:Int}(hl:l.length<140737488355328){st:St}:run Tryz.prog HH 110 [.sl (l.map Eff.v),.int .i64 v,.fn (.func 267) [] [.ep (.agg [.fn (.func 142) [] []]) 0]] st=some (.ret (.tup [.int .i64 (bsR (effB v) l),.bool (bsF (effB v) l)]),st) :=
 BsF (f:=Eff.v) (es:=6) (fun _=>rfl) (fun _=>rfl) F110 rfl (by simp) hl (fun x st=>f267) (fun _ _=>rfl) (fun _=>rfl)
theorem f187 {l:List Eff}{v:Int}(hl:l.length<140737488355328){st:St}:run Tryz.prog HH 187 [.sl (l.map Eff.v),.int .i64 v,.fn (.func 142) [] []] st=some (.ret (.tup [.int .i64 (bsR (effB v) l),.bool (bsF (effB v) l)]),st):=by
 have h:=fun(st:St)=>f110 (v:=v) hl (st:=st)
 push_cast[Eff.v]at h
 rw[run_shut F187 rfl rfl (by simp)]
 push_cast[Eff.v,h]
theorem eff_range {x:Eff}(h:effC x=0):1≤x.num∧x.num≤1048576:=by
 unfold effC at h
 split at h
 ·cases h
 ·omega
theorem f114 {l:List Eff}{v:Int}(hl:l.length<1000000)(hb:∀q∈l,q.wave.length<140737488355328){st:St}:run Tryz.prog HH 114 [.sl (l.map Eff.v),.int .i64 v] st=some (.ret (.tup [.int .i64 (if effsC l=0∧bsF (effB v) l=true then bsR (effB v) l else 0:Nat),.bool (if effsC l=0 then bsF (effB v) l else false),.int .i64 (effsC l)]),st):=by
 have h130:=fun(st:St)=>f89 (l:=l) (st:=st) (by omega) hb
 have h225:=fun(st:St)=>f187 (l:=l) (v:=v) (st:=st) (by omega)
 push_cast[Eff.v]at h130 h225
 rw[run_shut F114 rfl rfl (by simp)]
 by_cases c1:effsC l=0
 ·cases hf:bsF (effB v) l with
  |true=>push_cast[Eff.v,h130,h225,c1,hf]
  |false=>push_cast[Eff.v,h130,h225,c1,hf]
 ·push_cast[Eff.v,h130,c1,false_and]
end Go.Proofs.YtaneehgfdpadjaaGreatDoor

namespace Go.Proofs.YtaneehgfdpadjaaGreatDoor
open Go.Sha
set_option maxRecDepth 100000
variable {g:List (Nat×Obj)}{n:Nat}
def edC (s:Sho)(e:Edi):List V:=s.v.cells++e.v.cells
theorem edC_eq {s:Sho}{e:Edi}:edC s e=[.str s.title,.sl (s.curves.map Pt.vs),.sl (s.profs.map Prof.v),.sl (s.fixts.map Fixt.v),.sl (s.grps.map Grp.v),.sl (s.pals.map Pal.v),.sl (s.lsts.map Lst.v),.sl (s.subs.map Sb.v),.sl (s.effs.map Eff.v),
 .int .i64 e.kind,.int .i64 e.num,.int .i64 e.chan,.int .i64 e.prio,.str e.key,.str e.cue.num,.str e.cue.label,.sl (e.cue.moves.map Mov.v),.sl (e.cue.parts.map Tim.v),.bool e.cue.block,.bool e.cue.mark,.int .i64 e.cue.follow,.str e.cue.link,.int .i64 e.cue.loops,.int .i64 e.pal.num,.sl (e.pal.hues.map Hue.v),.int .i64 e.grp.num,.sl (e.grp.chans.map (V.int .i64)),.int .i64 e.sub.num,.int .i64 e.sub.prio,.bool e.sub.inh,.sl (e.sub.gains.map Gan.v),.int .i64 e.eff.num,.int .i64 e.eff.attr,.sl (e.eff.wave.map Pt.v),.int .i64 e.eff.period,.int .i64 e.eff.spread,.int .i64 e.eff.size,.int .i64 e.fix.chan,.int .i64 e.fix.part,.str e.fix.prof,.int .i64 e.fix.univ,.int .i64 e.fix.addr,.int .i64 e.fix.phase,.str e.fix.cable]:=rfl
theorem f48 {s:Sho}{e:Edi}{id:Nat}{st:St}(h:Sha.look st.mem id=some (edC s e))(hl:s.pals.length<1000000)(hb:∀q∈s.pals,q.hues.length<140737488355328)(hx:e.pal.hues.length<140737488355328) :
  run Tryz.prog HH 48 [.ptr id 0] st=some (.ret (.int .i64 (palT s.pals e.pal)),⟨st.nx,updM st.mem id (edC { s with pals:=if palT s.pals e.pal=0 then insT Pal.num e.pal s.pals else[] } e),st.arr,st.x⟩):=by
 have h148:=fun(st:St)=>f104 hl hb hx (st:=st)
 rw[edC_eq]at h ⊢
 rw[run_open F48 rfl rfl (by simp)]
 push_cast[Pal.v]at h148
 push_cast[h,h148]
def S0:Sho:=⟨[],[],[],[],[],[],[],[],[]⟩
def appR (e:Edi)(s':Sho)(c:Int):Int:=if ¬edtC e=0 then edtC e else if ¬c=0 then c else shoC s'
theorem f21_3 {s s':Sho}{e:Edi}{c:Int}(hk:e.kind=3)(hm:e.cue.moves.length<140737488355328)(hp:e.cue.parts.length<140737488355328)
  (hM:∀(id:Nat) (st:St),Sha.look st.mem id=some (edC s e)→run Tryz.prog HH 48 [.ptr id 0] st=some (.ret (.int .i64 c),⟨st.nx,updM st.mem id (edC s' e),st.arr,st.x⟩)) (hok:c=0→s'.ok) {st:St} :
  run Tryz.prog HH 21 [s.v,e.v] st=some (.ret (.tup [(if appR e s' c=0 then s' else S0).v,.int .i64 (appR e s' c)]),st):=by
 have h14:=fun(st:St)=>f44 hm hp (st:=st)
 rw[run_shut F21 rfl rfl (by simp)]
 push_cast[Edi.v,Sho.v,hk]at h14
 by_cases c1:edtC e=0
 ·push_cast[Edi.v,Sho.v,hk,h14,c1]
  rw[hM 3 _ (by rw[edC_eq,hk];rfl),edC_eq]
  by_cases c2:c=0
  ·have h18:=fun(st:St)=>f20 (hok c2) (st:=st)
   have e1:appR e s' 0=shoC s':=by rw[appR,if_neg (by simp[c1]),if_neg (by simp)]
   push_cast[Sho.v]at h18
   by_cases c3:shoC s'=0
   ·push_cast[updM,c2,e1,c3,h18]
   ·push_cast[updM,c2,e1,c3,h18,S0,List.map_nil]
  ·have e1:appR e s' c=c:=by rw[appR,if_neg (by simp[c1]),if_pos c2]
   push_cast[updM,c2,e1,S0,List.map_nil]
 ·have e1:appR e s' c=edtC e:=if_pos c1
  push_cast[Edi.v,Sho.v,hk,h14,c1,e1,S0,List.map_nil]
theorem f21_4 {s s':Sho}{e:Edi}{c:Int}(hk:e.kind=4)(hm:e.cue.moves.length<140737488355328)(hp:e.cue.parts.length<140737488355328)
  (hM:∀(id:Nat) (st:St),Sha.look st.mem id=some (edC s e)→run Tryz.prog HH 49 [.ptr id 0] st=some (.ret (.int .i64 c),⟨st.nx,updM st.mem id (edC s' e),st.arr,st.x⟩)) (hok:c=0→s'.ok) {st:St} :
  run Tryz.prog HH 21 [s.v,e.v] st=some (.ret (.tup [(if appR e s' c=0 then s' else S0).v,.int .i64 (appR e s' c)]),st):=by
 have h14:=fun(st:St)=>f44 hm hp (st:=st)
 rw[run_shut F21 rfl rfl (by simp)]
 push_cast[Edi.v,Sho.v,hk]at h14
 by_cases c1:edtC e=0
 ·push_cast[Edi.v,Sho.v,hk,h14,c1]
  rw[hM 3 _ (by rw[edC_eq,hk];rfl),edC_eq]
  by_cases c2:c=0
  ·have h18:=fun(st:St)=>f20 (hok c2) (st:=st)
   have e1:appR e s' 0=shoC s':=by rw[appR,if_neg (by simp[c1]),if_neg (by simp)]
   push_cast[Sho.v]at h18
   by_cases c3:shoC s'=0
   ·push_cast[updM,c2,e1,c3,h18]
   ·push_cast[updM,c2,e1,c3,h18,S0,List.map_nil]
  ·have e1:appR e s' c=c:=by rw[appR,if_neg (by simp[c1]),if_pos c2]
   push_cast[updM,c2,e1,S0,List.map_nil]
 ·have e1:appR e s' c=edtC e:=if_pos c1
  push_cast[Edi.v,Sho.v,hk,h14,c1,e1,S0,List.map_nil]
theorem f21_5 {s s':Sho}{e:Edi}{c:Int}(hk:e.kind=5)(hm:e.cue.moves.length<140737488355328)(hp:e.cue.parts.length<140737488355328)
  (hM:∀(id:Nat) (st:St),Sha.look st.mem id=some (edC s e)→run Tryz.prog HH 50 [.ptr id 0] st=some (.ret (.int .i64 c),⟨st.nx,updM st.mem id (edC s' e),st.arr,st.x⟩)) (hok:c=0→s'.ok) {st:St} :
  run Tryz.prog HH 21 [s.v,e.v] st=some (.ret (.tup [(if appR e s' c=0 then s' else S0).v,.int .i64 (appR e s' c)]),st):=by
 have h14:=fun(st:St)=>f44 hm hp (st:=st)
 rw[run_shut F21 rfl rfl (by simp)]
 push_cast[Edi.v,Sho.v,hk]at h14
 by_cases c1:edtC e=0
 ·push_cast[Edi.v,Sho.v,hk,h14,c1]
  rw[hM 3 _ (by rw[edC_eq,hk];rfl),edC_eq]
  by_cases c2:c=0
  ·have h18:=fun(st:St)=>f20 (hok c2) (st:=st)
   have e1:appR e s' 0=shoC s':=by rw[appR,if_neg (by simp[c1]),if_neg (by simp)]
   push_cast[Sho.v]at h18
   by_cases c3:shoC s'=0
   ·push_cast[updM,c2,e1,c3,h18]
   ·push_cast[updM,c2,e1,c3,h18,S0,List.map_nil]
  ·have e1:appR e s' c=c:=by rw[appR,if_neg (by simp[c1]),if_pos c2]
   push_cast[updM,c2,e1,S0,List.map_nil]
 ·have e1:appR e s' c=edtC e:=if_pos c1
  push_cast[Edi.v,Sho.v,hk,h14,c1,e1,S0,List.map_nil]
theorem f21_6 {s s':Sho}{e:Edi}{c:Int}(hk:e.kind=6)(hm:e.cue.moves.length<140737488355328)(hp:e.cue.parts.length<140737488355328)
  (hM:∀(id:Nat) (st:St),Sha.look st.mem id=some (edC s e)→run Tryz.prog HH 51 [.ptr id 0] st=some (.ret (.int .i64 c),⟨st.nx,updM st.mem id (edC s' e),st.arr,st.x⟩)) (hok:c=0→s'.ok) {st:St} :
  run Tryz.prog HH 21 [s.v,e.v] st=some (.ret (.tup [(if appR e s' c=0 then s' else S0).v,.int .i64 (appR e s' c)]),st):=by
 have h14:=fun(st:St)=>f44 hm hp (st:=st)
 rw[run_shut F21 rfl rfl (by simp)]
 push_cast[Edi.v,Sho.v,hk]at h14
 by_cases c1:edtC e=0
 ·push_cast[Edi.v,Sho.v,hk,h14,c1]
  rw[hM 3 _ (by rw[edC_eq,hk];rfl),edC_eq]
  by_cases c2:c=0
  ·have h18:=fun(st:St)=>f20 (hok c2) (st:=st)
   have e1:appR e s' 0=shoC s':=by rw[appR,if_neg (by simp[c1]),if_neg (by simp)]
   push_cast[Sho.v]at h18
   by_cases c3:shoC s'=0
   ·push_cast[updM,c2,e1,c3,h18]
   ·push_cast[updM,c2,e1,c3,h18,S0,List.map_nil]
  ·have e1:appR e s' c=c:=by rw[appR,if_neg (by simp[c1]),if_pos c2]
   push_cast[updM,c2,e1,S0,List.map_nil]
 ·have e1:appR e s' c=edtC e:=if_pos c1
  push_cast[Edi.v,Sho.v,hk,h14,c1,e1,S0,List.map_nil]
theorem f21_7 {s s':Sho}{e:Edi}{c:Int}(hk:e.kind=7)(hm:e.cue.moves.length<140737488355328)(hp:e.cue.parts.length<140737488355328)
  (hM:∀(id:Nat) (st:St),Sha.look st.mem id=some (edC s e)→run Tryz.prog HH 52 [.ptr id 0] st=some (.ret (.int .i64 c),⟨st.nx,updM st.mem id (edC s' e),st.arr,st.x⟩)) (hok:c=0→s'.ok) {st:St} :
  run Tryz.prog HH 21 [s.v,e.v] st=some (.ret (.tup [(if appR e s' c=0 then s' else S0).v,.int .i64 (appR e s' c)]),st):=by
 have h14:=fun(st:St)=>f44 hm hp (st:=st)
 rw[run_shut F21 rfl rfl (by simp)]
 push_cast[Edi.v,Sho.v,hk]at h14
 by_cases c1:edtC e=0
 ·push_cast[Edi.v,Sho.v,hk,h14,c1]
  rw[hM 3 _ (by rw[edC_eq,hk];rfl),edC_eq]
  by_cases c2:c=0
  ·have h18:=fun(st:St)=>f20 (hok c2) (st:=st)
   have e1:appR e s' 0=shoC s':=by rw[appR,if_neg (by simp[c1]),if_neg (by simp)]
   push_cast[Sho.v]at h18
   by_cases c3:shoC s'=0
   ·push_cast[updM,c2,e1,c3,h18]
   ·push_cast[updM,c2,e1,c3,h18,S0,List.map_nil]
  ·have e1:appR e s' c=c:=by rw[appR,if_neg (by simp[c1]),if_pos c2]
   push_cast[updM,c2,e1,S0,List.map_nil]
 ·have e1:appR e s' c=edtC e:=if_pos c1
  push_cast[Edi.v,Sho.v,hk,h14,c1,e1,S0,List.map_nil]
theorem f21_8 {s s':Sho}{e:Edi}{c:Int}(hk:e.kind=8)(hm:e.cue.moves.length<140737488355328)(hp:e.cue.parts.length<140737488355328)
  (hM:∀(id:Nat) (st:St),Sha.look st.mem id=some (edC s e)→run Tryz.prog HH 53 [.ptr id 0] st=some (.ret (.int .i64 c),⟨st.nx,updM st.mem id (edC s' e),st.arr,st.x⟩)) (hok:c=0→s'.ok) {st:St} :
  run Tryz.prog HH 21 [s.v,e.v] st=some (.ret (.tup [(if appR e s' c=0 then s' else S0).v,.int .i64 (appR e s' c)]),st):=by
 have h14:=fun(st:St)=>f44 hm hp (st:=st)
 rw[run_shut F21 rfl rfl (by simp)]
 push_cast[Edi.v,Sho.v,hk]at h14
 by_cases c1:edtC e=0
 ·push_cast[Edi.v,Sho.v,hk,h14,c1]
  rw[hM 3 _ (by rw[edC_eq,hk];rfl),edC_eq]
  by_cases c2:c=0
  ·have h18:=fun(st:St)=>f20 (hok c2) (st:=st)
   have e1:appR e s' 0=shoC s':=by rw[appR,if_neg (by simp[c1]),if_neg (by simp)]
   push_cast[Sho.v]at h18
   by_cases c3:shoC s'=0
   ·push_cast[updM,c2,e1,c3,h18]
   ·push_cast[updM,c2,e1,c3,h18,S0,List.map_nil]
  ·have e1:appR e s' c=c:=by rw[appR,if_neg (by simp[c1]),if_pos c2]
   push_cast[updM,c2,e1,S0,List.map_nil]
 ·have e1:appR e s' c=edtC e:=if_pos c1
  push_cast[Edi.v,Sho.v,hk,h14,c1,e1,S0,List.map_nil]
theorem f21_12 {s s':Sho}{e:Edi}{c:Int}(hk:e.kind=12)(hm:e.cue.moves.length<140737488355328)(hp:e.cue.parts.length<140737488355328)
  (hM:∀(id:Nat) (st:St),Sha.look st.mem id=some (edC s e)→run Tryz.prog HH 57 [.ptr id 0] st=some (.ret (.int .i64 c),⟨st.nx,updM st.mem id (edC s' e),st.arr,st.x⟩)) (hok:c=0→s'.ok) {st:St} :
  run Tryz.prog HH 21 [s.v,e.v] st=some (.ret (.tup [(if appR e s' c=0 then s' else S0).v,.int .i64 (appR e s' c)]),st):=by
 have h14:=fun(st:St)=>f44 hm hp (st:=st)
 rw[run_shut F21 rfl rfl (by simp)]
 push_cast[Edi.v,Sho.v,hk]at h14
 by_cases c1:edtC e=0
 ·push_cast[Edi.v,Sho.v,hk,h14,c1]
  rw[hM 3 _ (by rw[edC_eq,hk];rfl),edC_eq]
  by_cases c2:c=0
  ·have h18:=fun(st:St)=>f20 (hok c2) (st:=st)
   have e1:appR e s' 0=shoC s':=by rw[appR,if_neg (by simp[c1]),if_neg (by simp)]
   push_cast[Sho.v]at h18
   by_cases c3:shoC s'=0
   ·push_cast[updM,c2,e1,c3,h18]
   ·push_cast[updM,c2,e1,c3,h18,S0,List.map_nil]
  ·have e1:appR e s' c=c:=by rw[appR,if_neg (by simp[c1]),if_pos c2]
   push_cast[updM,c2,e1,S0,List.map_nil]
 ·have e1:appR e s' c=edtC e:=if_pos c1
  push_cast[Edi.v,Sho.v,hk,h14,c1,e1,S0,List.map_nil]
theorem f21_13 {s s':Sho}{e:Edi}{c:Int}(hk:e.kind=13)(hm:e.cue.moves.length<140737488355328)(hp:e.cue.parts.length<140737488355328)
  (hM:∀(id:Nat) (st:St),Sha.look st.mem id=some (edC s e)→run Tryz.prog HH 58 [.ptr id 0] st=some (.ret (.int .i64 c),⟨st.nx,updM st.mem id (edC s' e),st.arr,st.x⟩)) (hok:c=0→s'.ok) {st:St} :
  run Tryz.prog HH 21 [s.v,e.v] st=some (.ret (.tup [(if appR e s' c=0 then s' else S0).v,.int .i64 (appR e s' c)]),st):=by
 have h14:=fun(st:St)=>f44 hm hp (st:=st)
 rw[run_shut F21 rfl rfl (by simp)]
 push_cast[Edi.v,Sho.v,hk]at h14
 by_cases c1:edtC e=0
 ·push_cast[Edi.v,Sho.v,hk,h14,c1]
  rw[hM 3 _ (by rw[edC_eq,hk];rfl),edC_eq]
  by_cases c2:c=0
  ·have h18:=fun(st:St)=>f20 (hok c2) (st:=st)
   have e1:appR e s' 0=shoC s':=by rw[appR,if_neg (by simp[c1]),if_neg (by simp)]
   push_cast[Sho.v]at h18
   by_cases c3:shoC s'=0
   ·push_cast[updM,c2,e1,c3,h18]
   ·push_cast[updM,c2,e1,c3,h18,S0,List.map_nil]
  ·have e1:appR e s' c=c:=by rw[appR,if_neg (by simp[c1]),if_pos c2]
   push_cast[updM,c2,e1,S0,List.map_nil]
 ·have e1:appR e s' c=edtC e:=if_pos c1
  push_cast[Edi.v,Sho.v,hk,h14,c1,e1,S0,List.map_nil]
end Go.Proofs.YtaneehgfdpadjaaGreatDoor

namespace Go.Proofs.YtaneehgfdpadjaaGreatDoor
open Go.Sha
set_option maxRecDepth 100000
variable {g:List (Nat×Obj)}{n:Nat}{s:Sho}{e:Edi}{id:Nat}{st:St}
def gonE (b:Bool)(c:Int):Int:=if c=0∧b=false then 6 else c
theorem f98 {b:Bool}{c:Int}:run Tryz.prog HH 98 [.bool b,.int .i64 c] st=some (.ret (.int .i64 (gonE b c)),st):=by
 rw[run_shut F98 rfl rfl (by simp)]
 push_cast[gonE]
def palD (l:List Pal)(v:Int):Int:=gonE (if palsCR l=0 then bsF (fun y:Pal=>IntKind.i64.wrap (y.num-v)) l else false) (palsCR l)
theorem f49 (h:Sha.look st.mem id=some (edC s e))(hl:s.pals.length<1000000)(hb:∀q∈s.pals,q.hues.length<140737488355328) :
  run Tryz.prog HH 49 [.ptr id 0] st=some (.ret (.int .i64 (palD s.pals e.num)),⟨st.nx,updM st.mem id (edC { s with pals:=if palsCR s.pals=0 then delT Pal.num e.num s.pals else[] } e),st.arr,st.x⟩):=by
 have h149:=fun(st:St)=>f105 hl hb (v:=e.num) (st:=st)
 have h142:=fun(b:Bool) (c:Int) (st:St)=>f98 (b:=b) (c:=c) (st:=st)
 rw[edC_eq]at h ⊢
 rw[run_open F49 rfl rfl (by simp)]
 push_cast[Pal.v]at h149
 push_cast[h,h149,h142,palD]
theorem f50 (h:Sha.look st.mem id=some (edC s e))(hl:s.grps.length<1000000)(hb:∀q∈s.grps,q.chans.length<140737488355328)(hx:e.grp.chans.length<140737488355328) :
  run Tryz.prog HH 50 [.ptr id 0] st=some (.ret (.int .i64 (grpT s.grps e.grp)),⟨st.nx,updM st.mem id (edC { s with grps:=if grpT s.grps e.grp=0 then insT Grp.num e.grp s.grps else[] } e),st.arr,st.x⟩):=by
 have h150:=fun(st:St)=>f106 hl hb hx (st:=st)
 rw[edC_eq]at h ⊢
 rw[run_open F50 rfl rfl (by simp)]
 push_cast[Grp.v]at h150
 push_cast[h,h150]
def grpD (l:List Grp)(v:Int):Int:=delE (grpsC l) (bsF (grpB v) l)
theorem f51 (h:Sha.look st.mem id=some (edC s e))(hl:s.grps.length<1000000)(hb:∀q∈s.grps,q.chans.length<140737488355328) :
  run Tryz.prog HH 51 [.ptr id 0] st=some (.ret (.int .i64 (grpD s.grps e.num)),⟨st.nx,updM st.mem id (edC { s with grps:=if grpD s.grps e.num=0 then delT Grp.num e.num s.grps else[] } e),st.arr,st.x⟩):=by
 have h151:∀st:St,run Tryz.prog HH 107 [.sl (s.grps.map Grp.v),.int .i64 e.num] st=some (.ret (.tup [.sl ((if grpD s.grps e.num=0 then delT Grp.num e.num s.grps else[]).map Grp.v),.int .i64 (grpD s.grps e.num)]),st):=fun st=>f107 hl hb
 rw[edC_eq]at h ⊢
 rw[run_open F51 rfl rfl (by simp)]
 push_cast[Grp.v]at h151
 push_cast[h,h151]
theorem f52 (h:Sha.look st.mem id=some (edC s e))(hl:s.subs.length<1000000)(hb:∀q∈s.subs,q.gains.length<140737488355328)(hx:e.sub.gains.length<140737488355328) :
  run Tryz.prog HH 52 [.ptr id 0] st=some (.ret (.int .i64 (sbT s.subs e.sub)),⟨st.nx,updM st.mem id (edC { s with subs:=if sbT s.subs e.sub=0 then insT Sb.num e.sub s.subs else[] } e),st.arr,st.x⟩):=by
 have h152:=fun(st:St)=>f108 hl hb hx (st:=st)
 rw[edC_eq]at h ⊢
 rw[run_open F52 rfl rfl (by simp)]
 push_cast[Sb.v]at h152
 push_cast[h,h152]
def sbD (l:List Sb)(v:Int):Int:=delE (subsCR l) (bsF (sbB v) l)
theorem f53 (h:Sha.look st.mem id=some (edC s e))(hv:-9223372036854775808≤e.num∧e.num≤9223372036854775807)(hl:s.subs.length<1000000)(hb:∀q∈s.subs,q.gains.length<140737488355328) :
  run Tryz.prog HH 53 [.ptr id 0] st=some (.ret (.int .i64 (sbD s.subs e.num)),⟨st.nx,updM st.mem id (edC { s with subs:=if sbD s.subs e.num=0 then delT Sb.num e.num s.subs else[] } e),st.arr,st.x⟩):=by
 have h153:∀st:St,run Tryz.prog HH 109 [.sl (s.subs.map Sb.v),.int .i64 e.num] st=some (.ret (.tup [.sl ((if sbD s.subs e.num=0 then delT Sb.num e.num s.subs else[]).map Sb.v),.int .i64 (sbD s.subs e.num)]),st):=fun st=>f109 hv hl hb
 rw[edC_eq]at h ⊢
 rw[run_open F53 rfl rfl (by simp)]
 push_cast[Sb.v]at h153
 push_cast[h,h153]
theorem f58 (h:Sha.look st.mem id=some (edC s e)):run Tryz.prog HH 58 [.ptr id 0] st=some (.ret (.int .i64 0),⟨st.nx,updM st.mem id (edC { s with title:=e.key } e),st.arr,st.x⟩):=by
 rw[edC_eq]at h ⊢
 rw[run_open F58 rfl rfl (by simp)]
 push_cast[h]
end Go.Proofs.YtaneehgfdpadjaaGreatDoor

namespace Go.Proofs.YtaneehgfdpadjaaGreatDoor
open Go.Sha
set_option maxRecDepth 10000
def B4_0:Cd:=(.g [.b 17 .lss 16 15] (.join [1,2,14,15,16] (.i 17 .skip (.exit [1,2] 0)) (.join [1,2,14,15,16] (.block 1 (.g [.r 18 1 14 16,.l 19 18,.m 4 19] (.g [.d 21 11 1,.m 22 4,.s 23 (.build [.i 0,.i 0,.i 0,.i 0,(.str []),(.str []),(.str []),.nils,.nils,(.bool false),(.bool false),.i 0,(.str []),.i 0,.i 0,.nils,.i 0,.nils,.i 0,.i 0,(.bool false),.nils,.i 0,.i 0,.nils,.i 0,.i 0,.i 0,.i 0,.i 0,(.str []),.i 0,.i 0,.i 0,(.str [])] [(0,1,(.i 13)),(4,1,(.t 22))]),.g' 24 10 21 23,.m 20 24,.j 25 0 20,.j 26 1 20,.s 5 (.alloc 64 [.nils,(.str []),.nils,.nils,.nils,.nils,.nils,.nils,.nils,.nils,.nils]),.w 11 5 25,.m 6 26] (.z [5] (.reg [.d 27 11 5,.m 28 2,.m 29 6,.b 30 .add 28 29,.w 11 1 27,.m 2 30]))))) (.reg [.v 31 .add 16 1,.m 16 31]))))
theorem F4:compF Tryz.prog 4=some ⟨73,[.tmp 0],(.g [.k 0 false] (.g [.s 13 (.build [.nils,(.str []),.nils,.nils,.nils,.nils,.nils,.nils,.nils,.nils,.nils] []),.s 1 (.alloc 64 [.nils,(.str []),.nils,.nils,.nils,.nils,.nils,.nils,.nils,.nils,.nils]),.w 11 1 13] (.g [.c 2 0] (.join [1,2] (.g [.s 14 (.bslice 9 1 [(.w [65]),(.w [66])]),.u 15 14,.c 16 0] (.block 0 (.loop [1,2,14,15,16] [] B4_0))) (.g [.d 33 11 1,.f 34 11 33,.m 32 34,.j 35 0 32,.j 36 1 32,.s 7 (.alloc 64 [.nils,(.str []),.nils,.nils,.nils,.nils,.nils,.nils,.nils,.nils,.nils]),.w 11 7 35,.m 8 36] (.z [7] (.g [.d 38 11 7,.f 39 11 38,.m 37 39,.j 40 0 37,.j 41 1 37,.s 9 (.alloc 64 [.nils,(.str []),.nils,.nils,.nils,.nils,.nils,.nils,.nils,.nils,.nils]),.w 11 9 40,.m 10 41] (.z [9] (.g [.d 43 11 9,.f 44 12 43,.m 42 44,.j 45 0 42,.j 46 1 42,.s 11 (.alloc 64 [.nils,(.str []),.nils,.nils,.nils,.nils,.nils,.nils,.nils,.nils,.nils]),.w 11 11 45,.m 12 46] (.z [11] (.join [0] (.reg [.m 47 2,.m 48 8,.b 49 .add 47 48,.m 50 10,.b 51 .add 49 50,.m 52 12,.b 53 .add 51 52,.v 54 .eql 53 0,.m 55 54,.ay 56 1 1 55,.ay 57 0 56 55,.ly 58 57 55,.y 59 (.bin .eql (.t 58) (.w [66])) 55,.e 60 55 59,.m 61 60,.ay 62 1 9 61,.ay 63 0 62 61,.ly 64 63 61,.y 65 (.bin .eql (.t 64) (.w [])) 61,.e 66 61 65,.m 67 66,.ay 68 1 11 67,.ay 69 0 68 67,.ly 70 69 67,.y 71 (.bin .eql (.t 70) (.w [65])) 67,.e 72 67 71,.m 0 72]) (.ret [0]))))))))))))⟩:=by kernel_rfl
theorem F5:compF Tryz.prog 5=some ⟨10,[.tmp 2],(.g [.q 1 31 0,.k 2 false] (.z [1] (.join [2] (.reg [.d 3 9 1,.f 4 13 3,.m 5 4,.y 6 (.load (some 9) (.t 1)) 5,.y 7 (.f 14 [.t 6]) 5,.vy 8 .eql 7 0 5,.e 9 5 8,.m 2 9]) (.ret [2]))))⟩:=by kernel_rfl
end Go.Proofs.YtaneehgfdpadjaaGreatDoor

namespace Go.Proofs.YtaneehgfdpadjaaGreatDoor
open Go.Sha
set_option maxRecDepth 100000
variable {g:List (Nat×Obj)}{n:Nat}
end Go.Proofs.YtaneehgfdpadjaaGreatDoor

namespace Go.Proofs.YtaneehgfdpadjaaGreatDoor
open Go.Sha
set_option maxRecDepth 10000
def B13_0:Cd:=(.join [1,3] (.g [.m 53 3,.a 54 2 1,.l 55 54,.u 56 55,.b 57 .lss 53 56] (.i 57 .skip (.exit [1] 0))) (.join [1,3] (.block 1 (.g [.a 60 2 1,.l 61 60,.m 62 3,.r 63 4 61 62,.d 64 4 63,.f 65 34 64,.z 66 65] (.i 66 (.g [.k 2 false] (.ret [2])) .skip))) (.reg [.m 58 3,.v 59 .add 58 1,.m 3 59])))
def B13_1:Cd:=(.join [1,4] (.join [1,4,75] (.reg [.m 67 4,.a 68 6 1,.l 69 68,.u 70 69,.b 71 .lss 67 70,.m 72 71,.my 73 4 72,.vy 74 .lss 73 10 72,.e 75 72 74]) (.i 75 .skip (.exit [1] 2))) (.join [1,4] (.block 3 (.g [.a 78 6 1,.l 79 78,.m 80 4,.r 81 3 79 80,.d 82 3 81,.f 83 35 82,.z 84 83] (.i 84 (.g [.k 2 false] (.ret [2])) .skip))) (.reg [.m 76 4,.v 77 .add 76 1,.m 4 77])))
theorem F13:compF Tryz.prog 13=some ⟨101,[.tmp 2],(.g [.q 1 31 0,.k 2 false] (.z [1] (.join [1] (.join [1,52] (.reg [.a 5 0 1,.l 6 5,.s 7 (.lens (.t 6)),.v 8 .gtr 7 100,.m 9 8,.ax 10 1 1 9,.lx 11 10 9,.x 12 (.f 32 [.t 11]) 9,.x 13 (.un .not (.t 12)) 9,.o 14 9 13,.m 15 14,.ax 16 2 1 15,.lx 17 16 15,.x 18 (.len (.t 17)) 15,.vx 19 .gtr 18 40 15,.o 20 15 19,.m 21 20,.ax 22 3 1 21,.lx 23 22 21,.ax 24 2 1 21,.lx 25 24 21,.x 26 (.f 33 [.t 23,.t 25]) 21,.x 27 (.un .not (.t 26)) 21,.o 28 21 27,.m 29 28,.ax 30 4 1 29,.lx 31 30 29,.x 32 (.f 17 [.t 31]) 29,.x 33 (.un .not (.t 32)) 29,.o 34 29 33,.m 35 34,.ax 36 5 1 35,.lx 37 36 35,.x 38 (.f 16 [.t 37]) 35,.x 39 (.un .not (.t 38)) 35,.o 40 35 39,.m 41 40,.ax 42 7 1 41,.lx 43 42 41,.x 44 (.f 18 [.t 43]) 41,.x 45 (.un .not (.t 44)) 41,.o 46 41 45,.m 47 46,.ax 48 8 1 47,.lx 49 48 47,.x 50 (.f 19 [.t 49,(.c .nils)]) 47,.x 51 (.un .not (.t 50)) 47,.o 52 47 51]) (.i 52 (.g [.k 2 false] (.ret [2])) .skip)) (.join [1] (.g [.c 3 0] (.block 0 (.loop [1,3] [] B13_0))) (.join [1] (.g [.c 4 0] (.block 2 (.loop [1,4] [] B13_1))) (.join [2] (.reg [.a 85 6 1,.l 86 85,.u 87 86,.v 88 .leq 87 3,.m 89 88,.ax 90 6 1 89,.lx 91 90 89,.x 92 (.len (.t 91)) 89,.vx 93 .gtr 92 8 89,.mx 94 93 89,.ay 95 6 1 94,.ly 96 95 94,.y 97 (.len (.t 96)) 94,.vy 98 .leq 97 20 94,.x 99 (.pick (.t 94) (.t 98) (.c (.bool false))) 89,.o 100 89 99,.m 2 100]) (.ret [2])))))))⟩:=by kernel_rfl
def B33_0:Cd:=(.join [1,5] (.join [1,5,31] (.reg [.m 24 5,.m 25 1,.u 26 25,.b 27 .lss 24 26,.m 28 27,.my 29 5 28,.vy 30 .lss 29 6 28,.e 31 28 30]) (.i 31 .skip (.exit [] 0))) (.join [1,5] (.block 1 (.g [.m 34 1,.m 35 5,.r 36 4 34 35,.a 37 3 36,.l 38 37,.u 39 38,.v 40 .gtr 39 16] (.i 40 (.g [.k 4 false] (.ret [4])) .skip))) (.reg [.m 32 5,.v 33 .add 32 1,.m 5 33])))
theorem F33:compF Tryz.prog 33=some ⟨41,[.tmp 4],(.g [.k 4 false] (.join [1] (.join [1,23] (.reg [.m 6 0,.u 7 6,.v 8 .gtr 7 12,.m 9 8,.my 10 0 9,.y 11 (.len (.t 10)) 9,.vy 12 .leq 11 64 9,.e 13 9 12,.m 14 13,.mx 15 1 14,.x 16 (.len (.t 15)) 14,.vx 17 .gtr 16 6 14,.mx 18 17 14,.my 19 1 18,.y 20 (.len (.t 19)) 18,.vy 21 .leq 20 32 18,.x 22 (.pick (.t 18) (.t 21) (.c (.bool false))) 14,.o 23 14 22]) (.i 23 (.g [.k 4 false] (.ret [4])) .skip)) (.join [] (.g [.c 5 0] (.block 0 (.loop [1,5] [] B33_0))) (.g [.k 4 true] (.ret [4])))))⟩:=by kernel_rfl
def B17_0:Cd:=(.join [0,3] (.join [0,3,11] (.reg [.m 4 3,.m 5 0,.u 6 5,.b 7 .lss 4 6,.m 8 7,.my 9 3 8,.vy 10 .lss 9 60 8,.e 11 8 10]) (.i 11 .skip (.exit [0] 0))) (.join [0,3] (.block 1 (.join [0,3,29] (.reg [.m 14 0,.m 15 3,.r 16 2 14 15,.a 17 1 16,.l 18 17,.u 19 18,.v 20 .gtr 19 40,.m 21 20,.my 22 0 21,.my 23 3 21,.ry 24 2 22 23 21,.ay 25 1 24 21,.ly 26 25 21,.y 27 (.len (.t 26)) 21,.vy 28 .leq 27 256 21,.e 29 21 28]) (.i 29 (.g [.k 2 false] (.ret [2])) .skip))) (.reg [.m 12 3,.v 13 .add 12 1,.m 3 13])))
theorem F17:compF Tryz.prog 17=some ⟨33,[.tmp 2],(.g [.k 2 false] (.join [0] (.g [.c 3 0] (.block 0 (.loop [0,3] [] B17_0))) (.g [.m 30 0,.u 31 30,.v 32 .leq 31 60,.m 2 32] (.ret [2]))))⟩:=by kernel_rfl
def B16_0:Cd:=(.join [0,3] (.g [.m 7 3,.m 8 0,.u 9 8,.b 10 .lss 7 9] (.i 10 .skip (.exit [] 0))) (.join [0,3] (.block 1 (.g [.m 13 0,.m 14 3,.r 15 2 13 14,.a 16 1 15,.l 17 16,.u 18 17,.v 19 .gtr 18 512] (.i 19 (.g [.k 2 false] (.ret [2])) .skip))) (.reg [.m 11 3,.v 12 .add 11 1,.m 3 12])))
theorem F16:compF Tryz.prog 16=some ⟨20,[.tmp 2],(.g [.k 2 false] (.join [0] (.g [.m 4 0,.u 5 4,.v 6 .gtr 5 64] (.i 6 (.g [.k 2 false] (.ret [2])) .skip)) (.join [] (.g [.c 3 0] (.block 0 (.loop [0,3] [] B16_0))) (.g [.k 2 true] (.ret [2])))))⟩:=by kernel_rfl
def B18_0:Cd:=(.join [0,3] (.join [0,3,11] (.reg [.m 4 3,.m 5 0,.u 6 5,.b 7 .lss 4 6,.m 8 7,.my 9 3 8,.vy 10 .lss 9 40 8,.e 11 8 10]) (.i 11 .skip (.exit [0] 0))) (.join [0,3] (.block 1 (.join [0,3,29] (.reg [.m 14 0,.m 15 3,.r 16 4 14 15,.a 17 3 16,.l 18 17,.u 19 18,.v 20 .gtr 19 30,.m 21 20,.my 22 0 21,.my 23 3 21,.ry 24 4 22 23 21,.ay 25 3 24 21,.ly 26 25 21,.y 27 (.len (.t 26)) 21,.vy 28 .leq 27 128 21,.e 29 21 28]) (.i 29 (.g [.k 2 false] (.ret [2])) .skip))) (.reg [.m 12 3,.v 13 .add 12 1,.m 3 13])))
theorem F18:compF Tryz.prog 18=some ⟨33,[.tmp 2],(.g [.k 2 false] (.join [0] (.g [.c 3 0] (.block 0 (.loop [0,3] [] B18_0))) (.g [.m 30 0,.u 31 30,.v 32 .leq 31 40,.m 2 32] (.ret [2]))))⟩:=by kernel_rfl
def B19_0:Cd:=(.join [1,5] (.join [1,5,31] (.reg [.m 24 5,.m 25 1,.u 26 25,.b 27 .lss 24 26,.m 28 27,.my 29 5 28,.vy 30 .lss 29 4 28,.e 31 28 30]) (.i 31 .skip (.exit [] 0))) (.join [1,5] (.block 1 (.join [1,5,49] (.reg [.m 34 1,.m 35 5,.r 36 6 34 35,.a 37 1 36,.l 38 37,.u 39 38,.v 40 .gtr 39 8,.m 41 40,.my 42 1 41,.my 43 5 41,.ry 44 6 42 43 41,.ay 45 1 44 41,.ly 46 45 41,.y 47 (.len (.t 46)) 41,.vy 48 .leq 47 256 41,.e 49 41 48]) (.i 49 (.g [.k 4 false] (.ret [4])) .skip))) (.reg [.m 32 5,.v 33 .add 32 1,.m 5 33])))
theorem F19:compF Tryz.prog 19=some ⟨50,[.tmp 4],(.g [.k 4 false] (.join [1] (.join [1,23] (.reg [.m 6 0,.u 7 6,.v 8 .gtr 7 4,.m 9 8,.my 10 0 9,.y 11 (.len (.t 10)) 9,.vy 12 .leq 11 16 9,.e 13 9 12,.m 14 13,.mx 15 1 14,.x 16 (.len (.t 15)) 14,.vx 17 .gtr 16 4 14,.mx 18 17 14,.my 19 1 18,.y 20 (.len (.t 19)) 18,.vy 21 .leq 20 16 18,.x 22 (.pick (.t 18) (.t 21) (.c (.bool false))) 14,.o 23 14 22]) (.i 23 (.g [.k 4 false] (.ret [4])) .skip)) (.join [] (.g [.c 5 0] (.block 0 (.loop [1,5] [] B19_0))) (.g [.k 4 true] (.ret [4])))))⟩:=by kernel_rfl
def B34_0:Cd:=(.join [1,3] (.join [1,3,12] (.reg [.m 4 3,.a 5 3 1,.l 6 5,.u 7 6,.b 8 .lss 4 7,.m 9 8,.my 10 3 9,.vy 11 .lss 10 40 9,.e 12 9 11]) (.i 12 .skip (.exit [1] 0))) (.join [1,3] (.block 1 (.g [.a 15 3 1,.l 16 15,.m 17 3,.r 18 10 16 17,.a 19 9 18,.l 20 19,.u 21 20,.v 22 .gtr 21 40] (.i 22 (.g [.k 2 false] (.ret [2])) .skip))) (.reg [.m 13 3,.v 14 .add 13 1,.m 3 14])))
theorem F34:compF Tryz.prog 34=some ⟨33,[.tmp 2],(.g [.q 1 93 0,.k 2 false] (.z [1] (.join [1] (.g [.c 3 0] (.block 0 (.loop [1,3] [] B34_0))) (.join [2] (.reg [.a 23 3 1,.l 24 23,.u 25 24,.v 26 .leq 25 40,.m 27 26,.ay 28 0 1 27,.ly 29 28 27,.y 30 (.lens (.t 29)) 27,.vy 31 .leq 30 100 27,.e 32 27 31,.m 2 32]) (.ret [2])))))⟩:=by kernel_rfl
def B35_0:Cd:=(.join [1,3,4] (.g [.m 15 4,.a 16 2 1,.l 17 16,.u 18 17,.b 19 .lss 15 18] (.i 19 .skip (.exit [] 0))) (.join [1,3,4] (.block 1 (.g [.m 22 3,.a 23 2 1,.l 24 23,.m 25 4,.r 26 9 24 25,.a 27 2 26,.l 28 27,.u 29 28,.b 30 .add 22 29,.m 3 30] (.join [1,3,4,42] (.reg [.a 31 2 1,.l 32 31,.m 33 4,.r 34 9 32 33,.a 35 2 34,.l 36 35,.u 37 36,.v 38 .gtr 37 20,.m 39 38,.mx 40 3 39,.vx 41 .gtr 40 30 39,.o 42 39 41]) (.i 42 (.g [.d 43 3 1,.f 44 68 43,.v 45 .neq 44 0,.m 2 45] (.ret [2])) .skip)))) (.reg [.m 20 4,.v 21 .add 20 1,.m 4 21])))
theorem F35:compF Tryz.prog 35=some ⟨46,[.tmp 2],(.g [.q 1 97 0,.k 2 false] (.z [1] (.join [1] (.g [.d 5 3 1,.f 6 67 5,.z 7 6] (.i 7 (.g [.k 2 false] (.ret [2])) .skip)) (.join [1] (.g [.a 8 2 1,.l 9 8,.u 10 9,.v 11 .gtr 10 10] (.i 11 (.g [.d 12 3 1,.f 13 68 12,.v 14 .neq 13 0,.m 2 14] (.ret [2])) .skip)) (.g [.c 3 0] (.join [] (.g [.c 4 0] (.block 0 (.loop [1,3,4] [] B35_0))) (.g [.k 2 true] (.ret [2]))))))))⟩:=by kernel_rfl
def B67_0:Cd:=(.join [1,3] (.g [.m 8 3,.a 9 2 1,.l 10 9,.u 11 10,.b 12 .lss 8 11] (.i 12 .skip (.exit [] 0))) (.join [1,3] (.block 1 (.g [.a 15 2 1,.l 16 15,.m 17 3,.r 18 9 16 17,.d 19 9 18,.f 20 15 19,.z 21 20] (.i 21 (.g [.k 2 false] (.ret [2])) .skip))) (.reg [.m 13 3,.v 14 .add 13 1,.m 3 14])))
theorem F67:compF Tryz.prog 67=some ⟨22,[.tmp 2],(.g [.q 1 97 0,.k 2 false] (.z [1] (.join [1] (.g [.a 4 2 1,.l 5 4,.u 6 5,.v 7 .gtr 6 128] (.i 7 (.g [.k 2 false] (.ret [2])) .skip)) (.join [] (.g [.c 3 0] (.block 0 (.loop [1,3] [] B67_0))) (.g [.k 2 true] (.ret [2]))))))⟩:=by kernel_rfl
theorem F15:compF Tryz.prog 15=some ⟨30,[.tmp 2],(.g [.q 1 35 0,.k 2 false] (.z [1] (.join [2] (.reg [.a 3 0 1,.l 4 3,.s 5 (.lens (.t 4)),.v 6 .leq 5 40,.m 7 6,.ay 8 1 1 7,.ly 9 8 7,.y 10 (.lens (.t 9)) 7,.vy 11 .leq 10 100 7,.e 12 7 11,.m 13 12,.ay 14 7 1 13,.ly 15 14 13,.y 16 (.lens (.t 15)) 13,.vy 17 .leq 16 40 13,.e 18 13 17,.m 19 18,.ay 20 3 1 19,.ly 21 20 19,.y 22 (.len (.t 21)) 19,.vy 23 .leq 22 10 19,.e 24 19 23,.m 25 24,.ay 26 2 1 25,.ly 27 26 25,.y 28 (.f 42 [.t 27]) 25,.e 29 25 28,.m 2 29]) (.ret [2]))))⟩:=by kernel_rfl
theorem F42:compF Tryz.prog 42=some ⟨6,[.tmp 2],(.g [.k 2 false] (.g [.m 3 0,.u 4 3,.v 5 .leq 4 300,.m 2 5] (.ret [2])))⟩:=by kernel_rfl
end Go.Proofs.YtaneehgfdpadjaaGreatDoor

namespace Go.Proofs.YtaneehgfdpadjaaGreatDoor
open Go.Sha
set_option maxRecDepth 100000
variable {g:List (Nat×Obj)}{n:Nat}
def anyN {α:Type}(m:Int)(p:α→Prop)[DecidablePred p]:List α→Nat→Bool
 |[],_=>false
 |q::r,j=>if(j:Int)<m then if p q then true else anyN m p r (j+1) else false
theorem L32 {l:List (List Pt)}(hl:l.length<140737488355328):∀r j,l.drop j=r→runL Tryz.prog HH [0,3] n B32_0 [(0,.sl (l.map Pt.vs)),(3,.int .i64 j)] (stN g n)=lpB (stN g n) [(0,.sl (l.map Pt.vs))] 2 (anyN 40 (fun q:List Pt=>40<(q.length:Int)) r j) false:=by
 refine drop_ind (fun j h=>?_) (fun q r j h hx hd ih=>?_)
 all_goals rw[runL_of B32_0.eq_1]
 ·have h1:¬(j:Int)<l.length:=by omega
  push_cast[h1,anyN]
 ·have h1:(j:Int)<l.length:=by omega
  have hw:=iw1 (j:=j) (by omega)
  push_cast[h1,hw,hx,f66]at ih ⊢
  simp only[ih,anyN,lps,Int.reduceEq,not_false_eq_true]
  all_goals ((repeat' split)<;>simp_all)
theorem f32 {l:List (List Pt)}(hl:l.length<140737488355328):∃b,∀st,run Tryz.prog HH 32 [.sl (l.map Pt.vs)] st=some (.ret (.bool b),st):=by
 refine⟨if anyN 40 (fun q:List Pt=>40<(q.length:Int)) l 0=true then false else decide ((l.length:Int)≤40),fun st=>?_⟩
 rw[run_shut F32 rfl rfl (by simp)]
 have hL0:=fun n=>L32 (g:=st.x.gl) (n:=n) hl _ 0 rfl
 push_cast at hL0
 push_cast[hL0,lpE,lpX,lpI,lpB]
theorem L33 {l:List Prof}(hl:l.length<140737488355328):∀r j,l.drop j=r→runL Tryz.prog HH [1,5] n B33_0 [(1,.sl (l.map Prof.v)),(5,.int .i64 j)] (stN g n)=lpB (stN g n) [] 4 (anyN 6 (fun q:Prof=>16<(q.feats.length:Int)) r j) false:=by
 refine drop_ind (fun j h=>?_) (fun q r j h hx hd ih=>?_)
 all_goals rw[runL_of B33_0.eq_1]
 ·have h1:¬(j:Int)<l.length:=by omega
  push_cast[h1,anyN,Prof.v]
 ·have h1:(j:Int)<l.length:=by omega
  have hw:=iw1 (j:=j) (by omega)
  push_cast[h1,hw,hx,Prof.v]at ih ⊢
  simp only[ih,anyN,lps,Int.reduceEq,not_false_eq_true]
theorem f33 {l:List Fixt}{ps:List Prof}(hl:ps.length<140737488355328):∃b,∀st,run Tryz.prog HH 33 [.sl (l.map Fixt.v),.sl (ps.map Prof.v)] st=some (.ret (.bool b),st):=by
 apply Exists.intro
 intro st
 have hL0:=fun n=>L33 (g:=st.x.gl) (n:=n) hl _ 0 rfl
 rw[run_shut F33 rfl rfl (by simp)]
 push_cast at hL0
 push_cast[hL0,lpB]
 exact rfl
theorem L17 {l:List Grp}(hl:l.length<140737488355328):∀r j,l.drop j=r→runL Tryz.prog HH [0,3] n B17_0 [(0,.sl (l.map Grp.v)),(3,.int .i64 j)] (stN g n)=lpB (stN g n) [(0,.sl (l.map Grp.v))] 2 (anyN 60 (fun q:Grp=>40<(q.chans.length:Int)∧(q.chans.length:Int)≤256) r j) false:=by
 refine drop_ind (fun j h=>?_) (fun q r j h hx hd ih=>?_)
 all_goals rw[runL_of B17_0.eq_1]
 ·have h1:¬(j:Int)<l.length:=by omega
  push_cast[h1,anyN,Grp.v]
 ·have h1:(j:Int)<l.length:=by omega
  have hw:=iw1 (j:=j) (by omega)
  push_cast[h1,hw,hx,Grp.v]at ih ⊢
  simp only[ih,anyN,lps,Int.reduceEq,not_false_eq_true]
theorem f17 {l:List Grp}(hl:l.length<140737488355328):∃b,∀st,run Tryz.prog HH 17 [.sl (l.map Grp.v)] st=some (.ret (.bool b),st):=by
 refine⟨if anyN 60 (fun q:Grp=>40<(q.chans.length:Int)∧(q.chans.length:Int)≤256) l 0=true then false else decide ((l.length:Int)≤60),fun st=>?_⟩
 rw[run_shut F17 rfl rfl (by simp)]
 have hL0:=fun n=>L17 (g:=st.x.gl) (n:=n) hl _ 0 rfl
 push_cast at hL0
 push_cast[hL0,lpE,lpX,lpI,lpB]
def anyP {α:Type}(p:α→Prop)[DecidablePred p]:List α→Bool
 |[]=>false
 |q::r=>if p q then true else anyP p r
theorem L16 {l:List Pal}(hl:l.length<140737488355328):∀r j,l.drop j=r→runL Tryz.prog HH [0,3] n B16_0 [(0,.sl (l.map Pal.v)),(3,.int .i64 j)] (stN g n)=lpB (stN g n) [] 2 (anyP (fun q:Pal=>512<(q.hues.length:Int)) r) false:=by
 refine drop_ind (fun j h=>?_) (fun q r j h hx hd ih=>?_)
 all_goals rw[runL_of B16_0.eq_1]
 ·have h1:¬(j:Int)<l.length:=by omega
  push_cast[h1,anyP,Pal.v]
 ·have h1:(j:Int)<l.length:=by omega
  have hw:=iw1 (j:=j) (by omega)
  push_cast[h1,hw,hx,Pal.v]at ih ⊢
  simp only[ih,anyP,lps,Int.reduceEq,not_false_eq_true]
theorem f16 {l:List Pal}(hl:l.length<140737488355328):∃b,∀st,run Tryz.prog HH 16 [.sl (l.map Pal.v)] st=some (.ret (.bool b),st):=by
 refine⟨if 64<(l.length:Int) then false else if anyP (fun q:Pal=>512<(q.hues.length:Int)) l=true then false else true,fun st=>?_⟩
 rw[run_shut F16 rfl rfl (by simp)]
 have hL0:=fun n=>L16 (g:=st.x.gl) (n:=n) hl _ 0 rfl
 push_cast at hL0
 push_cast[hL0,lpE,lpX,lpI,lpB]
theorem L18 {l:List Sb}(hl:l.length<140737488355328):∀r j,l.drop j=r→runL Tryz.prog HH [0,3] n B18_0 [(0,.sl (l.map Sb.v)),(3,.int .i64 j)] (stN g n)=lpB (stN g n) [(0,.sl (l.map Sb.v))] 2 (anyN 40 (fun q:Sb=>30<(q.gains.length:Int)∧(q.gains.length:Int)≤128) r j) false:=by
 refine drop_ind (fun j h=>?_) (fun q r j h hx hd ih=>?_)
 all_goals rw[runL_of B18_0.eq_1]
 ·have h1:¬(j:Int)<l.length:=by omega
  push_cast[h1,anyN,Sb.v]
 ·have h1:(j:Int)<l.length:=by omega
  have hw:=iw1 (j:=j) (by omega)
  push_cast[h1,hw,hx,Sb.v]at ih ⊢
  simp only[ih,anyN,lps,Int.reduceEq,not_false_eq_true]
theorem f18 {l:List Sb}(hl:l.length<140737488355328):∃b,∀st,run Tryz.prog HH 18 [.sl (l.map Sb.v)] st=some (.ret (.bool b),st):=by
 refine⟨if anyN 40 (fun q:Sb=>30<(q.gains.length:Int)∧(q.gains.length:Int)≤128) l 0=true then false else decide ((l.length:Int)≤40),fun st=>?_⟩
 rw[run_shut F18 rfl rfl (by simp)]
 have hL0:=fun n=>L18 (g:=st.x.gl) (n:=n) hl _ 0 rfl
 push_cast at hL0
 push_cast[hL0,lpE,lpX,lpI,lpB]
theorem f19 {l:List Eff}:∃b,∀st,run Tryz.prog HH 19 [.sl (l.map Eff.v),.sl []] st=some (.ret (.bool b),st):=by
 refine⟨if 4<(l.length:Int)∧(l.length:Int)≤16 then false else true,fun st=>?_⟩
 rw[run_shut F19 rfl rfl (by simp)]
 push_cast[runL_of B19_0.eq_1]
theorem L34 {x:Prof}(hl:x.feats.length<140737488355328):∀r j,x.feats.drop j=r→runL Tryz.prog HH [1,3] n B34_0 [(1,.ep x.v 0),(3,.int .i64 j)] (stN g n)=lpB (stN g n) [(1,.ep x.v 0)] 2 (anyN 40 (fun q:Ftr=>40<(q.wheel.length:Int)) r j) false:=by
 refine drop_ind (fun j h=>?_) (fun q r j h hx hd ih=>?_)
 all_goals rw[runL_of B34_0.eq_1]
 ·have h1:¬(j:Int)<x.feats.length:=by omega
  push_cast[h1,anyN,Prof.v,Ftr.v]
 ·have h1:(j:Int)<x.feats.length:=by omega
  have hw:=iw1 (j:=j) (by omega)
  push_cast[h1,hw,hx,Prof.v,Ftr.v]at ih ⊢
  simp only[ih,anyN,lps,Int.reduceEq,not_false_eq_true]
def few51 (x:Prof):Bool:=if anyN 40 (fun q:Ftr=>40<(q.wheel.length:Int)) x.feats 0=true then false else(decide ((x.feats.length:Int)≤40)&&decide ((x.name.length:Int)≤100))
theorem f34 {x:Prof}(hl:x.feats.length<140737488355328){st:St}:run Tryz.prog HH 34 [x.v] st=some (.ret (.bool (few51 x)),st):=by
 rw[run_shut F34 rfl rfl (by simp)]
 have hL0:=fun n=>L34 (g:=st.x.gl) (n:=n) hl _ 0 rfl
 push_cast[Prof.v,few51]at hL0
 push_cast[Prof.v,few51,hL0,lpE,lpX,lpI,lpB]
def few129 (x:Cu):Bool:=decide ((x.num.length:Int)≤40)&&(decide ((x.label.length:Int)≤100)&&(decide ((x.link.length:Int)≤40)&&(decide ((x.parts.length:Int)≤10)&&decide ((x.moves.length:Int)≤300))))
theorem f15 {x:Cu}{st:St}:run Tryz.prog HH 15 [x.v] st=some (.ret (.bool (few129 x)),st):=by
 rw[run_shut F15 rfl rfl (by simp)]
 push_cast[Cu.v,(fun(a0:V) (st:St) (h:V.bdL 0 [a0]=true)=>run_shut (P:=Tryz.prog) (H:=HH) (args:=[a0]) (st:=st) F42 rfl rfl h),few129]
theorem L67 {x:Lst}(hl:x.cues.length<140737488355328):∀r j,x.cues.drop j=r→runL Tryz.prog HH [1,3] n B67_0 [(1,.ep x.v 0),(3,.int .i64 j)] (stN g n)=lpB (stN g n) [] 2 (anyP (fun q:Cu=>few129 q=false) r) false:=by
 refine drop_ind (fun j h=>?_) (fun q r j h hx hd ih=>?_)
 all_goals rw[runL_of B67_0.eq_1]
 ·have h1:¬(j:Int)<x.cues.length:=by omega
  push_cast[h1,anyP,Lst.v,Cu.v]
 ·have h1:(j:Int)<x.cues.length:=by omega
  have hw:=iw1 (j:=j) (by omega)
  push_cast[h1,hw,hx,Lst.v,Cu.v,f15]at ih ⊢
  simp only[ih,anyP,lps,Int.reduceEq,not_false_eq_true]
theorem f67 {x:Lst}(hl:x.cues.length<140737488355328):∃b,∀st,run Tryz.prog HH 67 [x.v] st=some (.ret (.bool b),st):=by
 refine⟨if 128<(x.cues.length:Int) then false else if anyP (fun q:Cu=>few129 q=false) x.cues=true then false else true,fun st=>?_⟩
 rw[run_shut F67 rfl rfl (by simp)]
 have hL0:=fun n=>L67 (g:=st.x.gl) (n:=n) hl _ 0 rfl
 push_cast[Lst.v]at hL0
 push_cast[Lst.v,hL0,lpE,lpX,lpI,lpB]
def add52:List Cu→Int→Option Int
 |[],_=>none
 |q::r,m=>if 20<(q.moves.length:Int)∨30<IntKind.i64.wrap (m+q.moves.length) then some 1 else add52 r (IntKind.i64.wrap (m+q.moves.length))
theorem L35 {x:Lst}(hx0:x.ok):∀r j,x.cues.drop j=r→∀m,runL Tryz.prog HH [1,3,4] n B35_0 [(1,.ep x.v 0),(3,.int .i64 m),(4,.int .i64 j)] (stN g n)=(match add52 r m with|none=>some (.exit 0,[],stN g n)|some _=>some (.ret,[(2,.bool (lstR x != 0))],stN g n)):=by
 have hl:=hx0.a
 have h91:=fun(st:St)=>f68 (st:=st) hx0
 refine drop_ind (fun j h m=>?_) (fun q r j h hx hd ih m=>?_)
 all_goals rw[runL_of B35_0.eq_1]
 ·have h1:¬(j:Int)<x.cues.length:=by omega
  push_cast[h1,add52,Lst.v]
 ·have h1:(j:Int)<x.cues.length:=by omega
  have hw:=iw1 (j:=j) (by omega)
  push_cast[Lst.v]at h91
  push_cast[h1,hw,hx,Lst.v,Cu.v,h91]at ih ⊢
  simp only[ih,add52]
  split<;>rfl
theorem f35 {x:Lst}(h:x.ok):∃b,∀st,run Tryz.prog HH 35 [x.v] st=some (.ret (.bool b),st):=by
 obtain⟨b,hb⟩:=f67 h.a
 have h91:=fun(st:St)=>f68 (st:=st) h
 have h0:=fun g n=>L35 (g:=g) (n:=n) h x.cues 0 rfl 0
 cases h2:add52 x.cues 0 with
 |none =>
  rw[h2]at h0
  push_cast[Lst.v]at h0 hb h91
  refine⟨if b=false then false else if 10<(x.cues.length:Int) then lstR x != 0 else true,fun st=>?_⟩
  rw[run_shut F35 rfl rfl (by simp)]
  push_cast[Lst.v,hb,h91,h0]
 |some k =>
  rw[h2]at h0
  push_cast[Lst.v]at h0 hb h91
  refine⟨if b=false then false else lstR x != 0,fun st=>?_⟩
  rw[run_shut F35 rfl rfl (by simp)]
  push_cast[Lst.v,hb,h91,h0]
open Classical in
noncomputable def few52 (x:Lst):Bool:=if h:x.ok then(f35 h).choose else false
theorem f35' {x:Lst}(h:x.ok){st:St}:run Tryz.prog HH 35 [x.v] st=some (.ret (.bool (few52 x)),st):=by
 unfold few52;rw[dif_pos h];exact(f35 h).choose_spec st
theorem L13_0 {x:Sho}(hx0:x.ok):∀r j,x.profs.drop j=r→runL Tryz.prog HH [1,3] n B13_0 [(1,.ep x.v 0),(3,.int .i64 j)] (stN g n)=lpB (stN g n) [(1,.ep x.v 0)] 2 (anyP (fun q=>few51 q=false) r) false:=by
 have hl:=hx0.p.1
 refine drop_ind (fun j h=>?_) (fun q r j h hx hd ih=>?_)
 all_goals rw[runL_of B13_0.eq_1]
 ·have h1:¬(j:Int)<x.profs.length:=by omega
  push_cast[h1,anyP,Sho.v,Prof.v]
 ·have h1:(j:Int)<x.profs.length:=by omega
  have hw:=iw1 (j:=j) (by omega)
  have hq:q.feats.length<140737488355328:=(hx0.p.2.1 q (mem_at hd)).a
  push_cast[h1,hw,hx,Sho.v,Prof.v,f34 hq]at ih ⊢
  simp only[ih,anyP,lps,Int.reduceEq,not_false_eq_true]
theorem L13_1 {x:Sho}(hx0:x.ok):∀r j,x.lsts.drop j=r→runL Tryz.prog HH [1,4] n B13_1 [(1,.ep x.v 0),(4,.int .i64 j)] (stN g n)=if anyN 10 (fun q=>few52 q=false) r j=true then some (.ret,[(2,.bool false)],stN g n) else some (.exit 2,[(1,.ep x.v 0)],stN g n):=by
 have hl:=hx0.k.1
 refine drop_ind (fun j h=>?_) (fun q r j h hx hd ih=>?_)
 all_goals rw[runL_of B13_1.eq_1]
 ·have h1:¬(j:Int)<x.lsts.length:=by omega
  push_cast[h1,anyN,Sho.v,Lst.v]
 ·have h1:(j:Int)<x.lsts.length:=by omega
  have hw:=iw1 (j:=j) (by omega)
  have hq:q.ok:=hx0.k.2 q (mem_at hd)
  push_cast[h1,hw,hx,Sho.v,Lst.v,f35' hq]at ih ⊢
  simp only[ih,anyN,lps,Int.reduceEq,not_false_eq_true]
  all_goals ((repeat' split)<;>simp_all)
theorem f13 {x:Sho}(h:x.ok):∃b,∀st,run Tryz.prog HH 13 [x.v] st=some (.ret (.bool b),st):=by
 obtain⟨b1,h1⟩:=f32 h.c.1
 obtain⟨b2,h2⟩:=f33 (l:=x.fixts) h.p.1
 obtain⟨b3,h3⟩:=f17 h.g.1
 obtain⟨b4,h4⟩:=f16 h.l.1
 obtain⟨b5,h5⟩:=f18 h.s.1
 obtain⟨b6,h6⟩:=f19 (l:=x.effs)
 have k0:=fun g n=>L13_0 (g:=g) (n:=n) h x.profs 0 rfl
 have k1:=fun g n=>L13_1 (g:=g) (n:=n) h x.lsts 0 rfl
 push_cast[Sho.v]at k0 k1
 apply Exists.intro
 intro st
 rw[run_shut F13 rfl rfl (by simp)]
 push_cast[Sho.v,h1,h2,h3,h4,h5,h6,k0,k1,lpB]
 exact rfl
end Go.Proofs.YtaneehgfdpadjaaGreatDoor

namespace Go.Proofs.YtaneehgfdpadjaaGreatDoor
open Go.Sha
set_option maxRecDepth 100000
theorem f5 {s:Sho}(h:s.ok){b:Bool}(hF:∀st:St,run Tryz.prog HH 13 [s.v] st=some (.ret (.bool b),st)){st:St}:run Tryz.prog HH 5 [s.v] st=some (.ret (.bool (b&&shoC s == 0)),st):=by
 have h18:=fun(st:St)=>f14 h (st:=st)
 rw[run_shut F5 rfl rfl (by simp)]
 push_cast[Sho.v]at hF h18
 cases b with
 |true=>push_cast[Sho.v,hF,h18]
 |false=>push_cast[Sho.v,hF]
end Go.Proofs.YtaneehgfdpadjaaGreatDoor

namespace Go.Proofs.YtaneehgfdpadjaaGreatDoor
open Go.Sha
set_option maxRecDepth 100000
variable {g:List (Nat×Obj)}{n:Nat}
def cmpE (a b:Int):Int:=if a<b then -1 else if b<a then 1 else 0
theorem f101 {a b:Int}{st:St}:run Tryz.prog HH 101 [.int .i64 a,.int .i64 b] st=some (.ret (.int .i64 (cmpE a b)),st):=by
 rw[run_shut F101 rfl rfl (by simp)]
 unfold cmpE
 by_cases h1:a<b
 ·push_cast[h1]
 ·by_cases h2:b<a
  ·push_cast[h1,h2]
  ·push_cast[h1,h2]
theorem f111 {x:Eff}{v:Int}{st:St}:run Tryz.prog HH 111 [x.v,.int .i64 v] st=some (.ret (.int .i64 (cmpE x.num v)),st):=by
 rw[run_shut F111 rfl rfl (by simp)]
 push_cast[Eff.v,f101]
theorem f100 {x:Lst}{v:Int}{st:St}:run Tryz.prog HH 100 [x.v,.int .i64 v] st=some (.ret (.int .i64 (cmpE x.num v)),st):=by
 rw[run_shut F100 rfl rfl (by simp)]
 push_cast[Lst.v,f101]
def effP (v:Int)(y:Eff):Int:=cmpE y.num v
def lstP' (v:Int)(y:Lst):Int:=cmpE y.num v
theorem f112p {l:List Eff}{v:Int}(hl:l.length<140737488355328){st:St}:run Tryz.prog HH 110 [.sl (l.map Eff.v),.int .i64 v,.fn (.func 111) [] []] st=some (.ret (.tup [.int .i64 (bsR (effP v) l),.bool (bsF (effP v) l)]),st) :=
 BsF (f:=Eff.v) (es:=6) (fun _=>rfl) (fun _=>rfl) F110 rfl (by simp) hl (fun x st=>f111) (fun _ _=>rfl) (fun _=>rfl)
theorem f101p {l:List Lst}{v:Int}(hl:l.length<140737488355328){st:St}:run Tryz.prog HH 99 [.sl (l.map Lst.v),.int .i64 v,.fn (.func 100) [] []] st=some (.ret (.tup [.int .i64 (bsR (lstP' v) l),.bool (bsF (lstP' v) l)]),st) :=
 BsF (f:=Lst.v) (es:=3) (fun _=>rfl) (fun _=>rfl) F99 rfl (by simp) hl (fun x st=>f100) (fun _ _=>rfl) (fun _=>rfl)
theorem bsI_le {c:Nat→Int}(i j:Nat)(h:i≤j):bsI c i j≤j:=by
 induction i,j using bsI.induct c with
 |case1 i j h1 h2 ih=>rw[bsI,dif_pos h1,if_pos h2];exact ih (by omega)
 |case2 i j h1 h2 ih=>rw[bsI,dif_pos h1,if_neg h2];have:=ih (by omega);omega
 |case3 i j h1=>rw[bsI,dif_neg h1];omega
theorem bsR_len {α:Type}[Inhabited α]{c:α→Int}{l:List α}:bsR c l≤l.length:=bsI_le _ _ (Nat.zero_le _)
theorem bsF_len {α:Type}[Inhabited α]{c:α→Int}{l:List α}(h:bsF c l=true):bsR c l<l.length:=by
 unfold bsF at h
 simp only[Bool.and_eq_true,decide_eq_true_eq]at h
 omega
def effN (x:Eff)(l:List Eff):List Eff:=if bsF (effP x.num) l=true then l.set (bsR (effP x.num) l) x else l.take (bsR (effP x.num) l)++[x]++l.drop (bsR (effP x.num) l)
def stE (g:List (Nat×Obj))(s:Sho)(e:Edi):St:=⟨5,[(3,edC s e),(2,[.str [],.nils,.nils,.nils,.nils,.nils,.nils,.nils,.nils])],[],⟨[],g,[]⟩⟩
def stE' (g:List (Nat×Obj))(s:Sho)(e:Edi)(l:List Eff)(r:List (Nat×Arr))(nx:Nat):St:=⟨nx,[(3,(edC s e).set 8 (.osl 5 l.length)),(2,[.str [],.nils,.nils,.nils,.nils,.nils,.nils,.nils,.nils])],r++[(5,⟨47,6,l.map Eff.v,true,false⟩)],⟨[],g,[]⟩⟩
theorem f57r {s:Sho}{e:Edi}(hl:s.effs.length<1000000):∃r nx,run Tryz.prog HH 54 [.ptr 3 0] (stE g s e)=some (.ret (.int .i64 0),stE' g s e (effN e.eff s.effs) r nx)∧(r=[]∧nx=6∨∃a,r=[(6,a)]∧nx=7):=by
 have h112:=fun(st:St)=>f112p (l:=s.effs) (v:=e.eff.num) (st:=st) (by omega)
 have h114:=fun(st:St)=>r_cln (k:=112) (e:=47) (es:=6) (b:=64) (f:=Eff.v) (l:=s.effs) (st:=st) (fun _ _=>rfl) (fun _=>rfl) (fun _=>rfl) (by omega) (by omega)
 unfold stE stE'
 rw[edC_eq]
 rw[run_open F54 rfl rfl (by simp)]
 push_cast[Eff.v]at h112 h114
 cases hf:bsF (effP e.eff.num) s.effs with
 |true =>
  refine⟨[],6,?_,.inl ⟨rfl,rfl⟩⟩
  have hlt:=bsF_len hf
  have hlt':((bsR (effP e.eff.num) s.effs:Nat):Int)<s.effs.length:=by omega
  have en:effN e.eff s.effs=s.effs.set (bsR (effP e.eff.num) s.effs) e.eff:=if_pos hf
  rw[en]
  generalize bsR (effP e.eff.num) s.effs=k at *
  have hy:s.effs[k]?=some (s.effs[k]'hlt):=List.getElem?_eq_getElem hlt
  generalize s.effs[k]'hlt=y at *
  have hset:(s.effs.map Eff.v).set k e.eff.v=(s.effs.set k e.eff).map Eff.v:=by rw[List.map_set]
  push_cast[Eff.v]at hset
  push_cast[h112,h114,hf,hlt,hlt',hy,Eff.v,V.cells,V.recell,stoB,hset,List.length_set,List.set_cons_succ,List.set_cons_zero,List.nil_append]
 |false =>
  have hr:bsR (effP e.eff.num) s.effs≤s.effs.length:=bsR_len
  have en:effN e.eff s.effs=s.effs.take (bsR (effP e.eff.num) s.effs)++[e.eff]++s.effs.drop (bsR (effP e.eff.num) s.effs):=if_neg (by simp[hf])
  have e6:(s.effs.map Eff.v).take (bsR (effP e.eff.num) s.effs)++[e.eff.v]++(s.effs.map Eff.v).drop (bsR (effP e.eff.num) s.effs)=(effN e.eff s.effs).map Eff.v:=by rw[en];simp
  have e7:(effN e.eff s.effs).length=s.effs.length+1:=by rw[en];simp;omega
  rw[e7]
  refine⟨[(6,⟨47,6,[e.eff.v],false,false⟩)],7,?_,.inr ⟨_,rfl,rfl⟩⟩
  generalize bsR (effP e.eff.num) s.effs=k at *
  rw[Eff.v]at e6
  push_cast[h112,h114,hf,Eff.v,V.cells,V.recell,stoB]
  rw[r_ins (e:=47) (e':=47) (es:=6) (b:=64) (n:=s.effs.length) (m:=1) (i:=k) (xs:=s.effs.map Eff.v) (ys:=[V.agg [.int .i64 e.eff.num,.int .i64 e.eff.attr,.sl (e.eff.wave.map Pt.v),.int .i64 e.eff.period,.int .i64 e.eff.spread,.int .i64 e.eff.size]]) (zs:=[V.agg [.int .i64 e.eff.num,.int .i64 e.eff.attr,.sl (e.eff.wave.map Pt.v),.int .i64 e.eff.period,.int .i64 e.eff.spread,.int .i64 e.eff.size]]) (wr':=false) (fun _ _=>rfl) rfl rfl (by simp) rfl (by decide) (by decide) (by omega) (by omega) (by decide) rfl,e6]
  push_cast[updA,List.set_cons_succ,List.set_cons_zero,List.cons_append,List.nil_append]
  exact dn_eq e7 rfl
theorem f57c {s:Sho}{e:Edi}(hl:s.effs.length<1000000):hCls (run Tryz.prog HH) 54 [.ptr 3 0] (stE g s e)=some (.ret (.int .i64 0),stE g { s with effs:=effN e.eff s.effs } e):=by
 obtain⟨r,nx,h,⟨rfl,rfl⟩|⟨a,rfl,rfl⟩⟩:=f57r (g:=g) (s:=s) (e:=e) hl
 ·rw[hCls,h]
  push_cast[stE',stE,edC_eq,clsS,clsK,frzA,frzK,clsV,snap1,List.map,List.set_cons_succ,List.set_cons_zero,List.nil_append]
 ·rw[hCls,h]
  push_cast[stE',stE,edC_eq,clsS,clsK,frzA,frzK,clsV,snap1,List.map,List.set_cons_succ,List.set_cons_zero,List.cons_append,List.nil_append]
def effDl (l:List Eff)(v:Int):Int:=gonE (if effsC l=0 then bsF (effB v) l else false) (effsC l)
theorem effDl_0 {l:List Eff}{v:Int}:(effDl l v=0)=(effsC l=0∧bsF (effB v) l=true):=by
 unfold effDl gonE
 by_cases h:effsC l=0
 ·cases hf:bsF (effB v) l<;>simp[h]
 ·simp[h]
theorem effDl_n {l:List Eff}{v:Int}(h:¬(effsC l=0∧bsF (effB v) l=true)):¬effDl l v=0:=by rw[effDl_0];exact h
theorem f58c {s:Sho}{e:Edi}(hv:-9223372036854775808≤e.num∧e.num≤9223372036854775807)(hl:s.effs.length<1000000)(hb:∀q∈s.effs,q.wave.length<140737488355328):hCls (run Tryz.prog HH) 55 [.ptr 3 0] (stE g s e)=some (.ret (.int .i64 (effDl s.effs e.num)),stE g { s with effs:=if effDl s.effs e.num=0 then delT Eff.num e.num s.effs else s.effs } e):=by
 have h116:=fun(st:St)=>f114 hl hb (v:=e.num) (st:=st)
 have h114:=fun(st:St)=>r_cln (k:=112) (e:=47) (es:=6) (b:=64) (f:=Eff.v) (l:=s.effs) (st:=st) (fun _ _=>rfl) (fun _=>rfl) (fun _=>rfl) (by omega) (by omega)
 have h100:=fun(b:Bool) (c:Int) (st:St)=>f98 (b:=b) (c:=c) (st:=st)
 push_cast[Eff.v]at h116 h114
 by_cases c1:effsC s.effs=0
 ·cases hf:bsF (effB e.num) s.effs with
  |true =>
   have hD:effDl s.effs e.num=0:=by rw[effDl_0];exact⟨c1,hf⟩
   rw[hD,if_pos rfl]
   obtain⟨e4,h1,ha⟩:=effs_ok c1
   have hw0:=bs_wrap (v:=e.num) (fun y hy=>eff_range (h1 y hy)) ha hv
   have hv':1≤e.num∧e.num≤1048576:=by
    have e:=hw0.1
    rw[show(fun y:Eff=>IntKind.i64.wrap (y.num-_))=effB _ from rfl,hf]at e
    obtain⟨y,hy,h⟩:=List.any_eq_true.1 e.symm
    have h:=of_decide_eq_true h
    rw[←h]
    exact eff_range (h1 y hy)
   have hc:CmpK Eff.num e.num (effB e.num) s.effs:=hw0.2 hv'
   have e1:=del_hit ha hc hf
   have e2:=bsF_len hf
   have e6:(s.effs.map Eff.v).take (bsR (effB e.num) s.effs)++(s.effs.map Eff.v).drop (bsR (effB e.num) s.effs+1)=(delT Eff.num e.num s.effs).map Eff.v:=by rw[←e1];simp
   have e3:s.effs.length-1=(delT Eff.num e.num s.effs).length:=by rw[←e1];simp;omega
   have hraw:run Tryz.prog HH 55 [.ptr 3 0] (stE g s e)=some (.ret (.int .i64 0),⟨7,[(3,(edC s e).set 8 (.osl 6 (delT Eff.num e.num s.effs).length)),(2,[.str [],.nils,.nils,.nils,.nils,.nils,.nils,.nils,.nils])],[(6,⟨47,6,(delT Eff.num e.num s.effs).map Eff.v,true,false⟩)],⟨[],g,[]⟩⟩):=by
    unfold stE
    rw[edC_eq]
    rw[run_open F55 rfl rfl (by simp)]
    generalize bsR (effB e.num) s.effs=r at *
    have hw:IntKind.i64.wrap ((r:Int)+1)=((r+1:Nat):Int):=iwrap (by omega) (by omega)
    push_cast[h116,h114,c1,hf,hw,Eff.v]
    rw[show((r:Int)+1)=((r+1:Nat):Int) by omega,r_del (e:=47) (es:=6) (n:=s.effs.length) (i:=r) (xs:=s.effs.map Eff.v) (fun _ _=>rfl) rfl (by simp) e2,e6]
    push_cast[e3,delA,List.set_cons_succ,List.set_cons_zero]
   rw[hCls,hraw]
   push_cast[stE,edC_eq,clsS,clsK,frzA,frzK,clsV,snap1,List.map,List.set_cons_succ,List.set_cons_zero]
  |false =>
   have hD:¬effDl s.effs e.num=0:=effDl_n (by simp[hf])
   have hraw:run Tryz.prog HH 55 [.ptr 3 0] (stE g s e)=some (.ret (.int .i64 (effDl s.effs e.num)),stE g s e):=by
    unfold stE
    rw[edC_eq]
    rw[run_open F55 rfl rfl (by simp)]
    push_cast[h116,h100,c1,hf,effDl]
   rw[hCls,hraw]
   push_cast[stE,edC_eq,clsS,clsK,frzA,frzK,clsV,List.map,hD]
 ·have hD:¬effDl s.effs e.num=0:=effDl_n (by simp[c1])
  have hraw:run Tryz.prog HH 55 [.ptr 3 0] (stE g s e)=some (.ret (.int .i64 (effDl s.effs e.num)),stE g s e):=by
   unfold stE
   rw[edC_eq]
   rw[run_open F55 rfl rfl (by simp)]
   push_cast[h116,h100,c1,effDl,false_and]
  rw[hCls,hraw]
  push_cast[stE,edC_eq,clsS,clsK,frzA,frzK,clsV,List.map,hD]
end Go.Proofs.YtaneehgfdpadjaaGreatDoor

namespace Go.Proofs.YtaneehgfdpadjaaGreatDoor
open Go.Sha
set_option maxRecDepth 100000
variable {g:List (Nat×Obj)}{n:Nat}
def priN (v p:Int)(l:List Lst):List Lst:=match bsF (lstP' v) l,l[bsR (lstP' v) l]? with
 |true,some y=>l.set (bsR (lstP' v) l) { y with prio:=p }
 |_,_=>l.take (bsR (lstP' v) l)++[⟨v,p,[]⟩]++l.drop (bsR (lstP' v) l)
theorem f50c {s:Sho}{e:Edi}(hl:s.lsts.length<1000000):hCls (run Tryz.prog HH) 47 [.ptr 3 0] (stE g s e)=some (.ret (.int .i64 0),stE g { s with lsts:=priN e.num e.prio s.lsts } e):=by
 have h101:=fun(st:St)=>f101p (l:=s.lsts) (v:=e.num) (st:=st) (by omega)
 have h104:=fun(st:St)=>r_cln (k:=102) (e:=97) (es:=3) (b:=40) (f:=Lst.v) (l:=s.lsts) (st:=st) (fun _ _=>rfl) (fun _=>rfl) (fun _=>rfl) (by omega) (by omega)
 push_cast[Lst.v]at h101 h104
 cases hf:bsF (lstP' e.num) s.lsts with
 |true =>
  have hlt:=bsF_len hf
  have hy:s.lsts[bsR (lstP' e.num) s.lsts]?=some (s.lsts[bsR (lstP' e.num) s.lsts]'hlt):=List.getElem?_eq_getElem hlt
  generalize hyy:s.lsts[bsR (lstP' e.num) s.lsts]'hlt=y at hy
  have en:priN e.num e.prio s.lsts=s.lsts.set (bsR (lstP' e.num) s.lsts) { y with prio:=e.prio }:=by rw[priN,hf,hy]
  rw[en]
  have hraw:run Tryz.prog HH 47 [.ptr 3 0] (stE g s e)=some (.ret (.int .i64 0),⟨6,[(3,(edC s e).set 6 (.osl 5 (s.lsts.set (bsR (lstP' e.num) s.lsts) { y with prio:=e.prio }).length)),(2,[.str [],.nils,.nils,.nils,.nils,.nils,.nils,.nils,.nils])],[(5,⟨97,3,(s.lsts.set (bsR (lstP' e.num) s.lsts) { y with prio:=e.prio }).map Lst.v,true,false⟩)],⟨[],g,[]⟩⟩):=by
   unfold stE
   rw[edC_eq]
   rw[run_open F47 rfl rfl (by simp)]
   generalize bsR (lstP' e.num) s.lsts=k at *
   have hlt':(k:Int)<s.lsts.length:=by omega
   have hset:(s.lsts.map Lst.v).set k ({ y with prio:=e.prio }:Lst).v=(s.lsts.set k { y with prio:=e.prio }).map Lst.v:=by rw[List.map_set]
   push_cast[Lst.v]at hset
   push_cast[h101,h104,hf,hlt,hlt',hy,Lst.v,V.cells,V.recell,stoB,hset,List.length_set,List.set_cons_succ,List.set_cons_zero]
  rw[hCls,hraw]
  generalize s.lsts.set (bsR (lstP' e.num) s.lsts) { y with prio:=e.prio }=L
  push_cast[stE,edC_eq,clsS,clsK,frzA,frzK,clsV,snap1,List.map,List.set_cons_succ,List.set_cons_zero]
 |false =>
  have hr:bsR (lstP' e.num) s.lsts≤s.lsts.length:=bsR_len
  have en:priN e.num e.prio s.lsts=s.lsts.take (bsR (lstP' e.num) s.lsts)++[⟨e.num,e.prio,[]⟩]++s.lsts.drop (bsR (lstP' e.num) s.lsts):=by rw[priN,hf]
  rw[en]
  generalize bsR (lstP' e.num) s.lsts=k at *
  have e7:(s.lsts.take k++[(⟨e.num,e.prio,[]⟩:Lst)]++s.lsts.drop k).length=s.lsts.length+1:=by simp;omega
  have e5:((s.lsts.map Lst.v).take k++[V.agg [.int .i64 e.num,.int .i64 0,.sl []]]++(s.lsts.map Lst.v).drop k)[k]?=some (V.agg [.int .i64 e.num,.int .i64 0,.sl []]):=by
   rw[List.append_assoc,List.getElem?_append_right (by simp;omega)]
   simp[Nat.min_eq_left hr]
  have e6:((s.lsts.map Lst.v).take k++[V.agg [.int .i64 e.num,.int .i64 0,.sl []]]++(s.lsts.map Lst.v).drop k).set k (V.agg [.int .i64 e.num,.int .i64 e.prio,.sl []])=(s.lsts.take k++[(⟨e.num,e.prio,[]⟩:Lst)]++s.lsts.drop k).map Lst.v:=by
   rw[List.append_assoc,List.set_append_right _ _ (by simp;omega)]
   simp[Nat.min_eq_left hr,Lst.v]
  generalize s.lsts.take k++[(⟨e.num,e.prio,[]⟩:Lst)]++s.lsts.drop k=L at *
  have hraw:run Tryz.prog HH 47 [.ptr 3 0] (stE g s e)=some (.ret (.int .i64 0),⟨7,[(3,(edC s e).set 6 (.osl 5 L.length)),(2,[.str [],.nils,.nils,.nils,.nils,.nils,.nils,.nils,.nils])],[(6,⟨97,3,[V.agg [.int .i64 e.num,.int .i64 0,.sl []]],false,false⟩),(5,⟨97,3,L.map Lst.v,true,false⟩)],⟨[],g,[]⟩⟩):=by
   rw[e7]
   unfold stE
   rw[edC_eq]
   rw[run_open F47 rfl rfl (by simp)]
   push_cast[h101,h104,hf,Lst.v,V.cells,V.recell,stoB]
   rw[r_ins (e:=97) (e':=97) (es:=3) (b:=40) (n:=s.lsts.length) (m:=1) (i:=k) (xs:=s.lsts.map Lst.v) (ys:=[V.agg [.int .i64 e.num,.int .i64 0,.sl []]]) (zs:=[V.agg [.int .i64 e.num,.int .i64 0,.sl []]]) (wr':=false) (fun _ _=>rfl) rfl rfl (by simp) rfl (by decide) (by decide) (by omega) (by omega) (by decide) rfl]
   have e8:(k:Int)<s.lsts.length+1:=by omega
   have e9:k<s.lsts.length+1:=by omega
   have e10:((s.lsts.map Lst.v).take k++[V.agg [.int .i64 e.num,.int .i64 0,.sl []]]++(s.lsts.map Lst.v).drop k).length=s.lsts.length+1:=by simp;omega
   generalize (s.lsts.map Lst.v).take k++[V.agg [.int .i64 e.num,.int .i64 0,.sl []]]++(s.lsts.map Lst.v).drop k=X at *
   push_cast[updA,e5,e6,e8,e9,e10,V.cells,V.recell,stoB,List.set_cons_succ,List.set_cons_zero]
  rw[hCls,hraw]
  push_cast[stE,edC_eq,clsS,clsK,frzA,frzK,clsV,snap1,List.map,List.set_cons_succ,List.set_cons_zero]
end Go.Proofs.YtaneehgfdpadjaaGreatDoor

namespace Go.Proofs.YtaneehgfdpadjaaGreatDoor
open Go.Sha
set_option maxRecDepth 10000
theorem F188:compF Tryz.prog 188=some ⟨17,[.cell 4 (some 2),.tmp 5],(.g [.s 4 (.alloc 256 [.nils,.nilm]),.c 5 0] (.join [0,1,4] (.g [.m 7 0,.m 8 1,.g' 9 135 7 8,.m 6 9] (.g [.m 10 6,.v 11 .neq 10 0] (.i 11 (.g [.s 12 (.build [.nils,.nilm] []),.m 13 6,.w 2 4 12,.m 5 13] (.ret [4,5])) .skip))) (.g [.m 14 0,.m 15 1,.g' 16 217 14 15,.w 2 4 16,.c 5 0] (.ret [4,5]))))⟩:=by kernel_rfl
end Go.Proofs.YtaneehgfdpadjaaGreatDoor

namespace Go.Proofs.YtaneehgfdpadjaaGreatDoor
open Go.Sha
set_option maxRecDepth 10000
theorem F191:compF Tryz.prog 191=some ⟨14,[.tmp 4,.tmp 5],(.g [.s 4 (.mv (.c .nils)),.c 5 0] (.join [0] (.g [.m 7 0,.m 8 1,.g' 9 135 7 8,.m 6 9] (.g [.m 10 6,.v 11 .neq 10 0] (.i 11 (.g [.m 12 6,.s 4 (.mv (.c .nils)),.m 5 12] (.ret [4,5])) .skip))) (.g [.m 13 0,.m 4 13,.c 5 0] (.ret [4,5]))))⟩:=by kernel_rfl
theorem F93:compF Tryz.prog 93=some ⟨14,[.cell 3 (some 3),.tmp 4],(.g [.q 2 97 0,.s 3 (.alloc 97 [.i 0,.i 0,.nils]),.c 4 0] (.z [2] (.q (.dreg 9 [.d 5 3 2,.l 6 1,.s 7 (.k 6),.a 8 9 7,.a 9 5 8,.d 10 9 9,.g' 11 94 5 10,.j 12 0 11,.j 13 1 11,.w 3 3 12,.m 4 13]) (.ret [3,4]))))⟩:=by kernel_rfl
theorem F95:compF Tryz.prog 95=some ⟨34,[.cell 3 (some 3),.tmp 4],(.g [.q 2 97 0,.s 3 (.alloc 97 [.i 0,.i 0,.nils]),.c 4 0] (.z [2] (.join [1,2,3] (.g [.l 9 1,.s 10 (.k 9),.a 11 9 10,.a 12 4 11,.l 13 12,.f 14 96 13,.m 5 14] (.g [.m 15 5,.v 16 .neq 15 0] (.i 16 (.g [.s 17 (.build [.i 0,.i 0,.nils] []),.m 18 5,.w 3 3 17,.m 4 18] (.ret [3,4])) .skip))) (.join [3,6,7,8] (.greg [] [] [[],[],[],[],[],[],[],[],[],[],[],[true,true,true,true,true,true,true,true,true,true,true],[false,true,true,false,false,false,false,false,false,false,false,false],[],[]] [.d 20 3 2,.l 21 1,.s 22 (.k 21),.a 23 9 22,.a 24 4 23,.l 25 24,.g' 26 97 20 25,.m 19 26,.j 27 0 19,.j 28 1 19,.j 29 2 19,.s 6 (.alloc 97 [.i 0,.i 0,.nils]),.w 3 6 27,.m 7 28,.m 8 29]) (.z [6] (.join [3,4] (.greg [] [] [[],[],[],[],[false,false,false,false],[]] [.d 30 3 6,.m 31 7,.m 32 8,.g' 33 98 31 32,.w 3 3 30,.m 4 33]) (.ret [3,4])))))))⟩:=by kernel_rfl
end Go.Proofs.YtaneehgfdpadjaaGreatDoor

namespace Go.Proofs.YtaneehgfdpadjaaGreatDoor
open Go.Sha
set_option maxRecDepth 100000
variable {g:List (Nat×Obj)}{n:Nat}
theorem f188 {l:List Fixt}{ps:List Prof}(hl:l.length<140737488355328)(hb:∀x∈l,x.cable.length<140737488355328)(hp:ps.length<140737488355328){st:St} :
  run Tryz.prog HH 188 [.sl (l.map Fixt.v),.sl (ps.map Prof.v)] st=some (.ret (.tup [if fixCR l ps=0 then rigV l (dedP ps) else .agg [.sl [],.nilm],.int .i64 (fixCR l ps)]),st):=by
 have h137:=fun(st:St)=>f135 (l:=l) (ps:=ps) (st:=st) hl hb hp
 have h219:=fun(st:St)=>f217 (l:=l) (ps:=ps) (st:=st) hp
 push_cast[rigV]at h219
 rw[run_shut F188 rfl rfl (by simp)]
 by_cases c:fixCR l ps=0
 ·push_cast[h137,h219,c,rigV]
 ·push_cast[h137,c]
theorem f191 {l:List Fixt}{ps:List Prof}(hl:l.length<140737488355328)(hb:∀x∈l,x.cable.length<140737488355328)(hp:ps.length<140737488355328){st:St} :
  run Tryz.prog HH 191 [.sl (l.map Fixt.v),.sl (ps.map Prof.v)] st=some (.ret (.tup [.sl ((if fixCR l ps=0 then l else[]).map Fixt.v),.int .i64 (fixCR l ps)]),st):=by
 have h137:=fun(st:St)=>f135 (l:=l) (ps:=ps) (st:=st) hl hb hp
 rw[run_shut F191 rfl rfl (by simp)]
 by_cases c:fixCR l ps=0
 ·push_cast[h137,c]
 ·push_cast[h137,c,List.map_nil]
def fixI (l:List Fixt)(c d:Int):Int:=ix (fun x=>decide (x.chan=c)&&x.part == d) l 0
def fixX (l:List Fixt)(c d:Int):List Fixt:=if fixI l c d<0 then l else l.take (fixI l c d).toNat++l.drop ((fixI l c d).toNat+1)
theorem fixI_lt {l:List Fixt}{c d:Int}:-1≤fixI l c d∧fixI l c d<l.length:=by
 unfold fixI
 cases h:l.find? (fun x=>decide (x.chan=c)&&x.part == d) with
 |none=>rw[ix_find.1 h];omega
 |some x =>
  obtain⟨k,h1,h2,-⟩:=ix_find.2 x h
  rw[h1];omega
theorem f117 {l:List Fixt}{ps:List Prof}{c d:Int}(hl:l.length<1000000)(hb:∀x∈l,x.cable.length<140737488355328)(hp:ps.length<140737488355328){st:St} :
  run Tryz.prog HH 117 [.sl (l.map Fixt.v),.sl (ps.map Prof.v),.int .i64 c,.int .i64 d] st=some (.ret (.tup [.sl ((if fixCR l ps=0 then fixX l c d else[]).map Fixt.v),.bool (decide (fixCR l ps=0∧0≤fixI l c d)),.int .i64 (fixCR l ps)]),st):=by
 have h190:=fun(st:St)=>f188 (l:=l) (ps:=ps) (st:=st) (by omega) hb hp
 have h192:=fun(st:St)=>f190 (l:=l) (ps:=dedP ps) (c:=c) (d:=d) (st:=st) (by omega)
 have h191:=fun(st:St)=>r_cln (k:=189) (e:=49) (es:=7) (b:=72) (f:=Fixt.v) (l:=l) (st:=st) (fun _ _=>rfl) (fun _=>rfl) (fun _=>rfl) (by omega) (by omega)
 rw[run_shut F117 rfl rfl (by simp)]
 rw[show ix (fun x:Fixt=>decide (x.chan=c)&&x.part == d) l 0=fixI l c d from rfl]at h192
 obtain⟨i1,i2⟩:=fixI_lt (l:=l) (c:=c) (d:=d)
 by_cases c1:fixCR l ps=0
 ·rw[c1,if_pos rfl]at h190
  push_cast[rigV,Fixt.v]at h190 h191 h192
  by_cases c2:fixI l c d<0
  ·have c3:¬0≤fixI l c d:=by omega
   have e1:fixX l c d=l:=if_pos c2
   push_cast[h190,h191,h192,c1,c2,c3,e1,Fixt.v]
  ·have c3:0≤fixI l c d:=by omega
   have e1:fixX l c d=l.take (fixI l c d).toNat++l.drop ((fixI l c d).toNat+1):=if_neg c2
   have hw:IntKind.i64.wrap (fixI l c d+1)=fixI l c d+1:=iwrap (by omega) (by omega)
   have h194:∀st,run Tryz.prog HH 192 [.sl [.sl ((l.take (fixI l c d).toNat).map Fixt.v),.sl ((l.drop ((fixI l c d).toNat+1)).map Fixt.v)]] st=some (.ret (.sl ((fixX l c d).map Fixt.v)),st):=fun st=>by
    have h:=f192 (ls:=[l.take (fixI l c d).toNat,l.drop ((fixI l c d).toNat+1)]) (st:=st) (by simp) (by simp[sumN];omega)
    rw[show[l.take (fixI l c d).toNat,l.drop ((fixI l c d).toNat+1)].flatten=fixX l c d by rw[e1];simp]at h
    exact h
   have h7:(fixI l c d+1).toNat=(fixI l c d).toNat+1:=by omega
   push_cast[Fixt.v]at h194
   push_cast[h190,h192,h194,c1,c2,c3,hw,h7,Fixt.v,List.take_length]
   exact dn_eq (by omega) rfl
 ·rw[if_neg c1]at h190
  push_cast[h190,c1,false_and,decide_false,List.map_nil]
def fixD (l:List Fixt)(ps:List Prof)(c d:Int):Int:=gonE (decide (fixCR l ps=0∧0≤fixI l c d)) (fixCR l ps)
variable {s:Sho}{e:Edi}{id:Nat}{st:St}
theorem f57 (h:Sha.look st.mem id=some (edC s e))(hl:s.fixts.length<1000000)(hb:∀x∈s.fixts,x.cable.length<140737488355328)(hp:s.profs.length<140737488355328) :
  run Tryz.prog HH 57 [.ptr id 0] st=some (.ret (.int .i64 (fixD s.fixts s.profs e.chan e.num)),⟨st.nx,updM st.mem id (edC { s with fixts:=if fixCR s.fixts s.profs=0 then fixX s.fixts e.chan e.num else[] } e),st.arr,st.x⟩):=by
 have h119:=fun(st:St)=>f117 hl hb hp (c:=e.chan) (d:=e.num) (st:=st)
 have h100:=fun(b:Bool) (c:Int) (st:St)=>f98 (b:=b) (c:=c) (st:=st)
 rw[edC_eq]at h ⊢
 rw[run_open F57 rfl rfl (by simp)]
 push_cast[Fixt.v,Prof.v]at h119
 push_cast[h,h119,h100,fixD]
end Go.Proofs.YtaneehgfdpadjaaGreatDoor

namespace Go.Proofs.YtaneehgfdpadjaaGreatDoor
open Go.Sha
set_option maxRecDepth 100000
variable {g:List (Nat×Obj)}{n:Nat}
def lstI (l:List Lst)(v:Int):Int:=ix (fun x=>x.num == v) l 0
def fndC (s:Sho)(v:Int):Int:=if ¬shoC s=0 then shoC s else if lstI s.lsts v<0 then 6 else 0
theorem f156 {s:Sho}{v:Int}(hs:s.ok)(hl:s.lsts.length<140737488355328){st:St} :
  run Tryz.prog HH 156 [s.v,.int .i64 v] st=some (.ret (.tup [.int .i64 (if fndC s v=0 then lstI s.lsts v else 0),.int .i64 (fndC s v)]),st):=by
 have h23:=fun(st:St)=>f20 hs (st:=st)
 have h300:=fun(st:St)=>f298 (l:=s.lsts) (v:=v) hl (st:=st)
 rw[show ix (fun x:Lst=>x.num == v) s.lsts 0=lstI s.lsts v from rfl]at h300
 push_cast[Sho.v,Lst.v]at h23 h300
 have h234:∀st:St,run Tryz.prog HH 232 [s.v,.sl (s.lsts.map Lst.v),.int .i64 v,.fn (.func 233) [] []] st=some (.ret (.tup [.int .i64 (if fndC s v=0 then lstI s.lsts v else 0),.int .i64 (fndC s v)]),st):=fun st=>by
  rw[run_shut F232 rfl rfl (by simp)]
  unfold fndC
  by_cases c1:shoC s=0
  ·by_cases c2:lstI s.lsts v<0
   ·push_cast[Sho.v,Lst.v,h23,h300,c1,c2]
   ·push_cast[Sho.v,Lst.v,h23,h300,c1,c2]
  ·push_cast[Sho.v,Lst.v,h23,c1]
 push_cast[Sho.v,Lst.v]at h234
 rw[run_shut F156 rfl rfl (by simp)]
 push_cast[Sho.v,Lst.v,h234]
theorem lstI_lt {l:List Lst}{v:Int}:-1≤lstI l v∧lstI l v<l.length:=by
 unfold lstI
 cases h:l.find? (fun x=>x.num == v) with
 |none=>rw[ix_find.1 h];omega
 |some x =>
  obtain⟨k,h1,h2,-⟩:=ix_find.2 x h
  rw[h1];omega
def stF (g:List (Nat×Obj))(s:Sho)(e:Edi):St:=⟨6,[(3,edC s e),(2,[.str [],.nils,.nils,.nils,.nils,.nils,.nils,.nils,.nils])],[],⟨[],g,[]⟩⟩
end Go.Proofs.YtaneehgfdpadjaaGreatDoor

namespace Go.Proofs.YtaneehgfdpadjaaGreatDoor
open Go.Sha
set_option maxRecDepth 100000
theorem e4 (g:List (Nat×Obj)):evK Tryz.prog HH 100 30 4 [] (stG g)=some (.ret (.bool true),stG g):=by kernel_rfl
theorem at_gl {f:FuncId}{args:List V}{st:St}{r:VRes}(h:run Tryz.prog HH f args (stG st.x.gl)=some (r,stG st.x.gl))(hF:(compF Tryz.prog f).isSome=true)(hH:∀s:St,HH f args s=none)(hb:V.bdL 0 args=true):run Tryz.prog HH f args st=some (r,st):=by
 obtain⟨F,hF⟩:=Option.isSome_iff_exists.1 hF
 rw[run_eq (hH _) hF]at h ⊢
 unfold endF at h ⊢
 split at h
 ·rename_i hl
  rw[if_pos hl,if_pos hb]
  change shutR (stG st.x.gl) (rawE F.res (runC Tryz.prog HH F.c (argEnv 0 args) (stG st.x.gl)))=_ at h
  change shutR st (rawE F.res (runC Tryz.prog HH F.c (argEnv 0 args) (stG st.x.gl)))=_
  generalize rawE F.res (runC Tryz.prog HH F.c (argEnv 0 args) (stG st.x.gl))=X at h ⊢
  match X,h with
  |some (.ret v,s),h =>
   simp only[shutR]at h ⊢
   cases hg:(shutV s v).bd 0 with
   |true=>rw[hg]at h;simp only[guardT]at h ⊢;cases h;rfl
   |false=>rw[hg]at h;cases h
  |some (.pan v,s),h =>
   simp only[shutR]at h ⊢
   cases hg:(shutV s v).bd 0 with
   |true=>rw[hg]at h;simp only[guardT]at h ⊢;cases h;rfl
   |false=>rw[hg]at h;cases h
 ·cases h
theorem f4 {st:St}:run Tryz.prog HH 4 [] st=some (.ret (.bool true),st) :=
 at_gl (evK_run (e4 st.x.gl)) (by rw[F4];rfl) (fun _=>rfl) rfl
end Go.Proofs.YtaneehgfdpadjaaGreatDoor

namespace Go.Proofs.YtaneehgfdpadjaaGreatDoor
open Go.Sha
set_option maxRecDepth 10000
theorem F94:compF Tryz.prog 94=some ⟨37,[.cell 4 (some 3),.tmp 5],(.g [.q 2 97 0,.q 3 35 1,.s 4 (.alloc 97 [.i 0,.i 0,.nils]),.c 5 0] (.z [2,3] (.join [2,3,4] (.g [.d 9 3 2,.f 10 138 9,.m 6 10] (.g [.m 11 6,.v 12 .neq 11 0] (.i 12 (.g [.s 13 (.build [.i 0,.i 0,.nils] []),.m 14 6,.w 3 4 13,.m 5 14] (.ret [4,5])) .skip))) (.join [2,3,4] (.g [.d 15 9 3,.f 16 157 15,.m 7 16] (.g [.m 17 7,.v 18 .neq 17 0] (.i 18 (.g [.s 19 (.build [.i 0,.i 0,.nils] []),.m 20 7,.w 3 4 19,.m 5 20] (.ret [4,5])) .skip))) (.join [2,4,8] (.greg [25] [27] [[],[],[],[],[false,false,false,false],[true],[true],[false,false,false,false,false,false,false],[]] [.d 21 3 2,.s 22 (.build [.i 0,.i 0,.nils] [(0,3,(.t 21))]),.a 23 0 3,.l 24 23,.g' 25 158 22 24,.d 26 9 3,.s 27 (.bslice 35 9 [.t 26]),.s 28 (.append 35 9 120 (.t 25) (.t 27)),.m 8 28]) (.join [2,4,8] (.g [.m 29 8,.u 30 29,.v 31 .gtr 30 64] (.i 31 (.g [.s 32 (.build [.i 0,.i 0,.nils] []),.w 3 4 32,.c 5 5] (.ret [4,5])) .skip)) (.g [.d 33 3 2,.s 34 (.build [.i 0,.i 0,.nils] [(0,3,(.t 33))]),.m 35 8,.g' 36 159 34 35,.w 3 4 36,.c 5 0] (.ret [4,5]))))))))⟩:=by kernel_rfl
theorem F97:compF Tryz.prog 97=some ⟨32,[.cell 4 (some 3),.tmp 5,.tmp 6],(.g [.q 2 97 0,.s 4 (.alloc 97 [.i 0,.i 0,.nils]),.k 5 false,.c 6 0] (.g [.d 11 3 2,.m 12 1,.g' 13 166 11 12,.m 10 13,.j 14 0 10,.j 15 1 10,.j 16 2 10,.m 7 14,.m 8 15,.m 9 16] (.join [2,4,7,8] (.g [.m 17 9,.v 18 .neq 17 0] (.i 18 (.g [.s 19 (.build [.i 0,.i 0,.nils] []),.m 20 9,.w 3 4 19,.k 5 false,.m 6 20] (.ret [4,5,6])) .skip)) (.join [2,4,8] (.g [.m 21 8] (.i 21 (.reg [.a 22 2 2,.l 23 22,.f 24 168 23,.m 25 7,.m 26 7,.v 27 .add 26 1,.s 28 (.f 167 [.t 24,.t 25,.t 27]),.a 29 2 2,.w 1 29 28]) .skip)) (.g [.d 30 3 2,.m 31 8,.w 3 4 30,.m 5 31,.c 6 0] (.ret [4,5,6]))))))⟩:=by kernel_rfl
theorem F158:compF Tryz.prog 158=some ⟨11,[.tmp 4],(.g [.q 2 224 0,.q 3 9 1,.s 4 (.mv (.c .nils))] (.z [2,3] (.g [.a 5 0 2,.a 6 2 5,.l 7 6,.f 8 168 7,.s 9 (.mkfn (.func 242) [] [.t 3]),.g' 10 241 8 9,.m 4 10] (.ret [4]))))⟩:=by kernel_rfl
theorem F159:compF Tryz.prog 159=some ⟨12,[.cell 4 (some 3)],(.g [.q 2 224 0,.s 4 (.alloc 97 [.i 0,.i 0,.nils])] (.g [.m 5 1,.s 6 (.f 243 [.t 5,(.c (.fn (.func 244) [] []))])] (.g [.m 7 1,.a 8 0 2,.a 9 2 8,.w 1 9 7] (.g [.a 10 0 2,.d 11 3 10,.w 3 4 11] (.ret [4])))))⟩:=by kernel_rfl
def B241_0:Cd:=(.join [0,1,5,6] (.g [.m 16 6,.m 17 0,.u 18 17,.b 19 .lss 16 18] (.i 19 .skip (.exit [0,5] 0))) (.join [0,1,5,6] (.block 1 (.g [.m 22 0,.m 23 6,.r 24 9 22 23,.d 25 9 24,.s 7 (.alloc 35 [(.str []),(.str []),.nils,.nils,(.bool false),(.bool false),.i 0,(.str []),.i 0]),.w 9 7 25] (.z [7] (.g [.m 26 1,.d 27 9 7,.s 28 (.call (.t 26) [.t 27]),.z 29 28] (.i 29 (.g [.m 30 0,.m 31 5,.d 32 9 7,.r 33 9 30 31,.w 9 33 32] (.reg [.m 34 5,.v 35 .add 34 1,.m 5 35])) .skip))))) (.reg [.m 20 6,.v 21 .add 20 1,.m 6 21])))
theorem F241:compF Tryz.prog 241=some ⟨42,[.tmp 4],(.g [.s 4 (.mv (.c .nils))] (.g [.m 8 0,.m 9 1,.g' 10 303 8 9,.m 5 10] (.join [0,1,5] (.g [.m 11 5,.v 12 .eql 11 (-1)] (.i 12 (.g [.m 13 0,.m 4 13] (.ret [4])) .skip)) (.join [0,5] (.g [.m 14 5,.v 15 .add 14 1,.m 6 15] (.block 0 (.loop [0,1,5,6] [] B241_0))) (.g [.m 36 0,.m 37 5,.s 38 (.slice 9 (.t 36) (some (.t 37)) none none),.n (.act (.clr 9 (.agg [(.str []),(.str []),.nils,.nils,(.bool false),(.bool false),.i 0,(.str []),.i 0])) [.t 38])] (.g [.m 39 0,.m 40 5,.s 41 (.slice 9 (.t 39) none (some (.t 40)) none),.m 4 41] (.ret [4])))))))⟩:=by kernel_rfl
theorem F242:compF Tryz.prog 242=some ⟨8,[.tmp 3],(.g [.q 2 35 0,.k 3 false] (.z [2] (.g [.a 4 0 2,.l 5 4,.l 6 1,.b 7 .eql 5 6,.m 3 7] (.ret [3]))))⟩:=by kernel_rfl
end Go.Proofs.YtaneehgfdpadjaaGreatDoor

namespace Go.Proofs.YtaneehgfdpadjaaGreatDoor
open Go.Sha
set_option maxRecDepth 10000
theorem F243:compF Tryz.prog 243=some ⟨14,[],(.g [.m 5 0,.u 6 5,.m 4 6] (.reg [.m 7 0,.m 8 4,.m 9 4,.s 10 (.cvi .u64 (.t 9)),.f 11 305 10,.m 12 1,.s 13 (.f 304 [.t 7,.i 0,.t 8,.t 11,.t 12])]))⟩:=by kernel_rfl
theorem F244:compF Tryz.prog 244=some ⟨10,[.tmp 4],(.g [.q 2 35 0,.q 3 35 1,.c 4 0] (.z [2,3] (.g [.a 5 0 2,.l 6 5,.a 7 0 3,.l 8 7,.g' 9 226 6 8,.m 4 9] (.ret [4]))))⟩:=by kernel_rfl
def B304_0:Cd:=(.block 1 (.g [.m 21 2,.m 22 1,.b 23 .sub 21 22,.m 12 23] (.join [0,1,2,3,4,10,11,12] (.g [.m 24 12,.v 25 .leq 24 12] (.i 25 (.g [.m 26 0,.m 27 1,.m 28 2,.m 29 4,.s 30 (.f 331 [.t 26,.t 27,.t 28,.t 29])] (.ret [])) .skip)) (.join [0,1,2,3,4,10,11,12] (.g [.m 31 3,.v 32 .eql 31 0] (.i 32 (.g [.m 33 0,.m 34 1,.m 35 2,.m 36 4,.s 37 (.f 332 [.t 33,.t 34,.t 35,.t 36])] (.ret [])) .skip)) (.join [0,1,2,3,4,10,11,12] (.g [.m 38 10,.z 39 38] (.i 39 (.g [.m 40 0,.m 41 1,.m 42 2,.m 43 4,.s 44 (.f 333 [.t 40,.t 41,.t 42,.t 43])] (.reg [.m 45 3,.v 46 .sub 45 1,.m 3 46])) .skip)) (.g [.m 48 0,.m 49 1,.m 50 2,.m 51 4,.s 52 (.f 334 [.t 48,.t 49,.t 50,.t 51]),.m 47 52,.j 53 0 47,.j 54 1 47,.m 13 53,.m 14 54] (.join [0,1,2,3,4,10,11,12,13,14] (.g [.m 55 14,.v 56 .eql 55 2] (.i 56 (.g [.m 57 0,.m 58 1,.m 59 2,.m 60 4,.s 61 (.f 335 [.t 57,.t 58,.t 59,.t 60])] (.g [.m 62 2,.v 63 .sub 62 1,.m 64 13,.m 65 1,.b 66 .sub 64 65,.b 67 .sub 63 66,.m 13 67] (.reg [.c 14 1]))) .skip)) (.join [0,1,2,3,4,10,11,12,13] (.join [0,1,2,3,4,10,11,12,13,75] (.reg [.m 68 10,.m 69 68,.my 70 11 69,.e 71 69 70,.m 72 71,.my 73 14 72,.vy 74 .eql 73 1 72,.e 75 72 74]) (.i 75 (.g [.m 76 0,.m 77 1,.m 78 2,.m 79 4,.s 80 (.f 336 [.t 76,.t 77,.t 78,.t 79])] (.i 80 (.ret []) .skip)) .skip)) (.join [0,1,2,3,4,12,13] (.join [0,1,2,3,4,10,11,12,13,97] (.dreg 17 [.m 81 1,.v 82 .gtr 81 0,.m 83 82,.my 84 4 83,.my 85 0 83,.my 86 1 83,.vy 87 .sub 86 1 83,.ry 88 9 85 87 83,.y 89 (.load (some 9) (.t 88)) 83,.my 90 0 83,.my 91 13 83,.ry 92 9 90 91 83,.y 93 (.load (some 9) (.t 92)) 83,.y 94 (.call (.t 84) [.t 89,.t 93]) 83,.vy 95 .lss 94 0 83,.y 96 (.un .not (.t 95)) 83,.e 97 83 96]) (.i 97 (.g [.m 98 0,.m 99 1,.m 100 2,.m 101 13,.m 102 4,.s 103 (.f 337 [.t 98,.t 99,.t 100,.t 101,.t 102]),.m 15 103] (.g [.m 104 15,.m 1 104] (.exit [0,1,2,3,4,10,11] 1))) .skip)) (.g [.m 106 0,.m 107 1,.m 108 2,.m 109 13,.m 110 4,.s 111 (.f 338 [.t 106,.t 107,.t 108,.t 109,.t 110]),.m 105 111,.j 112 0 105,.j 113 1 105,.m 16 112,.m 17 113] (.g [.m 114 17,.m 11 114] (.g [.m 115 16,.m 116 1,.b 117 .sub 115 116,.m 118 2,.m 119 16,.b 120 .sub 118 119,.m 18 117,.m 19 120] (.g [.m 121 12,.v 122 .quo 121 8,.m 20 122] (.g [.m 123 18,.m 124 19,.b 125 .lss 123 124] (.i 125 (.g [.m 126 18,.m 127 20,.b 128 .geq 126 127,.m 10 128] (.g [.m 129 0,.m 130 1,.m 131 16,.m 132 3,.m 133 4,.s 134 (.f 304 [.t 129,.t 130,.t 131,.t 132,.t 133])] (.reg [.m 135 16,.v 136 .add 135 1,.m 1 136]))) (.g [.m 137 19,.m 138 20,.b 139 .geq 137 138,.m 10 139] (.g [.m 140 0,.m 141 16,.v 142 .add 141 1,.m 143 2,.m 144 3,.m 145 4,.s 146 (.f 304 [.t 140,.t 142,.t 143,.t 144,.t 145])] (.reg [.m 147 16,.m 2 147]))))))))))))))))))
theorem F304:compF Tryz.prog 304=some ⟨148,[],(.g [.k 10 true] (.g [.k 11 true] (.block 0 (.loop [0,1,2,3,4,10,11] [] B304_0))))⟩:=by kernel_rfl
def B331_0:Cd:=(.join [0,1,2,3,8,9] (.join [0,1,2,3,8,9,34] (.dreg 17 [.m 18 9,.m 19 1,.b 20 .gtr 18 19,.m 21 20,.my 22 3 21,.my 23 0 21,.my 24 9 21,.ry 25 9 23 24 21,.y 26 (.load (some 9) (.t 25)) 21,.my 27 0 21,.my 28 9 21,.vy 29 .sub 28 1 21,.ry 30 9 27 29 21,.y 31 (.load (some 9) (.t 30)) 21,.y 32 (.call (.t 22) [.t 26,.t 31]) 21,.vy 33 .lss 32 0 21,.e 34 21 33]) (.i 34 .skip (.exit [0,1,2,3,8] 2))) (.join [0,1,2,3,8,9] (.block 3 (.greg [] [] [[],[],[],[],[],[],[],[],[],[],[],[],[],[],[],[false,false,false,false,false,false,false,false,false,false,true,true,true,false,false],[],[false,false,false,false,false,false,false,false,false,false,false,false,false,false,false,false,false]] [.m 37 0,.m 38 9,.m 39 0,.m 40 9,.v 41 .sub 40 1,.m 42 0,.m 43 9,.v 44 .sub 43 1,.r 45 9 42 44,.d 46 9 45,.m 47 0,.m 48 9,.r 49 9 47 48,.d 50 9 49,.r 51 9 37 38,.w 9 51 46,.r 52 9 39 41,.w 9 52 50])) (.reg [.m 35 9,.v 36 .sub 35 1,.m 9 36])))
def B331_1:Cd:=(.join [0,1,2,3,8] (.g [.m 12 8,.m 13 2,.b 14 .lss 12 13] (.i 14 .skip (.exit [] 0))) (.join [0,1,2,3,8] (.block 1 (.g [.m 17 8,.m 9 17] (.block 2 (.loop [0,1,2,3,8,9] [] B331_0)))) (.reg [.m 15 8,.v 16 .add 15 1,.m 8 16])))
theorem F331:compF Tryz.prog 331=some ⟨53,[],(.g [.m 10 1,.v 11 .add 10 1,.m 8 11] (.block 0 (.loop [0,1,2,3,8] [] B331_1)))⟩:=by kernel_rfl
end Go.Proofs.YtaneehgfdpadjaaGreatDoor

namespace Go.Proofs.YtaneehgfdpadjaaGreatDoor
open Go.Sha
set_option maxRecDepth 100000
variable {g:List (Nat×Obj)}{n:Nat}
def cmpC (a b:Cu):Int:=cmpN a.num b.num
theorem f244 {a b:Cu}(ha:a.ok)(hb:b.ok){st:St}:run Tryz.prog HH 244 [a.v,b.v] st=some (.ret (.int .i64 (cmpC a b)),st):=by
 have h:=fun(st:St)=>f226 (s:=a.num) (t:=b.num) (st:=st) ha.1 hb.1
 rw[run_shut F244 rfl rfl (by simp)]
 push_cast[Cu.v,h,cmpC]
abbrev cmpV:V:=.fn (.func 244) [] []
def ltC (x y:Cu):Prop:=cmpC x y<0
instance {x y:Cu}:Decidable (ltC x y):=by unfold ltC;exact inferInstance
def insW {α:Type}(lt:α→α→Prop)[∀x y,Decidable (lt x y)]:List α→α→List α→List α
 |[],x,s=>x::s
 |y::r,x,s=>if lt x y then insW lt r x (y::s) else r.reverse++y::x::s
theorem insW_app {α:Type}{lt:α→α→Prop}[∀x y,Decidable (lt x y)]:∀{r:List α}{x:α}{s:List α},insW lt r x s=insW lt r x []++s
 |[],x,s=>rfl
 |y::r,x,s=>by
  rw[insW,insW]
  split
  ·rw[insW_app (s:=y::s),insW_app (s:=[y])];simp
  ·simp
theorem insW_len {α:Type}{lt:α→α→Prop}[∀x y,Decidable (lt x y)]:∀{r:List α}{x:α}{s:List α},(insW lt r x s).length=r.length+s.length+1
 |[],x,s=>by simp[insW]
 |y::r,x,s=>by
  rw[insW]
  split
  ·rw[insW_len];simp;omega
  ·simp;omega
def insS {α:Type}(lt:α→α→Prop)[∀x y,Decidable (lt x y)](out:List α)(x:α):List α:=insW lt out.reverse x []
def isort {α:Type}(lt:α→α→Prop)[∀x y,Decidable (lt x y)](l:List α):List α:=l.foldl (insS lt) []
theorem insS_len {α:Type}{lt:α→α→Prop}[∀x y,Decidable (lt x y)]{l:List α}{x:α}:(insS lt l x).length=l.length+1:=by
 rw[insS,insW_len];simp
theorem isort_len {α:Type}{lt:α→α→Prop}[∀x y,Decidable (lt x y)]{l:List α}:(isort lt l).length=l.length:=by
 suffices ∀o:List α,(l.foldl (insS lt) o).length=o.length+l.length by simpa [isort] using this []
 induction l with
 |nil=>intro o;rfl
 |cons x l ih=>intro o;rw[List.foldl_cons,ih,insS_len,List.length_cons];omega
theorem mem_atC {α:Type}{l:List α}{x:α}{r:List α}{j:Nat}(h:l.drop j=x::r):x∈l:=List.mem_of_mem_drop (i:=j) (by rw[h];exact List.mem_cons_self ..)
theorem insW_mem {α:Type}{lt:α→α→Prop}[∀x y,Decidable (lt x y)]{q:α}:∀{r:List α}{x:α}{s:List α},q∈insW lt r x s↔q∈r∨q=x∨q∈s
 |[],x,s=>by simp[insW]
 |y::r,x,s=>by
  rw[insW]
  split
  ·rw[insW_mem];simp only[List.mem_cons]
   constructor
   ·rintro(h|h|h|h)<;>simp[h]
   ·rintro((h|h)|h|h)<;>simp[h]
  ·simp only[List.mem_append,List.mem_reverse,List.mem_cons]
   constructor
   ·rintro(h|h|h|h)<;>simp[h]
   ·rintro((h|h)|h|h)<;>simp[h]
theorem insS_mem {α:Type}{lt:α→α→Prop}[∀x y,Decidable (lt x y)]{q:α}{l:List α}{x:α}:q∈insS lt l x↔q∈l∨q=x:=by
 rw[insS,insW_mem];simp
theorem isort_mem {α:Type}{lt:α→α→Prop}[∀x y,Decidable (lt x y)]{q:α}{l:List α}:q∈isort lt l↔q∈l:=by
 suffices ∀o:List α,q∈l.foldl (insS lt) o↔q∈o∨q∈l by simpa [isort] using this []
 induction l with
 |nil=>intro o;simp
 |cons x l ih=>intro o;rw[List.foldl_cons,ih,insS_mem,List.mem_cons,or_assoc]
def stC (g:List (Nat×Obj))(k:Nat)(M:List (Nat×List V))(n:Nat)(xs:List Cu):St:=⟨k,M,[(n,⟨35,9,xs.map Cu.v,true,false⟩)],⟨[],g,[]⟩⟩
@[push_cast]theorem stC_eq {k n:Nat}{M:List (Nat×List V)}{xs:List Cu}:stC g k M n xs=⟨k,M,[(n,⟨35,9,xs.map Cu.v,true,false⟩)],⟨[],g,[]⟩⟩:=idq rfl
theorem len_ok:∀{m:Nat},m<13→∃k,∀st,run Tryz.prog HH 305 [.int .u64 m] st=some (.ret (.int .i64 k),st):=fun {m} h=>by
 match m,h with
 |0,_=>exact⟨0,fun st=>at_gl (evK_run (by kernel_rfl:evK Tryz.prog HH 40 40 305 [.int .u64 0] (stG st.x.gl)=some (.ret (.int .i64 0),stG st.x.gl))) (by kernel_rfl) (fun _=>rfl) rfl⟩
 |1,_=>exact⟨1,fun st=>at_gl (evK_run (by kernel_rfl:evK Tryz.prog HH 40 40 305 [.int .u64 1] (stG st.x.gl)=some (.ret (.int .i64 1),stG st.x.gl))) (by kernel_rfl) (fun _=>rfl) rfl⟩
 |2,_=>exact⟨2,fun st=>at_gl (evK_run (by kernel_rfl:evK Tryz.prog HH 40 40 305 [.int .u64 2] (stG st.x.gl)=some (.ret (.int .i64 2),stG st.x.gl))) (by kernel_rfl) (fun _=>rfl) rfl⟩
 |3,_=>exact⟨2,fun st=>at_gl (evK_run (by kernel_rfl:evK Tryz.prog HH 40 40 305 [.int .u64 3] (stG st.x.gl)=some (.ret (.int .i64 2),stG st.x.gl))) (by kernel_rfl) (fun _=>rfl) rfl⟩
 |4,_=>exact⟨3,fun st=>at_gl (evK_run (by kernel_rfl:evK Tryz.prog HH 40 40 305 [.int .u64 4] (stG st.x.gl)=some (.ret (.int .i64 3),stG st.x.gl))) (by kernel_rfl) (fun _=>rfl) rfl⟩
 |5,_=>exact⟨3,fun st=>at_gl (evK_run (by kernel_rfl:evK Tryz.prog HH 40 40 305 [.int .u64 5] (stG st.x.gl)=some (.ret (.int .i64 3),stG st.x.gl))) (by kernel_rfl) (fun _=>rfl) rfl⟩
 |6,_=>exact⟨3,fun st=>at_gl (evK_run (by kernel_rfl:evK Tryz.prog HH 40 40 305 [.int .u64 6] (stG st.x.gl)=some (.ret (.int .i64 3),stG st.x.gl))) (by kernel_rfl) (fun _=>rfl) rfl⟩
 |7,_=>exact⟨3,fun st=>at_gl (evK_run (by kernel_rfl:evK Tryz.prog HH 40 40 305 [.int .u64 7] (stG st.x.gl)=some (.ret (.int .i64 3),stG st.x.gl))) (by kernel_rfl) (fun _=>rfl) rfl⟩
 |8,_=>exact⟨4,fun st=>at_gl (evK_run (by kernel_rfl:evK Tryz.prog HH 40 40 305 [.int .u64 8] (stG st.x.gl)=some (.ret (.int .i64 4),stG st.x.gl))) (by kernel_rfl) (fun _=>rfl) rfl⟩
 |9,_=>exact⟨4,fun st=>at_gl (evK_run (by kernel_rfl:evK Tryz.prog HH 40 40 305 [.int .u64 9] (stG st.x.gl)=some (.ret (.int .i64 4),stG st.x.gl))) (by kernel_rfl) (fun _=>rfl) rfl⟩
 |10,_=>exact⟨4,fun st=>at_gl (evK_run (by kernel_rfl:evK Tryz.prog HH 40 40 305 [.int .u64 10] (stG st.x.gl)=some (.ret (.int .i64 4),stG st.x.gl))) (by kernel_rfl) (fun _=>rfl) rfl⟩
 |11,_=>exact⟨4,fun st=>at_gl (evK_run (by kernel_rfl:evK Tryz.prog HH 40 40 305 [.int .u64 11] (stG st.x.gl)=some (.ret (.int .i64 4),stG st.x.gl))) (by kernel_rfl) (fun _=>rfl) rfl⟩
 |12,_=>exact⟨4,fun st=>at_gl (evK_run (by kernel_rfl:evK Tryz.prog HH 40 40 305 [.int .u64 12] (stG st.x.gl)=some (.ret (.int .i64 4),stG st.x.gl))) (by kernel_rfl) (fun _=>rfl) rfl⟩
 |m+13,h=>exact absurd h (by omega)
theorem L331_0 {k id:Nat}{M:List (Nat×List V)}(hid:id<k){m i N:Nat}(hN:N<1000):∀(r:List Cu) (x:Cu) (s:List Cu),(∀q∈r,q.ok)→x.ok→r.length+1+s.length=N →
  runL Tryz.prog HH [0,1,2,3,8,9] k B331_0 [(0,.osl id N),(1,.int .i64 0),(2,.int .i64 m),(3,cmpV),(8,.int .i64 i),(9,.int .i64 r.length)] (stC g k M id (r.reverse++x::s))
   = some (.exit 2,[(0,.osl id N),(1,.int .i64 0),(2,.int .i64 m),(3,cmpV),(8,.int .i64 i)],stC g k M id (insW ltC r x s)):=by
 intro r
 induction r with
 |nil =>
  intro x s hr hx hl
  rw[runL_of B331_0.eq_1]
  push_cast[List.length_nil,List.reverse_nil,List.nil_append,insW]
 |cons y r ih =>
  intro x s hr hx hl
  have h123:=fun st=>f244 (a:=x) (b:=y) (st:=st) hx (hr y (List.mem_cons_self ..))
  have hni:¬id=k:=by omega
  have hnk:¬k≤id:=by omega
  rw[List.length_cons]at hl
  have ih:=ih x (y::s) (fun q hq=>hr q (List.mem_cons_of_mem _ hq)) hx (by rw[List.length_cons];omega)
  have e1:((y::r).reverse++x::s).length=N:=by simp;omega
  have e2:∀d,((y::r).reverse++x::s).getD (r.length+1) d=x:=fun d=>by simp[List.getD_eq_getElem?_getD]
  have e3:∀d,((y::r).reverse++x::s).getD r.length d=y:=fun d=>by simp[List.getD_eq_getElem?_getD]
  have e4:(((y::r).reverse++x::s).map Cu.v).getD (r.length+1) V.und=x.v:=by simp[List.getD_eq_getElem?_getD]
  have e5:(((y::r).reverse++x::s).map Cu.v).getD r.length V.und=y.v:=by simp[List.getD_eq_getElem?_getD]
  have e6:((y::r).reverse++x::s)[r.length+1]?=some x:=by simp
  have e7:((((y::r).reverse++x::s).map Cu.v).set (r.length+1) y.v)[r.length]?=some y.v:=by simp
  have e8:((((y::r).reverse++x::s).map Cu.v).set (r.length+1) y.v).set r.length x.v=(r.reverse++x::y::s).map Cu.v:=by simp
  have w1:IntKind.i64.wrap (((r.length:Nat):Int)+1-1)=r.length:=by rw[iwrap (by omega) (by omega)];omega
  have c1:(0:Int)<((r.length:Nat):Int)+1:=by omega
  have c2:((r.length:Nat):Int)+1<N:=by omega
  have c3:(r.length:Int)<N:=by omega
  have d2:r.length+1<N:=by omega
  have d3:r.length<N:=by omega
  rw[insW,List.length_cons]
  generalize hxs:(y::r).reverse++x::s=xs at *
  rw[runL_of B331_0.eq_1]
  push_cast[Cu.v]at h123 ih
  simp only[Cu.v]at e7 e8
  by_cases c:cmpC x y<0
  ·rw[if_pos (show ltC x y from c)]
   push_cast[hid,hni,hnk,e1,e2,e3,e4,e5,e6,e7,e8,w1,c1,c2,c3,d2,d3,Cu.v,h123,stoB,V.cells,V.recell,c]
   first|exact ih|exact dn_eq (fun _=>by simp[e1]) ih|exact dn_eq (by simp[e1]) ih
  ·rw[if_neg (show ¬ltC x y from c)]
   push_cast[hid,hni,hnk,e1,e2,e3,e4,e5,e6,e7,e8,w1,c1,c2,c3,d2,d3,Cu.v,h123,stoB,V.cells,V.recell,c]
   simp[←hxs]
theorem L331_1 {k id:Nat}{M:List (Nat×List V)}(hid:id<k){l:List Cu}(hN:l.length<1000)(hol:∀q∈l,q.ok):∀(r:List Cu) (j:Nat),l.drop j=r→∀out:List Cu,(∀q∈out,q.ok)→out.length=j →
  runL Tryz.prog HH [0,1,2,3,8] k B331_1 [(0,.osl id l.length),(1,.int .i64 0),(2,.int .i64 l.length),(3,cmpV),(8,.int .i64 j)] (stC g k M id (out++r))
   = some (.exit 0,[],stC g k M id (r.foldl (insS ltC) out)):=by
 refine drop_ind (fun j h out hk ho=>?_) (fun q r j h hx hd ih out hk ho=>?_)
 all_goals rw[runL_of B331_1.eq_1]
 ·have h1:¬(j:Int)<l.length:=by omega
  push_cast[h1,List.foldl_nil,List.append_nil]
 ·have h1:(j:Int)<l.length:=by omega
  have hw:=iw1 (j:=j) (by omega)
  have hL:=L331_0 (g:=g) (M:=M) hid (m:=l.length) (i:=j) hN out.reverse q r (fun z hz=>hk z (List.mem_reverse.1 hz)) (hol q (mem_atC hd)) (by
   have:=congrArg List.length hd
   simp at this ⊢;omega)
  have ih:=ih (insS ltC out q) (fun z hz=>by rcases insS_mem.1 hz with h|h;exact hk z h;rw[h];exact hol q (mem_atC hd)) (by rw[insS_len,ho])
  rw[insW_app,List.reverse_reverse,List.length_reverse,ho]at hL
  rw[List.foldl_cons]
  push_cast[insS]at ih hL
  push_cast[hid,h1,hw,hL,insS]
  exact ih
theorem f331 {k id:Nat}{M:List (Nat×List V)}(hid:id<k){l:List Cu}(hol:∀q∈l,q.ok)(hN:l.length<1000):run Tryz.prog HH 331 [.osl id l.length,.int .i64 0,.int .i64 l.length,cmpV] (stC g k M id l)=some (.ret (.tup []),stC g k M id (isort ltC l)):=by
 cases l with
 |nil =>
  have hni:¬id=k:=by omega
  have hnk:¬k≤id:=by omega
  rw[run_open F331 rfl rfl (by simp[V.bdL,V.bd,hid])]
  push_cast[hid,hni,hnk,runL_of B331_1.eq_1,isort,List.foldl_nil,List.length_nil]
 |cons x l =>
  have hL:=L331_1 (g:=g) (M:=M) hid hN (l:=x::l) hol l 1 rfl [x] (fun q hq=>hol q (by rw[List.mem_singleton.1 hq];exact List.mem_cons_self ..)) rfl
  have e:(x::l).foldl (insS ltC) []=l.foldl (insS ltC) [x]:=by simp[insS,insW]
  have hlen:(isort ltC (x::l)).length=(x::l).length:=isort_len
  rw[isort,e]at hlen ⊢
  rw[List.singleton_append]at hL
  have hni:¬id=k:=by omega
  have hnk:¬k≤id:=by omega
  rw[run_open F331 rfl rfl (by simp[V.bdL,V.bd,hid])]
  generalize hxs:x::l=xs at *
  push_cast at hL
  push_cast[hid,hni,hnk,hL,hlen]
theorem f304 {k id:Nat}{M:List (Nat×List V)}(hid:id<k){l:List Cu}(hol:∀q∈l,q.ok)(hN:l.length<13){kk:Int}:run Tryz.prog HH 304 [.osl id l.length,.int .i64 0,.int .i64 l.length,.int .i64 kk,cmpV] (stC g k M id l)=some (.ret (.tup []),stC g k M id (isort ltC l)):=by
 have h333:=f331 (g:=g) (M:=M) hid hol (l:=l) (by omega)
 have hlen:(isort ltC l).length=l.length:=isort_len
 have h1:(l.length:Int)≤12:=by omega
 have hw:IntKind.i64.wrap ((l.length:Int)-0)=l.length:=by rw[iwrap (by omega) (by omega)];omega
 have hni:¬id=k:=by omega
 have hnk:¬k≤id:=by omega
 rw[run_open F304 rfl rfl (by simp[V.bdL,V.bd,hid])]
 push_cast at h333
 push_cast[hid,hni,hnk,runL_of B304_0.eq_1,h333,h1,hw,hlen]
theorem f243 {k id:Nat}{M:List (Nat×List V)}(hid:id<k){l:List Cu}(hol:∀q∈l,q.ok)(hN:l.length<13):run Tryz.prog HH 243 [.osl id l.length,cmpV] (stC g k M id l)=some (.ret (.tup []),stC g k M id (isort ltC l)):=by
 obtain⟨kk,hk⟩:=len_ok hN
 have h307:=fun st=>hk st
 have h306:=f304 (g:=g) (M:=M) (kk:=kk) hid hol hN
 have hlen:(isort ltC l).length=l.length:=isort_len
 have hw:IntKind.u64.wrap (l.length:Int)=l.length:=by
  have:(l.length:Int)<13:=by omega
  simp[IntKind.wrap,IntKind.signed,IntKind.bits];omega
 have hni:¬id=k:=by omega
 have hnk:¬k≤id:=by omega
 rw[run_open F243 rfl rfl (by simp[V.bdL,V.bd,hid])]
 push_cast at h306
 push_cast[hid,hni,hnk,h306,h307,hw,hlen]
end Go.Proofs.YtaneehgfdpadjaaGreatDoor

namespace Go.Proofs.YtaneehgfdpadjaaGreatDoor
open Go.Sha
set_option maxRecDepth 10000
theorem F166:compF Tryz.prog 166=some ⟨24,[.tmp 4,.tmp 5,.tmp 6],(.g [.q 2 97 0,.c 4 0,.k 5 false,.c 6 0] (.z [2] (.join [1,2] (.g [.d 9 3 2,.m 10 1,.s 11 (.bslice 9 1 [.t 10]),.g' 12 249 9 11,.m 7 12] (.g [.m 13 7,.v 14 .neq 13 0] (.i 14 (.g [.m 15 7,.c 4 0,.k 5 false,.m 6 15] (.ret [4,5,6])) .skip))) (.g [.d 16 3 2,.s 17 (.build [.i 0,.i 0,.nils] [(0,3,(.t 16))]),.m 18 1,.g' 19 250 17 18,.m 8 19] (.g [.m 20 8,.s 21 (.gen .mx [.t 20,.i 0]),.m 22 8,.v 23 .geq 22 0,.m 4 21,.m 5 23,.c 6 0] (.ret [4,5,6]))))))⟩:=by kernel_rfl
def B249_0:Cd:=(.g [.b 17 .lss 16 15] (.join [14,15,16] (.i 17 .skip (.exit [] 0)) (.join [14,15,16] (.block 1 (.g [.r 18 1 14 16,.l 19 18,.m 7 19] (.g [.m 20 7,.f 21 96 20,.m 8 21] (.g [.m 22 8,.v 23 .neq 22 0] (.i 23 (.g [.m 24 8,.m 4 24] (.ret [4])) .skip))))) (.reg [.v 25 .add 16 1,.m 16 25]))))
theorem F249:compF Tryz.prog 249=some ⟨26,[.tmp 4],(.g [.q 2 97 0,.c 4 0] (.z [2] (.join [1] (.g [.d 9 3 2,.f 10 138 9,.m 5 10] (.g [.m 11 5,.v 12 .neq 11 0] (.i 12 (.g [.m 13 5,.m 4 13] (.ret [4])) .skip))) (.join [] (.g [.m 14 1,.u 15 14,.c 16 0] (.block 0 (.loop [14,15,16] [] B249_0))) (.g [.c 4 0] (.ret [4]))))))⟩:=by kernel_rfl
theorem F250:compF Tryz.prog 250=some ⟨10,[.tmp 4],(.g [.q 2 224 0,.q 3 9 1,.c 4 0] (.z [2,3] (.g [.a 5 0 2,.a 6 2 5,.l 7 6,.s 8 (.mkfn (.func 308) [] [.t 3]),.g' 9 303 7 8,.m 4 9] (.ret [4]))))⟩:=by kernel_rfl
def B303_0:Cd:=(.g [.b 9 .lss 8 7] (.join [0,1,7,8] (.i 9 .skip (.exit [] 0)) (.join [0,1,7,8] (.block 1 (.g [.m 10 8,.m 5 10] (.g [.m 11 1,.m 12 0,.m 13 5,.r 14 9 12 13,.d 15 9 14,.s 16 (.call (.t 11) [.t 15])] (.i 16 (.g [.m 17 5,.m 4 17] (.ret [4])) .skip)))) (.reg [.v 18 .add 8 1,.m 8 18]))))
theorem F303:compF Tryz.prog 303=some ⟨19,[.tmp 4],(.g [.c 4 0] (.join [] (.g [.m 6 0,.u 7 6,.c 8 0] (.block 0 (.loop [0,1,7,8] [] B303_0))) (.g [.c 4 (-1)] (.ret [4]))))⟩:=by kernel_rfl
theorem F308:compF Tryz.prog 308=some ⟨8,[.tmp 3],(.g [.q 2 35 0,.k 3 false] (.z [2] (.g [.a 4 0 2,.l 5 4,.l 6 1,.b 7 .eql 5 6,.m 3 7] (.ret [3]))))⟩:=by kernel_rfl
end Go.Proofs.YtaneehgfdpadjaaGreatDoor

namespace Go.Proofs.YtaneehgfdpadjaaGreatDoor
open Go.Sha
set_option maxRecDepth 100000
variable {g:List (Nat×Obj)}{n:Nat}
def stW (g:List (Nat×Obj))(l:List Cu):St:=⟨6,[(2,[.i 0,.i 0,.nils])],[(5,⟨35,9,l.map Cu.v,true,false⟩)],⟨[],g,[]⟩⟩
@[push_cast]theorem stW_eq {l:List Cu}:stW g l=⟨6,[(2,[.i 0,.i 0,.nils])],[(5,⟨35,9,l.map Cu.v,true,false⟩)],⟨[],g,[]⟩⟩:=idq rfl
def isN (s:List UInt8)(q:Cu):Bool:=decide (q.num=s)
abbrev dfV (s:List UInt8):V:=.fn (.func 242) [] [.ep (.agg [.str s]) 0]
theorem f242 {q:Cu}{s:List UInt8}{st:St}:run Tryz.prog HH 242 [q.v,.ep (.agg [.str s]) 0] st=some (.ret (.bool (isN s q)),st):=by
 rw[run_shut F242 rfl rfl (by simp)]
 push_cast[Cu.v,isN]
 congr 4
 rw[Bool.eq_iff_iff];simp
theorem getD_cu {l:List Cu}{k:Nat}(h:k<l.length):(l.map Cu.v).getD k V.und=(l.getD k default).v:=by
 simp[List.getD_eq_getElem?_getD,h]
theorem ix_rng {α:Type}{p:α→Bool}:∀{l:List α}{j:Nat},ix p l j=-1∨(j:Int)≤ix p l j∧ix p l j<j+l.length
 |[],j=>.inl rfl
 |x::r,j=>by
  unfold ix
  split
  ·exact .inr ⟨by omega,by simp;omega⟩
  ·rcases ix_rng (p:=p) (l:=r) (j:=j+1) with h|h
   ·exact .inl h
   ·exact .inr ⟨by omega,by simp;omega⟩
theorem L303o {s:List UInt8}{l:List Cu}(hl:l.length<1000) :
  ∀r j,l.drop j=r→runL Tryz.prog HH [0,1,7,8] 6 B303_0 [(0,.osl 5 l.length),(1,dfV s),(7,.int .i64 l.length),(8,.int .i64 j)] (stW g l)=lpI (stW g l) [] 4 (ix (isN s) r j):=by
 have hq:=fun q st=>f242 (q:=q) (s:=s) (st:=st)
 refine drop_ind (fun j h=>?_) (fun x r j h hx hd ih=>?_)
 all_goals rw[runL_of B303_0.eq_1]
 ·have h1:¬(j:Int)<l.length:=by omega
  push_cast[h1,ix,lpI]
 ·have h1:(j:Int)<l.length:=by omega
  have hw:=iw1 (j:=j) (by omega)
  have e5:=getD_cu (l:=l) (k:=j) h
  rw[hx]at e5
  have e6:ix (isN s) (x::r) j=if isN s x=true then(j:Int) else ix (isN s) r (j+1):=rfl
  push_cast[Cu.v]at hq e5
  push_cast[h,h1,hw,hx,hq,e5,Cu.v]at ih ⊢
  rw[e6]
  cases hd:isN s x with
  |true=>push_cast[hd,lpI_n]
  |false=>push_cast[hd,ih]
theorem f303o {s:List UInt8}{l:List Cu}(hl:l.length<1000) :
  run Tryz.prog HH 303 [.osl 5 l.length,dfV s] (stW g l)=some (.ret (.int .i64 (ix (isN s) l 0)),stW g l):=by
 have hL:=L303o (g:=g) (s:=s) hl l 0 rfl
 rw[run_open F303 rfl rfl (by simp[V.bdL,V.bd])]
 push_cast at hL
 rcases ix_rng (p:=isN s) (l:=l) (j:=0) with h|h
 ·rw[h]at hL ⊢
  push_cast[lpI_1]at hL
  push_cast[hL]
 ·obtain⟨t,ht⟩:∃t:Nat,ix (isN s) l 0=t:=⟨(ix (isN s) l 0).toNat,by omega⟩
  rw[ht]at hL ⊢
  rw[lpI_n]at hL
  push_cast[hL]
theorem L241 {s:List UInt8}{l:List Cu}(hl:l.length<1000) :
  ∀r j,l.drop j=r→∀(xs:List Cu) (i:Nat),xs.length=l.length→i≤j→xs.drop j=r→∃xs':List Cu,xs'.length=l.length∧xs'.take (i+(r.filter fun q=>!isN s q).length)=xs.take i++(r.filter fun q=>!isN s q) ∧
   runL Tryz.prog HH [0,1,5,6] 6 B241_0 [(0,.osl 5 l.length),(1,dfV s),(5,.int .i64 i),(6,.int .i64 j)] (stW g xs)
    = some (.exit 0,[(0,.osl 5 l.length),(5,.int .i64 ((i+(r.filter fun q=>!isN s q).length:Nat):Int))],stW g xs'):=by
 have hq0:=fun q st=>f242 (q:=q) (s:=s) (st:=st)
 refine drop_ind (fun j h xs i hx1 hij hxd=>?_) (fun x r j h hx hd ih xs i hx1 hij hxd=>?_)
 all_goals rw[runL_of B241_0.eq_1]
 ·have h1:¬(j:Int)<l.length:=by omega
  refine⟨xs,hx1,by simp,?_⟩
  push_cast[hx1,h1,List.filter_nil,List.length_nil,Nat.add_zero]
 ·have h1:(j:Int)<l.length:=by omega
  have hw:=iw1 (j:=j) (by omega)
  have hwi:IntKind.i64.wrap ((i:Int)+1)=((i+1:Nat):Int):=iwrap (by omega) (by omega)
  have hq:=hq0 x
  have hj:j<xs.length:=by omega
  have e4:xs.getD j default=x:=by
   have:xs[j]?=some x:=by rw[←List.head?_drop,hxd];rfl
   rw[List.getD_eq_getElem?_getD,this];rfl
  have e5:=getD_cu (l:=xs) (k:=j) hj
  rw[e4]at e5
  have hi:i<xs.length:=by omega
  have hdr:xs.drop (j+1)=r:=by
   rw[←List.drop_drop,hxd];rfl
  cases hd':isN s x with
  |true =>
   obtain⟨ys,y1,y2,y3⟩:=ih xs i hx1 (by omega) hdr
   have ef:(x::r).filter (fun q=>!isN s q)=r.filter fun q=>!isN s q:=by rw[List.filter_cons,hd'];rfl
   rw[ef]
   refine⟨ys,y1,y2,?_⟩
   generalize (r.filter fun q=>!isN s q).length=z at *
   rw[hd']at hq
   push_cast[Cu.v]at hq e5 y3
   push_cast[h,hj,h1,hw,hx,hx1,hq,e5,Cu.v]at y3 ⊢
   exact y3
  |false =>
   obtain⟨ys,y1,y2,y3⟩:=ih (xs.set i x) (i+1) (by rw[List.length_set];exact hx1) (by omega) (by rw[List.drop_set_of_lt (by omega)];exact hdr)
   have ef:(x::r).filter (fun q=>!isN s q)=x::r.filter fun q=>!isN s q:=by rw[List.filter_cons,hd'];rfl
   have et:(xs.set i x).take (i+1)=xs.take i++[x]:=by
    rw[List.set_eq_take_append_cons_drop,if_pos hi,List.take_append,List.take_take]
    simp[Nat.min_eq_left (Nat.le_of_lt hi)]
   rw[ef,List.length_cons]
   refine⟨ys,y1,?_,?_⟩
   ·rw[show i+((r.filter fun q=>!isN s q).length+1)=i+1+(r.filter fun q=>!isN s q).length by omega,y2,et];simp
   rw[show i+((r.filter fun q=>!isN s q).length+1)=i+1+(r.filter fun q=>!isN s q).length by omega]
   generalize (r.filter fun q=>!isN s q).length=z at *
   rw[hd']at hq
   have hgi:xs[i]?=some (xs.getD i default):=by rw[List.getD_eq_getElem?_getD,List.getElem?_eq_getElem hi];rfl
   have hbs:V.bdL 6 ((xs.set i x).map Cu.v)=true:=by rw[bdL_map',List.all_eq_true];intro q _;simp[Cu.v,V.bd,V.bdL]
   simp only[stW,List.map_set]at y3 hbs
   generalize xs.getD i default=y at hgi
   push_cast[Cu.v]at hq e5 y3 hbs
   push_cast[h,hj,hi,h1,hw,hwi,hgi,hbs,hx,hx1,hq,e5,Cu.v]at y3 ⊢
   exact dn_eq (by omega) y3
theorem slice_win {st:St}{a:Arr}{id N es:Nat}{lo hi:Option V}(hl:Sha.look st.arr id=some a)(h1:a.xs.length=N)(h2:a.wr=true)(h3:a.es=es):sliceV st es (.osl id N) lo hi none=(boundsV N lo hi).map fun p=>.win id N p.1 p.2 es:=by
 unfold sliceV
 simp only[fixedV,hl,h1,h2,h3,winV,winA,and_true,true_and,Bool.true_eq_false,false_and,and_false,if_false,if_true]
abbrev C0:V:=.agg [.str [],.str [],.nils,.nils,.bool false,.bool false,.i 0,.str [],.i 0]
theorem f241a {s:List UInt8}{l:List Cu}(hl:l.length<1000)(hix:ix (isN s) l 0=-1) :
  run Tryz.prog HH 241 [.osl 5 l.length,dfV s] (stW g l)=some (.ret (.osl 5 l.length),stW g l):=by
 have h11:=f303o (g:=g) (s:=s) hl
 rw[run_open F241 rfl rfl (by simp[V.bdL,V.bd])]
 rw[hix]at h11
 push_cast at h11
 push_cast[h11]
theorem f241b {s:List UInt8}{l:List Cu}(hl:l.length<1000){t:Nat}(hix:ix (isN s) l 0=t)(ht:t<l.length) :
  ∃(xs:List V) (i:Nat),i≤l.length∧xs.length=l.length∧i=(l.take t++(l.drop (t+1)).filter (fun q=>!isN s q)).length∧xs.take i=(l.take t++(l.drop (t+1)).filter (fun q=>!isN s q)).map Cu.v∧run Tryz.prog HH 241 [.osl 5 l.length,dfV s] (stW g l)=some (.ret (.win 5 l.length 0 i 9),⟨6,[(2,[.i 0,.i 0,.nils])],[(5,⟨35,9,xs,true,false⟩)],⟨[],g,[]⟩⟩):=by
 have h11:=f303o (g:=g) (s:=s) hl
 obtain⟨ys,y1,y2,y3⟩:=L241 (g:=g) (s:=s) hl _ (t+1) rfl l t rfl (by omega) rfl
 have hfl:((l.drop (t+1)).filter fun q=>!isN s q).length≤l.length-(t+1):=by
  have:=List.length_filter_le (fun q=>!isN s q) (l.drop (t+1));rw[List.length_drop]at this;exact this
 have hw:IntKind.i64.wrap ((t:Int)+1)=((t+1:Nat):Int):=iwrap (by omega) (by omega)
 have hi:t+((l.drop (t+1)).filter fun q=>!isN s q).length≤l.length:=by omega
 have h0:¬(t:Int)=-1:=by omega
 rw[hix]at h11
 refine⟨(ys.take (t+((l.drop (t+1)).filter fun q=>!isN s q).length)).map Cu.v++List.replicate (l.length-(t+((l.drop (t+1)).filter fun q=>!isN s q).length)) C0,t+((l.drop (t+1)).filter fun q=>!isN s q).length,hi,?_,?_,?_,?_⟩
 ·simp[y1];omega
 ·simp[Nat.min_eq_left (Nat.le_of_lt ht)]
 ·rw[List.take_append_of_le_length (by simp[y1];omega),←List.map_take,List.take_take,Nat.min_self,y2]
 rw[run_open F241 rfl rfl (by simp[V.bdL,V.bd])]
 generalize t+((l.drop (t+1)).filter fun q=>!isN s q).length=i at *
 push_cast at h11 y3
 have hsl:=fun(lo hi:Option V)=>slice_win (st:=⟨6,[(2,[.i 0,.i 0,.nils])],[(5,⟨35,9,ys.map Cu.v,true,false⟩)],⟨[],g,[]⟩⟩) (a:=⟨35,9,ys.map Cu.v,true,false⟩) (id:=5) (N:=l.length) (es:=9) (lo:=lo) (hi:=hi) (by simp[Sha.look]) (by simp[y1]) rfl rfl
 have hsl2:=fun(lo hi':Option V)=>slice_win (st:=⟨6,[(2,[.i 0,.i 0,.nils])],[(5,⟨35,9,(ys.take i).map Cu.v++List.replicate (l.length-i) C0,true,false⟩)],⟨[],g,[]⟩⟩) (a:=⟨35,9,(ys.take i).map Cu.v++List.replicate (l.length-i) C0,true,false⟩) (id:=5) (N:=l.length) (es:=9) (lo:=lo) (hi:=hi') (by simp[Sha.look]) (by simp[y1];omega) rfl rfl
 have hb1:boundsV l.length (some (.int .i64 (i:Int))) none=some (i,l.length):=by simp[boundsV,optN,natV,hi]
 have hb2:boundsV l.length none (some (.int .i64 (i:Int)))=some (0,i):=by simp[boundsV,optN,natV,hi]
 have hcl:actV (.clr 9 C0) [.win 5 l.length i l.length 9] ⟨6,[(2,[.i 0,.i 0,.nils])],[(5,⟨35,9,ys.map Cu.v,true,false⟩)],⟨[],g,[]⟩⟩=some (.tup [],⟨6,[(2,[.i 0,.i 0,.nils])],[(5,⟨35,9,(ys.take i).map Cu.v++List.replicate (l.length-i) C0,true,false⟩)],⟨[],g,[]⟩⟩):=by
  simp only[actV]
  have e1:List.drop l.length (ys.map Cu.v)=[]:=List.drop_eq_nil_of_le (by simp[y1])
  simp only[clrV,clrA,Sha.look,if_true,List.length_map,y1,hi,Nat.le_refl,and_true,true_and,e1,List.append_nil,updA,←List.map_take]
  rfl
 push_cast[h11,hw,h0,y1,y3,hsl,hsl2,hb1,hb2,hcl]
 rfl
def woC (s:List UInt8)(l:List Cu):List Cu:=l.filter fun q=>!isN s q
theorem woC_at {s:List UInt8}:∀{l:List Cu}{k t:Nat},ix (isN s) l k=((k+t:Nat):Int)→woC s l=l.take t++(l.drop (t+1)).filter (fun q=>!isN s q)
 |[],k,t,h=>by simp[ix]at h;omega
 |x::r,k,t,h=>by
  unfold ix at h
  split at h
  ·rename_i c
   have:t=0:=by omega
   subst this
   simp[woC,List.filter_cons,c]
  ·rename_i c
   cases t with
   |zero=>rcases ix_rng (p:=isN s) (l:=r) (j:=k+1) with h'|h'<;>omega
   |succ t =>
    have:=woC_at (s:=s) (l:=r) (k:=k+1) (t:=t) (by rw[h];omega)
    rw[woC,List.filter_cons,if_pos (by simpa using c),List.take_succ_cons,List.drop_succ_cons,List.cons_append,←this,woC]
theorem woC_no {s:List UInt8}:∀{l:List Cu}{k:Nat},ix (isN s) l k=-1→woC s l=l
 |[],k,h=>rfl
 |x::r,k,h=>by
  unfold ix at h
  split at h
  ·omega
  ·rename_i c
   rw[woC,List.filter_cons,if_pos (by simpa using c)]
   have:=woC_no (s:=s) (l:=r) (k:=k+1) h
   rw[woC]at this;rw[this]
def hdR:Rt→Rt
 |some (.ret (.win id n 0 i es),s)=>(match Sha.look s.arr id with
  |some r=>if r.xs.length=n∧r.wr=true∧r.fz=false∧r.es=es∧i≤n then some (.ret (.osl s.nx i),⟨s.nx+1,s.mem,(s.nx,⟨r.e,r.es,r.xs.take i,r.wr,r.fz⟩)::delA s.arr id,s.x⟩) else none
  |none=>none)
 |some (.ret (.osl id n),s)=>(match Sha.look s.arr id with
  |some r=>if r.xs.length=n∧r.wr=true∧r.fz=false then some (.ret (.osl s.nx n),⟨s.nx+1,s.mem,(s.nx,⟨r.e,r.es,r.xs.take n,r.wr,r.fz⟩)::delA s.arr id,s.x⟩) else none
  |none=>none)
 |_=>none
theorem hd_ok {P:Program}{E:EvF}(hE:ESound P E){f:FuncId}{args:List V}{st:St}{r:VRes}{s:St}(h:hdR (E f args st)=some (r,s)):VCalls P f args st (fun x y=>x=r∧y=s):=by
 refine VCalls_head ?_
 cases he:E f args st with
 |none=>rw[he]at h;cases h
 |some z =>
  obtain⟨r0,s0⟩:=z
  refine(hE _ _ _ _ _ he).mono ?_
  rintro x y ⟨rfl,rfl⟩
  rw[he]at h
  unfold hdR at h
  split at h
  ·rename_i e
   cases e
   split at h
   ·rename_i a ha
    split at h
    ·rename_i c
     cases h
     exact⟨_,_,_,_,a,_,rfl,.win,ha,c.1,c.2.1,c.2.2.1,c.2.2.2.1,c.2.2.2.2,rfl,rfl⟩
    ·cases h
   ·cases h
  ·rename_i e
   cases e
   split at h
   ·rename_i a ha
    split at h
    ·rename_i c
     cases h
     exact⟨_,_,_,a.es,a,_,rfl,.all rfl,ha,c.1,c.2.1,c.2.2,rfl,Nat.le_refl _,rfl,rfl⟩
    ·cases h
   ·cases h
  ·cases h
end Go.Proofs.YtaneehgfdpadjaaGreatDoor

namespace Go.Proofs.YtaneehgfdpadjaaGreatDoor
open Go.Sha
set_option maxRecDepth 100000
variable {g:List (Nat×Obj)}{n:Nat}
theorem mixed:Tryz.prog.follows .mixedOrders=true:=by kernel_rfl
def memU:List Nat:=[138,157,168,243]
noncomputable def HU:EvF:=⟨[103,113,173,179,183,265,270,241,243],fun f args st=>bif Nat.beq f 241 then hdR (run Tryz.prog HH 241 args st) else bif memL f memU then run Tryz.prog HH f args st else none⟩
@[push_cast]theorem HU_raw:HU.raw=[103,113,173,179,183,265,270,241,243]:=idq rfl
theorem HU_ok (h1:ESound Tryz.prog HH):ESound Tryz.prog HU:=fun f args st r s h=>by
 simp only[HU]at h
 cases h2:Nat.beq f 241 with
 |true=>rw[h2]at h;rw[Nat.eq_of_beq_eq_true h2];exact hd_ok (run_sound mixed h1) h
 |false =>
  rw[h2]at h
  cases hi:memL f memU with
  |false=>rw[hi]at h;cases h
  |true=>rw[hi]at h;exact run_sound mixed h1 _ _ _ _ _ h
theorem upU {k:Nat}{args:List V}{st:St}{r:VRes×St}(h:run Tryz.prog HH k args st=some r)(h1:Nat.beq k 241=false:=by rfl)(h3:memL k memU=true:=by rfl):run Tryz.prog HU k args st=some r:=by
 refine run_H ?_
 simp only[HU,h1,h3,cond_false,cond_true,h]
def st94 (g:List (Nat×Obj)):St:=⟨3,[(2,[.i 0,.i 0,.nils])],[],⟨[],g,[]⟩⟩
def st94' (g:List (Nat×Obj))(l:List Cu):St:=⟨7,[(2,[.i 0,.i 0,.nils])],[(6,⟨35,9,l.map Cu.v,true,false⟩)],⟨[],g,[]⟩⟩
theorem e241 {s:List UInt8}{l:List Cu}(hl:l.length<1000):run Tryz.prog HU 241 [.osl 5 l.length,dfV s] (stW g l)=some (.ret (.osl 6 (woC s l).length),st94' g (woC s l)):=run_H (by
 show hdR (run Tryz.prog HH 241 [.osl 5 l.length,dfV s] (stW g l))=_
 rcases ix_rng (p:=isN s) (l:=l) (j:=0) with h|h
 ·rw[f241a hl h,woC_no h]
  have e:List.take l.length (l.map Cu.v)=l.map Cu.v:=List.take_of_length_le (by simp)
  simp[hdR,stW,Sha.look,delA,st94',e]
 ·obtain⟨t,ht⟩:∃t:Nat,ix (isN s) l 0=t:=⟨(ix (isN s) l 0).toNat,by omega⟩
  have hw:=woC_at (s:=s) (l:=l) (k:=0) (t:=t) (by rw[ht];omega)
  obtain⟨xs,i,h1,h2,h3,h4,h5⟩:=f241b (g:=g) hl ht (by omega)
  rw[h5]
  rw[←hw]at h3 h4
  simp[hdR,Sha.look,delA,st94',h2,h1,h4,←h3])
noncomputable def hOpn (P:Program)(H:EvF)(f:FuncId)(args:List V)(st:St):Rt:=match compF P f with
 |some F=>if args.length≤F.N then openR st.nx (rawE F.res (runC P H F.c (argEnv 0 args) st)) else none
 |none=>none
theorem opn_ok {P:Program}{H:EvF}(hm:P.follows .mixedOrders=true)(hH:ESound P H){f:FuncId}{args:List V}{st:St}{r:VRes}{s:St}(h:hOpn P H f args st=some (r,s)):VCalls P f args st (fun x y=>x=r∧y=s):=by
 unfold hOpn at h
 cases hF:compF P f with
 |none=>rw[hF]at h;cases h
 |some F =>
  rw[hF]at h
  dsimp only at h
  split at h
  ·rename_i hl
   cases hz:rawE F.res (runC P H F.c (argEnv 0 args) st) with
   |none=>rw[hz]at h;cases h
   |some z =>
    obtain⟨r1,s1⟩:=z
    rw[hz]at h
    exact VCalls_open (rawD_sound hm (run_sound hm hH) hF hl hz) h
  ·cases h
theorem opn_eq {P:Program}{H:EvF}{f:FuncId}{args:List V}{st:St}{N:Nat}{res:List Res}{c:Cd}(hF:compF P f=some ⟨N,res,c⟩)(hl:Nat.ble args.length N=true) :
  hOpn P H f args st=openR st.nx (rawE res (runC P H c (argEnv 0 args) st)):=by
 unfold hOpn;rw[hF];exact if_pos (Nat.le_of_ble_eq_true hl)
theorem o158 {x:Lst}{s:List UInt8}(hl:x.cues.length<1000):hOpn Tryz.prog HU 158 [x.v,.str s] (st94 g)=some (.ret (.osl 6 (woC s x.cues).length),st94' g (woC s x.cues)):=by
 have h168:=fun(st:St)=>upU (r_cln (k:=168) (e:=35) (es:=9) (b:=120) (f:=Cu.v) (l:=x.cues) (st:=st) (fun _ _=>rfl) (fun _=>rfl) (fun _=>rfl) (by omega) (by omega))
 have h241:=e241 (g:=g) (s:=s) hl
 unfold st94 st94' at *
 unfold stW at h241
 rw[opn_eq F158 rfl]
 push_cast[Lst.v]at h168 h241
 push_cast[Lst.v,h168,h241]
end Go.Proofs.YtaneehgfdpadjaaGreatDoor

namespace Go.Proofs.YtaneehgfdpadjaaGreatDoor
open Go.Sha
set_option maxRecDepth 100000
variable {g:List (Nat×Obj)}{n:Nat}
theorem f308 {x:Cu}{s:List UInt8}{st:St}:run Tryz.prog HH 308 [x.v,.ep (.agg [.str s]) 0] st=some (.ret (.bool (x.num == s)),st):=by
 rw[run_shut F308 rfl rfl (by simp)]
 push_cast[Cu.v]
theorem f303 {l:List Cu}{s:List UInt8}(hl:l.length<140737488355328){st:St}:run Tryz.prog HH 303 [.sl (l.map Cu.v),.fn (.func 308) [] [.ep (.agg [.str s]) 0]] st=some (.ret (.int .i64 (ix (fun x=>x.num == s) l 0)),st) :=
 IxF (f:=Cu.v) (n:=some 9) (fun _=>rfl) (fun _=>rfl) F303 rfl (by simp) hl (fun q _ _=>f308) (fun _ _=>rfl) (fun _=>rfl)
theorem f250 {x:Lst}{s:List UInt8}(hl:x.cues.length<140737488355328){st:St}:run Tryz.prog HH 250 [x.v,.str s] st=some (.ret (.int .i64 (ix (fun x=>x.num == s) x.cues 0)),st):=by
 have h1:=fun(st:St)=>f303 (s:=s) (st:=st) hl
 rw[run_shut F250 rfl rfl (by simp)]
 push_cast[Lst.v,h1]
theorem f249 {x:Lst}(h:x.ok){s:List UInt8}(hs:s.length<140737488355328){st:St}:run Tryz.prog HH 249 [x.v,.sl [.str s]] st=some (.ret (.int .i64 (if ¬lstP x=0 then lstP x else numC s)),st):=by
 have h1:=fun(st:St)=>f138 (st:=st) h
 have h2:=fun(st:St)=>f96 (st:=st) hs
 push_cast[Lst.v]at h1
 rw[run_shut F249 rfl rfl (by simp)]
 push_cast[Lst.v,h1,h2,runL_of B249_0.eq_1,List.length_cons,List.length_nil]
theorem f166 {x:Lst}(h:x.ok){s:List UInt8}(hs:s.length<140737488355328){st:St}:run Tryz.prog HH 166 [x.v,.str s] st=some (.ret (if ¬lstP x=0 then .tup [.int .i64 0,.bool false,.int .i64 (lstP x)] else if ¬numC s=0 then .tup [.int .i64 0,.bool false,.int .i64 (numC s)] else
  .tup [.int .i64 (if ix (fun x=>x.num == s) x.cues 0<0 then 0 else ix (fun x=>x.num == s) x.cues 0),.bool (decide (0≤ix (fun x=>x.num == s) x.cues 0)),.int .i64 0]),st):=by
 have h1:=fun(st:St)=>f249 (st:=st) h hs
 have h2:=fun(st:St)=>f250 (s:=s) (st:=st) h.1
 push_cast[Lst.v]at h1 h2
 rw[run_shut F166 rfl rfl (by simp)]
 by_cases h3:lstP x=0
 ·by_cases h4:numC s=0
  ·push_cast[Lst.v,h1,h2,h3,h4]
  ·push_cast[Lst.v,h1,h2,h3,h4]
 ·push_cast[Lst.v,h1,h3]
def L0:Lst:=⟨0,0,[]⟩
def drI (x:Lst)(s:List UInt8):Int:=ix (fun x=>x.num == s) x.cues 0
def drE (x:Lst)(s:List UInt8):Int:=if ¬lstP x=0 then lstP x else numC s
def drC (x:Lst)(s:List UInt8):List Cu:=x.cues.take (drI x s).toNat++x.cues.drop ((drI x s).toNat+1)
def drL (x:Lst)(s:List UInt8):Lst:=if drE x s=0 then if 0≤drI x s then⟨x.num,x.prio,drC x s⟩ else x else L0
def drB (x:Lst)(s:List UInt8):Bool:=decide (drE x s=0)&&decide (0≤drI x s)
theorem f97 {x:Lst}(h:x.ok)(hl:x.cues.length<1000){s:List UInt8}(hs:s.length<140737488355328){st:St}:run Tryz.prog HH 97 [x.v,.str s] st=some (.ret (.tup [(drL x s).v,.bool (drB x s),.int .i64 (drE x s)]),st):=by
 have h166:=fun(st:St)=>f166 (st:=st) h hs
 have h168:=fun(st:St)=>r_cln (k:=168) (e:=35) (es:=9) (b:=120) (f:=Cu.v) (l:=x.cues) (st:=st) (fun _ _=>rfl) (fun _=>rfl) (fun _=>rfl) (by omega) (by omega)
 rw[run_shut F97 rfl rfl (by simp)]
 by_cases h3:lstP x=0
 ·by_cases h4:numC s=0
  ·have hE:drE x s=0:=by rw[drE,if_neg (by simp[h3]),h4]
   rcases ix_rng (p:=fun c:Cu=>c.num == s) (l:=x.cues) (j:=0) with h5|h5
   ·have h6:¬0≤drI x s:=by rw[drI,h5];omega
    have hL:drL x s=x:=by rw[drL,if_pos hE,if_neg h6]
    have hB:drB x s=false:=by rw[drB,decide_eq_false h6,Bool.and_false]
    push_cast[Lst.v,h3,h4,h5]at h166
    push_cast[Lst.v,h166,hE,hL,hB]
   ·obtain⟨i,hi⟩:∃i:Nat,ix (fun c:Cu=>c.num == s) x.cues 0=i:=⟨(ix (fun c:Cu=>c.num == s) x.cues 0).toNat,by omega⟩
    have h6:0≤drI x s:=by rw[drI,hi];omega
    have h7:i<x.cues.length:=by omega
    have hL:drL x s=⟨x.num,x.prio,x.cues.take i++x.cues.drop (i+1)⟩:=by rw[drL,if_pos hE,if_pos h6,drC,drI,hi,Int.toNat_natCast]
    have hB:drB x s=true:=by rw[drB,hE,decide_eq_true h6];rfl
    have hw:IntKind.i64.wrap ((i:Int)+1)=((i+1:Nat):Int):=iwrap (by omega) (by omega)
    have hn:¬(i:Int)<0:=by omega
    have e6:(x.cues.map Cu.v).take i++(x.cues.map Cu.v).drop (i+1)=(x.cues.take i++x.cues.drop (i+1)).map Cu.v:=by simp
    have e3:x.cues.length-1=(x.cues.take i++x.cues.drop (i+1)).length:=by simp;omega
    generalize hz:x.cues.take i++x.cues.drop (i+1)=z at *
    push_cast[Lst.v,h3,h4,hi,hn]at h166
    push_cast[Cu.v]at h168
    push_cast[Lst.v,h166,h168,hE,hL,hB,hw]
    rw[show((i:Int)+1)=((i+1:Nat):Int) by omega,r_del (e:=35) (es:=9) (n:=x.cues.length) (i:=i) (xs:=x.cues.map Cu.v) (fun _ _=>rfl) rfl (by simp) h7,e6]
    push_cast[e3,delA]
  ·have hE:drE x s=numC s:=by rw[drE,if_neg (by simp[h3])]
   have hL:drL x s=L0:=if_neg (by rw[hE];exact h4)
   have hB:drB x s=false:=by rw[drB,hE,decide_eq_false h4,Bool.false_and]
   push_cast[Lst.v,h3,h4]at h166
   push_cast[Lst.v,h166,h4,hE,hL,hB,L0,List.map_nil]
 ·have hE:drE x s=lstP x:=if_pos h3
  have hL:drL x s=L0:=if_neg (by rw[hE];exact h3)
  have hB:drB x s=false:=by rw[drB,hE,decide_eq_false h3,Bool.false_and]
  push_cast[Lst.v,h3]at h166
  push_cast[Lst.v,h166,h3,hE,hL,hB,L0,List.map_nil]
end Go.Proofs.YtaneehgfdpadjaaGreatDoor

namespace Go.Proofs.YtaneehgfdpadjaaGreatDoor
open Go.Sha
set_option maxRecDepth 100000
variable {g:List (Nat×Obj)}{n:Nat}
def memV:List Nat:=[138,157,243]
noncomputable def HV:EvF:=⟨[103,113,173,179,183,265,270,241,243],fun f args st=>bif Nat.beq f 158 then hOpn Tryz.prog HU 158 args st else bif memL f memV then run Tryz.prog HU f args st else none⟩
@[push_cast]theorem HV_raw:HV.raw=[103,113,173,179,183,265,270,241,243]:=idq rfl
theorem HV_ok (h1:ESound Tryz.prog HH):ESound Tryz.prog HV:=fun f args st r s h=>by
 simp only[HV]at h
 cases h2:Nat.beq f 158 with
 |true=>rw[h2]at h;rw[Nat.eq_of_beq_eq_true h2];exact opn_ok mixed (HU_ok h1) h
 |false =>
  rw[h2]at h
  cases hi:memL f memV with
  |false=>rw[hi]at h;cases h
  |true=>rw[hi]at h;exact run_sound mixed (HU_ok h1) _ _ _ _ _ h
theorem upV {k:Nat}{args:List V}{st:St}{r:VRes×St}(h:run Tryz.prog HU k args st=some r)(h1:Nat.beq k 158=false:=by rfl)(h3:memL k memV=true:=by rfl):run Tryz.prog HV k args st=some r:=by
 refine run_H ?_
 simp only[HV,h1,h3,cond_false,cond_true,h]
theorem e158 {x:Lst}{s:List UInt8}(hl:x.cues.length<1000):run Tryz.prog HV 158 [x.v,.str s] (st94 g)=some (.ret (.osl 6 (woC s x.cues).length),st94' g (woC s x.cues)):=run_H (o158 hl)
theorem e243 {k id:Nat}{M:List (Nat×List V)}(hid:id<k){l:List Cu}(hol:∀q∈l,q.ok)(hN:l.length<13):run Tryz.prog HV 243 [.osl id l.length,cmpV] (stC g k M id l)=some (.ret (.tup []),stC g k M id (isort ltC l)):=upV (upU (f243 hid hol hN))
def puE (x:Lst)(c:Cu):Int:=if ¬lstP x=0 then lstP x else cueP c
def puL (x:Lst)(c:Cu):Lst:=⟨x.num,x.prio,isort ltC (woC c.num x.cues++[c])⟩
theorem woC_len {s:List UInt8}{l:List Cu}:(woC s l).length≤l.length:=List.length_filter_le _ _
theorem f159 {x:Lst}{l:List Cu}(hol:∀q∈l,q.ok)(hl:l.length<13):run Tryz.prog HV 159 [x.v,.osl 6 l.length] ⟨7,[(2,[.i 0,.i 0,.nils])],[(6,⟨35,9,l.map Cu.v,true,false⟩)],⟨[],g,[]⟩⟩=some (.ret (.agg [.int .i64 x.num,.int .i64 x.prio,.osl 6 l.length]),⟨7,[(2,[.i 0,.i 0,.nils])],[(6,⟨35,9,(isort ltC l).map Cu.v,true,false⟩)],⟨[],g,[]⟩⟩):=by
 have h243:=fun k M hid=>e243 (g:=g) (k:=k) (id:=6) (M:=M) hid hol hl
 have hlen:(isort ltC l).length=l.length:=isort_len
 have h6:∀k,6<k+7:=fun k=>by omega
 rw[run_open F159 rfl rfl (by simp[V.bdL,V.bd])]
 push_cast at h243
 push_cast[Lst.v,h243,hlen]
 simp[consO,V.bd,V.bdL]
theorem f94 {x:Lst}{c:Cu}(hx:x.ok)(hc:c.ok)(hl:x.cues.length<12){st:St}:run Tryz.prog HV 94 [x.v,c.v] st=some (.ret (.tup [(if puE x c=0 then puL x c else L0).v,.int .i64 (puE x c)]),st):=by
 have h138:=fun(st:St)=>upV (upU (f138 hx (st:=st)))
 have h157:=fun(st:St)=>upV (upU (f157 hc (st:=st)))
 have h158:=fun g=>e158 (g:=g) (x:=x) (s:=c.num) (by omega)
 unfold st94 st94' at h158
 have hwl:=woC_len (s:=c.num) (l:=x.cues)
 have hok:∀q∈woC c.num x.cues++[c],q.ok:=fun q hq=>by
  rcases List.mem_append.1 hq with h|h
  ·exact hx.2 q (List.mem_filter.1 h).1
  ·rw[List.mem_singleton.1 h];exact hc
 have h243:=fun k id M hid=>e243 (g:=st.x.gl) (k:=k) (id:=id) (M:=M) hid hok (by simp;omega)
 rw[run_shut F94 rfl rfl (by simp)]
 push_cast[Lst.v,Cu.v]at h138 h157 h158
 by_cases c1:lstP x=0
 ·have e1:puE x c=cueP c:=if_neg (by simp[c1])
  by_cases c2:cueP c=0
  ·have hro:roomV ((woC c.num x.cues).length+1) 120=true:=roomV_lit (by omega) (by omega)
   have h64:¬(64:Int)<((woC c.num x.cues).length:Int)+1:=by omega
   have h159:=fun g=>f159 (g:=g) (x:=x) hok (by simp;omega)
   have hlen:(isort ltC (woC c.num x.cues++[c])).length=(woC c.num x.cues).length+1:=by rw[isort_len];simp
   generalize hz:isort ltC (woC c.num x.cues++[c])=z at *
   simp only[List.length_append,List.length_cons,List.length_nil,Nat.zero_add,List.map_append,List.map_cons,List.map_nil]at h159
   push_cast[Lst.v,Cu.v]at h159
   push_cast[Lst.v,Cu.v,h138,h157,c1,c2,e1,h158,hro,h64,h159,hlen,puL,hz]
  ·push_cast[Lst.v,Cu.v,h138,h157,c1,c2,e1,L0,List.map_nil]
 ·have e1:puE x c=lstP x:=if_pos c1
  push_cast[Lst.v,Cu.v,h138,c1,e1,L0,List.map_nil]
end Go.Proofs.YtaneehgfdpadjaaGreatDoor

namespace Go.Proofs.YtaneehgfdpadjaaGreatDoor
open Go.Sha
set_option maxRecDepth 100000
variable {g:List (Nat×Obj)}{n:Nat}
def memP:List Nat:=[156,102,96,97,98]
noncomputable def HP:EvF:=⟨HH.raw,fun f args st=>bif Nat.beq f 94 then run Tryz.prog HV f args st else bif memL f memP then run Tryz.prog HH f args st else none⟩
@[push_cast]theorem HP_raw:HP.raw=[103,113,173,179,183,265,270]:=idq rfl
theorem HP_ok (h1:ESound Tryz.prog HH):ESound Tryz.prog HP:=fun f args st r s h=>by
 simp only[HP]at h
 cases h2:Nat.beq f 94 with
 |true=>rw[h2]at h;exact run_sound mixed (HV_ok h1) _ _ _ _ _ h
 |false =>
  rw[h2]at h
  cases hi:memL f memP with
  |false=>rw[hi]at h;cases h
  |true=>rw[hi]at h;exact run_sound mixed h1 _ _ _ _ _ h
theorem upP {k:Nat}{args:List V}{st:St}{r:VRes×St}(h:run Tryz.prog HH k args st=some r)(h1:Nat.beq k 94=false:=by rfl)(h3:memL k memP=true:=by rfl):run Tryz.prog HP k args st=some r:=by
 refine run_H ?_
 simp only[HP,h1,h3,cond_false,cond_true,h]
theorem e94 {x:Lst}{c:Cu}(hx:x.ok)(hc:c.ok)(hl:x.cues.length<12){st:St}:run Tryz.prog HP 94 [x.v,c.v] st=some (.ret (.tup [(if puE x c=0 then puL x c else L0).v,.int .i64 (puE x c)]),st):=run_H (by
 simp only[HP,show Nat.beq 94 94=true from rfl,cond_true];exact f94 hx hc hl)
theorem f93 {s:Sho}{e:Edi}{y:Lst}(hy:y.ok)(hc:e.cue.ok)(hl:y.cues.length<12) :
  run Tryz.prog HP 93 [y.v,.ep (.agg [.ptr 3 0]) 0] (stF g s e)=some (.ret (.tup [(if puE y e.cue=0 then puL y e.cue else L0).v,.int .i64 (puE y e.cue)]),stF g s e):=by
 have h94:=fun(st:St)=>e94 hy hc hl (st:=st)
 generalize (if puE y e.cue=0 then puL y e.cue else L0)=z at *
 generalize puE y e.cue=c at *
 unfold stF
 rw[edC_eq]
 rw[run_open F93 rfl rfl (by simp)]
 push_cast[Lst.v,Cu.v]at h94
 push_cast[Lst.v,Cu.v,h94]
def goE (y:Lst)(k:List UInt8):Int:=if ¬numC k=0 then numC k else gonE (drB y k) (drE y k)
def goL (y:Lst)(k:List UInt8):Lst:=if numC k=0 then drL y k else L0
theorem f95 {s:Sho}{e:Edi}{y:Lst}(hy:y.ok)(hl:y.cues.length<1000)(hk:e.key.length<140737488355328) :
  run Tryz.prog HP 95 [y.v,.ep (.agg [.ptr 3 0]) 0] (stF g s e)=some (.ret (.tup [(goL y e.key).v,.int .i64 (goE y e.key)]),stF g s e):=by
 have h96:=fun(st:St)=>upP (f96 (s:=e.key) hk (st:=st))
 have h97:=fun(st:St)=>upP (f97 hy hl hk (st:=st))
 have h98:=fun(b:Bool) (c:Int) (st:St)=>upP (f98 (b:=b) (c:=c) (st:=st))
 by_cases c1:numC e.key=0
 ·have e1:goE y e.key=gonE (drB y e.key) (drE y e.key):=if_neg (by simp[c1])
  have e2:goL y e.key=drL y e.key:=if_pos c1
  unfold stF
  rw[edC_eq,e1,e2]
  rw[run_open F95 rfl rfl (by simp)]
  generalize drL y e.key=z at *
  push_cast[Lst.v]at h97
  push_cast[Lst.v,h96,h97,h98,c1]
 ·have e1:goE y e.key=numC e.key:=if_pos c1
  have e2:goL y e.key=L0:=if_neg c1
  unfold stF
  rw[edC_eq,e1,e2]
  rw[run_open F95 rfl rfl (by simp)]
  push_cast[Lst.v,h96,c1,L0,List.map_nil]
theorem f94c {s:Sho}{e:Edi}{k i:Nat}(hk:k=93∨k=95){y y':Lst}{c:Int}(hs:s.ok)(hl:s.lsts.length<1000000)(c1:fndC s e.num=0)(hi:lstI s.lsts e.num=i)(hy:s.lsts[i]?=some y)
  (hC:run Tryz.prog HP k [y.v,.ep (.agg [.ptr 3 0]) 0] (stF g s e)=some (.ret (.tup [y'.v,.int .i64 c]),stF g s e)) :
  hCls (run Tryz.prog HP) 92 [.ptr 3 0,.fn (.func k) [] [.ep (.agg [.ptr 3 0]) 0]] (stF g s e)=some (.ret (.int .i64 c),stF g { s with lsts:=if c=0 then s.lsts.set i y' else s.lsts } e):=by
 have h158:=fun(st:St)=>upP (f156 (v:=e.num) hs (by omega) (st:=st))
 have h104:=fun(st:St)=>upP (r_cln (k:=102) (e:=97) (es:=3) (b:=40) (f:=Lst.v) (l:=s.lsts) (st:=st) (fun _ _=>rfl) (fun _=>rfl) (fun _=>rfl) (by omega) (by omega))
 rw[hi]at h158
 have hlt:i<s.lsts.length:=(List.getElem?_eq_some_iff.1 hy).1
 have i2:(i:Int)<s.lsts.length:=by omega
 have hyD:s.lsts.getD i default=y:=by rw[List.getD_eq_getElem?_getD,hy];rfl
 push_cast[Sho.v,Lst.v]at h158 h104
 by_cases c3:c=0
 ·rw[c3]at hC ⊢
  rw[if_pos rfl]
  have hset:(s.lsts.map Lst.v).set i y'.v=(s.lsts.set i y').map Lst.v:=by rw[List.map_set]
  have hraw:run Tryz.prog HP 92 [.ptr 3 0,.fn (.func k) [] [.ep (.agg [.ptr 3 0]) 0]] (stF g s e)=some (.ret (.int .i64 0),⟨8,[(3,(edC s e).set 6 (.osl 7 (s.lsts.set i y').length)),(2,[.str [],.nils,.nils,.nils,.nils,.nils,.nils,.nils,.nils])],[(7,⟨97,3,(s.lsts.set i y').map Lst.v,true,false⟩)],⟨[],g,[]⟩⟩):=by
   unfold stF at hC ⊢
   rw[edC_eq]at hC ⊢
   rw[run_open F92 rfl rfl (by simp)]
   push_cast[Lst.v]at hset
   rcases hk with rfl|rfl
   all_goals
    push_cast[Lst.v]at hC
    push_cast[h158,c1,hlt,i2,hy,hyD,hC,h104,updM,Lst.v,V.cells,V.recell,stoB,hset,List.length_set,List.set_cons_succ,List.set_cons_zero]
  rw[hCls,hraw]
  generalize s.lsts.set i y'=L
  push_cast[stF,edC_eq,clsS,clsK,frzA,frzK,clsV,snap1,List.map,List.set_cons_succ,List.set_cons_zero]
 ·rw[if_neg c3]
  have hraw:run Tryz.prog HP 92 [.ptr 3 0,.fn (.func k) [] [.ep (.agg [.ptr 3 0]) 0]] (stF g s e)=some (.ret (.int .i64 c),stF g s e):=by
   unfold stF at hC ⊢
   rw[edC_eq]at hC ⊢
   rw[run_open F92 rfl rfl (by simp)]
   rcases hk with rfl|rfl
   all_goals
    push_cast[Lst.v]at hC
    push_cast[h158,c1,hlt,i2,hy,hyD,hC,c3,updM,Lst.v]
  rw[hCls,hraw]
  push_cast[stF,edC_eq,clsS,clsK,frzA,frzK,clsV,List.map]
theorem f94n {s:Sho}{e:Edi}{k:Nat}(hs:s.ok)(hl:s.lsts.length<1000000)(c1:¬fndC s e.num=0) :
  hCls (run Tryz.prog HP) 92 [.ptr 3 0,.fn (.func k) [] [.ep (.agg [.ptr 3 0]) 0]] (stF g s e)=some (.ret (.int .i64 (fndC s e.num)),stF g s e):=by
 have h158:=fun(st:St)=>upP (f156 (v:=e.num) hs (by omega) (st:=st))
 push_cast[Sho.v,Lst.v]at h158
 have hraw:run Tryz.prog HP 92 [.ptr 3 0,.fn (.func k) [] [.ep (.agg [.ptr 3 0]) 0]] (stF g s e)=some (.ret (.int .i64 (fndC s e.num)),stF g s e):=by
  unfold stF
  rw[edC_eq]
  rw[run_open F92 rfl rfl (by simp)]
  push_cast[h158,c1,updM]
 rw[hCls,hraw]
 push_cast[stF,edC_eq,clsS,clsK,frzA,frzK,clsV,List.map]
end Go.Proofs.YtaneehgfdpadjaaGreatDoor

