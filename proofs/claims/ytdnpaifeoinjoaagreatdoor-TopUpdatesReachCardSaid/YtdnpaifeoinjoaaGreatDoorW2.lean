/- Entries, and what is dark in them, by the program. Looks are right entries. Marked looks differ from looks at early moves alone. The law on the dark: looks against marked looks. Edits of lists, by the .. -/
import Derived.Test.YtdnpaifeoinjoaaGreatDoorW1
import Derived.Test.YtdnpaifeoinjoaaGreatDoorWShbYB
import Derived.Test.YtdnpaifeoinjoaaGreatDoorProg
import Derived.KernelRfl
import Derived.Shelf.Small.Bits
import Derived.Shelf.Strconv.Atoi
import Derived.Shelf.Strconv.Itoa0
import Derived.Shelf.Strconv.Itoa1
import Derived.Shelf.LaysM
import Derived.Shelf.Strconv.Itoa2
import Derived.Shelf.Strconv.Itoa3
import Derived.Shelf.Strconv.AtoiErrFast
import Derived.Shelf.Strconv.ParseIntEmpty
import Derived.Shelf.Strconv.AtoiFail
import Derived.Shelf.Strconv.Clone
import Derived.Shelf.Strconv.SyntaxError
import Derived.Shelf.LaysC
import Derived.Shelf.Strconv.ToError
import Derived.Shelf.Strconv.Lower
import Derived.Shelf.Strconv.ParseUint10
import Derived.Shelf.Strconv.ParseUint10Empty
import Derived.Shelf.Strconv.ParseUint10Any
import Derived.Shelf.Strconv.ParseInt10
import Derived.Shelf.Strconv.AtoiLong
import Derived.Shelf.Strconv.AtoiInnerAll
import Derived.Shelf.Strconv.RangeError
import Derived.Shelf.Strconv.ToErrorRange
import Derived.Shelf.Strconv.AtoiAll
import Derived.Shelf.Strings.Search1
import Derived.Shelf.Strings.Search2
import Derived.Shelf.Strings.Cut
import Derived.Shelf.Strings.Shaped
import Derived.Shelf.GgClosure.StringsIndexFunc
import Derived.Ground.GgwProg
import Derived.Shelf.GgClosure.StringsIndexFuncTop
import Derived.Shelf.Strings.Prefix
import Derived.Shelf.SlGeneric
import Derived.Ground.SlsfProg
import Derived.Shelf.SlSortCmp.NoneTotal
import Derived.Test.YtdnpaifeoinjoaaGreatDoorWShbXE
import Derived.Lib.AtoiAllCases
import Derived.Laws.RangeAny
import Derived.Test.YtdnpaifeoinjoaaGreatDoorWShbEK
import Derived.Test.YtdnpaifeoinjoaaGreatDoorWShbXP
import Derived.Test.YtdnpaifeoinjoaaGreatDoorCards
import Derived.Test.YtdnpaifeoinjoaaGreatDoorWShbAC
import Derived.SizedLaws
import Derived.WalkKit
import Derived.ProofKit
import Derived.OpenShut
import Derived.ChangeMaps5
import Derived.LaidLaws
import Derived.LaidHandle
import Derived.Lay
import Derived.SevenTiedAt
set_option linter.unusedSimpArgs false
set_option linter.unusedVariables false
namespace Go.Proofs.YtdnpaifeoinjoaaGreatDoor
open Go.Sha
set_option maxRecDepth 100000
variable {g:List (Nat×Obj)}{n:Nat}
theorem f85 {q:Prm}{c:Int}{st:St}:run Tryz.prog HH 85 [q.v,.int .i64 c] st=some (.ret (.int .i64 (prmC c q)),st):=by
 rw[run_shut F85 rfl rfl (by simp)]
 push_cast[Prm.v,prmC]
 all_goals first|with_reducible rfl|exact dn_eq (by omega) (by with_reducible rfl)|((repeat' split)<;>(try simp_all)<;>(try (with_reducible refine dn_eq ?_ ?_<;>first|trivial|omega|rfl))<;>(try omega))
theorem f89 {x y:Prm}{st:St}:run Tryz.prog HH 89 [x.v,y.v] st=some (.ret (.int .i64 (cmpP x y)),st):=by
 rw[run_shut F89 rfl rfl (by simp)]
 push_cast[Prm.v,cmpP]
 all_goals first|with_reducible rfl|exact dn_eq (by omega) (by with_reducible rfl)|((repeat' split)<;>(try simp_all)<;>(try (with_reducible refine dn_eq ?_ ?_<;>first|trivial|omega|rfl))<;>(try omega))
def entC (e:Prm×Val):Int:=if ¬prmC 1 e.1=0 then prmC 1 e.1 else valC e.2
theorem f84 {e:Prm×Val}{st:St}:run Tryz.prog HH 84 [entV e] st=some (.ret (.int .i64 (entC e)),st):=by
 have h1:=fun(st:St)=>f85 (q:=e.1) (c:=1) (st:=st)
 have h2:=fun(st:St)=>f86 (x:=e.2) (st:=st)
 unfold entC
 rw[run_shut F84 rfl rfl (by simp)]
 push_cast[Prm.v,Val.v]at h1 h2
 by_cases h:prmC 1 e.1=0
 ·push_cast[entV,Prm.v,Val.v,h1,h2,h]
 ·push_cast[entV,Prm.v,Val.v,h1,h2,h]
theorem f88 {a b:Prm×Val}{st:St}:run Tryz.prog HH 88 [entV a,entV b] st=some (.ret (.int .i64 (cmpP a.1 b.1)),st):=by
 have h1:=fun(st:St)=>f89 (x:=a.1) (y:=b.1) (st:=st)
 rw[run_shut F88 rfl rfl (by simp)]
 push_cast[Prm.v]at h1
 push_cast[entV,Prm.v,Val.v,h1]
def enP (l:List (Prm×Val)):List (Prm×Val)→Nat→Int
 |[],_=>0
 |e::r,j=>if ¬entC e=0 then entC e else if 0<j∧0≤cmpP (l.getD (j-1) default).1 e.1 then 9 else enP l r (j+1)
theorem L87 {l:List (Prm×Val)}(hl:l.length<140737488355328):∀r j,l.drop j=r→runL Tryz.prog HH [0,2,3,16,17,18] n B87_0 [(0,.sl (l.map entV)),(2,.fn (.func 84) [] []),(3,.fn (.func 88) [] []),(16,.sl (l.map entV)),(17,.int .i64 l.length),(18,.int .i64 j)] (stN g n)=lpX 0 (stN g n) [] 8 (enP l r j):=by
 refine drop_ind (fun j h=>?_) (fun e r j h hx hd ih=>?_)
 all_goals rw[runL_of B87_0.eq_1]
 ·have h1:¬(j:Int)<l.length:=by omega
  push_cast[h1,enP,lps]
 ·have h1:(j:Int)<l.length:=by omega
  have hw:=iw1 (j:=j) (by omega)
  have h84:=fun(st:St)=>f84 (e:=e) (st:=st)
  rw[enP]
  by_cases hc:entC e=0
  ·rw[hc]at h84
   by_cases hj0:j=0
   ·subst hj0
    have e2:¬(¬entC e=0):=by simp[hc]
    have h1z:(0:Int)<(l.length:Int):=by omega
    rw[if_neg e2,if_neg (by omega)]
    push_cast[entV]at h84
    push_cast[h,h1z,hw,hx,h84,entV]at ih ⊢
    exact ih
   ·have e2:¬(¬entC e=0):=by simp[hc]
    rw[if_neg e2]
    obtain⟨p,hp⟩:∃p,p=j-1:=⟨_,rfl⟩
    rw[←hp]
    have hpl:p<l.length:=by omega
    have hp0:(0:Int)<(j:Int):=by omega
    have hp1:(j:Int)-1=(p:Int):=by omega
    have hwp:IntKind.i64.wrap (p:Int)=(p:Int):=iwrap (by omega) (by omega)
    have hg:∀d,l.getD p d=l.getD p default:=fun d=>by rw[List.getD_eq_getElem?_getD,List.getD_eq_getElem?_getD,List.getElem?_eq_getElem hpl];rfl
    generalize l.getD p default=y at *
    have h88:=fun(st:St)=>f88 (a:=y) (b:=e) (st:=st)
    by_cases hq:0≤cmpP y.1 e.1
    ·rw[if_pos ⟨by omega,hq⟩]
     push_cast[entV]at h84 h88
     push_cast[h,h1,hw,hx,h84,h88,hg,hpl,hp0,hp1,hwp,hq,lps,entV]
     exact dn_eq (by omega) rfl
    ·rw[if_neg (fun h=>hq h.2)]
     push_cast[entV]at h84 h88
     push_cast[h,h1,hw,hx,h84,h88,hg,hpl,hp0,hp1,hwp,hq,entV]at ih ⊢
     exact dn_eq (by omega) ih
  ·rw[if_pos hc]
   generalize entC e=z at *
   push_cast[entV]at h84
   push_cast[h1,hw,hx,h84,hc,lps,entV]
def enS (l:List (Prm×Val)):Int:=if 4096<(l.length:Int) then 5 else enP l l 0
theorem f43 {l:List (Prm×Val)}(hl:l.length<140737488355328){st:St}:run Tryz.prog HH 43 [.sl (l.map entV)] st=some (.ret (.int .i64 (enS l)),st):=by
 have h87:∀st:St,run Tryz.prog HH 87 [.sl (l.map entV),.int .i64 4096,.fn (.func 84) [] [],.fn (.func 88) [] []] st=some (.ret (.int .i64 (enS l)),st):=fun st=>by
  have hL:=L87 (g:=st.x.gl) (n:=0) hl _ 0 rfl
  rw[List.drop_zero]at hL
  unfold enS
  rw[run_shut F87 rfl rfl (by simp)]
  by_cases h:4096<(l.length:Int)
  ·push_cast[h]
  ·rw[if_neg h]
   by_cases hz:enP l l 0=0
   ·rw[hz]at hL ⊢
    push_cast[lps]at hL
    push_cast[h,hL]
   ·push_cast[lps,hz]at hL
    push_cast[h,hL]
 rw[run_shut F43 rfl rfl (by simp)]
 push_cast[h87]
end Go.Proofs.YtdnpaifeoinjoaaGreatDoor

namespace Go.Proofs.YtdnpaifeoinjoaaGreatDoor
open Go.Sha
variable {x:Lst}
theorem val_ok (h:lstP x=0){p:Prm}:∀{k:Nat},k<x.cues.length→valC (valF x.cues p k)=0:=by
 have hf:=cue_fld h
 have h1:∀k,k<x.cues.length→∀v,movF (x.cues.getD k default).moves p=some v→valC v=0:=fun k hk v hv=>by
  have hc:x.cues.getD k default∈x.cues:=by rw[List.getD_eq_getElem?_getD,List.getElem?_eq_getElem hk];exact List.getElem_mem hk
  unfold movF at hv
  obtain⟨m,hm,rfl⟩:=Option.map_eq_some_iff.1 hv
  exact(hf _ hc m (List.mem_of_find?_eq_some hm)).1
 intro k
 induction k with
 |zero =>
  intro hk
  rw[valF]
  cases hv:movF (x.cues.getD 0 default).moves p with
  |none=>rfl
  |some v=>exact h1 0 hk v hv
 |succ k ih =>
  intro hk
  rw[valF]
  cases hv:movF (x.cues.getD (k+1) default).moves p with
  |none =>
   dsimp only
   split
   ·rfl
   ·exact ih (by omega)
  |some v=>exact h1 (k+1) hk v hv
theorem ftpL_asc (h:lstP x=0):(ftpL x).Pairwise fun a b=>cmpP a b<0:=by
 have h1:(ftpL x).Pairwise (fun a b=>leP a b=true):=sortO_sorted
 have h2:(ftpL x).Pairwise (fun a b=>a≠b):=ftpL_nodup
 have hr:=ftpL_rng h
 refine(h1.and h2).imp_of_mem ?_
 intro a b ha hb ⟨h3,h4⟩
 have ra:=prm_rng (hr a ha)
 have rb:=prm_rng (hr b hb)
 obtain⟨ac,aa⟩:=a
 obtain⟨bc,ba⟩:=b
 simp only at ra rb
 have h5:¬(ac=bc∧aa=ba):=fun e=>h4 (by rw[e.1,e.2])
 rw[leP_iff]at h3
 unfold cmpP
 dsimp only at h3 ⊢
 split
 ·rw[iwrap (by omega) (by omega)];omega
 ·rw[iwrap (by omega) (by omega)];omega
theorem enP_ok {l:List (Prm×Val)}(h1:∀e∈l,entC e=0)(h2:l.Pairwise fun a b=>cmpP a.1 b.1<0):∀r j,l.drop j=r→enP l r j=0
 |[],_,_=>rfl
 |e::r,j,hd=>by
  have hj:j<l.length:=by
   rcases Nat.lt_or_ge j l.length with h|h
   ·exact h
   ·rw[List.drop_eq_nil_of_le h]at hd;cases hd
  have hje:l[j]?=some e:=by rw[←List.head?_drop,hd];rfl
  have he:e∈l:=List.mem_of_getElem? hje
  have hd2:l.drop (j+1)=r:=by rw[←List.drop_drop,hd];rfl
  rw[enP,if_neg (by simp[h1 e he]),if_neg,enP_ok h1 h2 r (j+1) hd2]
  rintro⟨h0,hc⟩
  have hk:j-1<l.length:=by omega
  have h3:=List.pairwise_iff_getElem.1 h2 (j-1) j hk hj (by omega)
  rw[List.getD_eq_getElem?_getD,List.getElem?_eq_getElem hk]at hc
  rw[List.getElem?_eq_getElem hj]at hje
  rw[Option.some.inj hje]at h3
  simp only[Option.getD_some]at hc
  omega
end Go.Proofs.YtdnpaifeoinjoaaGreatDoor

namespace Go.Proofs.YtdnpaifeoinjoaaGreatDoor
open Go.Sha
set_option maxRecDepth 100000
variable {x:Lst}
theorem ix_holds {α:Type}{p:α→Bool}:∀{l:List α}{j t:Nat},ix p l j=((j+t:Nat):Int)→∃y,l[t]?=some y∧p y=true
 |[],j,t,h=>by rw[ix]at h;omega
 |y::r,j,t,h=>by
  rw[ix]at h
  by_cases hp:p y=true
  ·rw[if_pos hp]at h
   obtain rfl:t=0:=by omega
   exact⟨y,rfl,hp⟩
  ·rw[if_neg hp]at h
   cases t with
   |zero =>
    rcases ix_rng (p:=p) (l:=r) (j:=j+1) with h2|h2<;>omega
   |succ t =>
    obtain⟨z,h1,h2⟩:=ix_holds (l:=r) (j:=j+1) (t:=t) (by rw[h];omega)
    exact⟨z,h1,h2⟩
theorem setM_at {M:List (Prm×Val)}{q:Mov}{i:Nat}{e:Prm×Val}(h:M[i]?=some e):(setM M q)[i]?=some e∨q.prm=e.1∧(setM M q)[i]?=some (e.1,q.val):=by
 unfold setM
 split
 ·rename_i h0
  obtain⟨t,ht⟩:∃t:Nat,ix (fun e:Prm×Val=>decide (e.1=q.prm)) M 0=((0+t:Nat):Int):=⟨(ix (fun e:Prm×Val=>decide (e.1=q.prm)) M 0).toNat,by omega⟩
  obtain⟨y,y1,y2⟩:=ix_holds ht
  have e1:(ix (fun e:Prm×Val=>decide (e.1=q.prm)) M 0).toNat=t:=by omega
  rw[e1]
  by_cases hi:t=i
  ·subst hi
   rw[h]at y1;cases y1
   right
   have hl:=(List.getElem?_eq_some_iff.1 h).1
   refine⟨(of_decide_eq_true y2).symm,?_⟩
   rw[List.getElem?_set_self hl,List.getD_eq_getElem?_getD,h];rfl
  ·left;rw[List.getElem?_set_ne hi];exact h
 ·exact .inl h
theorem setMs_at:∀{E:List Mov}{M:List (Prm×Val)}{i:Nat}{e:Prm×Val},M[i]?=some e→∃v,(E.foldl setM M)[i]?=some (e.1,v)∧(v=e.2∨∃q∈E,q.prm=e.1∧q.val=v)
 |[],M,i,e,h=>⟨e.2,h,.inl rfl⟩
 |q::r,M,i,e,h=>by
  rw[List.foldl_cons]
  rcases setM_at (q:=q) h with h1|⟨h1,h2⟩
  ·obtain⟨v,v1,v2⟩:=setMs_at (E:=r) h1
   exact⟨v,v1,v2.imp_right fun⟨q,q1,q2⟩=>⟨q,List.mem_cons_of_mem _ q1,q2⟩⟩
  ·obtain⟨v,v1,v2⟩:=setMs_at (E:=r) h2
   refine⟨v,v1,?_⟩
   rcases v2 with v2|⟨q',q1,q2,q3⟩
   ·exact .inr ⟨q,List.mem_cons_self ..,h1,v2.symm⟩
   ·exact .inr ⟨q',List.mem_cons_of_mem _ q1,q2,q3⟩
structure MkD (x:Lst) (k:Nat) (a:List V) (E:List Mov):Prop where
 w:W16 a
 lit:∀st,run Tryz.prog HH 57 [.sl ((entL x k).map entV)] st=some (.ret (.agg a),st)
 len:E.length≤1000
 ear:∀q∈E,(k+1<x.cues.length∧q∈(x.cues.getD (k+1) default).moves)∧¬q.prm.attr=0∧∀st,run Tryz.prog HH 58 [.agg a,.int .i64 q.prm.chan] st=some (.ret (.bool false),st)
 out:∀st,run Tryz.prog HH 36 [.agg [.sl (x.cues.map Cu.v),.sl ((lkL x).map entS)],.int .i64 k] st=some (.ret (.sl ((E.foldl setM (entL x k)).map entV)),st)
theorem MkD.at {k:Nat}{a:List V}{E:List Mov}(hD:MkD x k a E){i:Nat}{e:Prm×Val}(h:(entL x k)[i]?=some e) :
  ∃v,(E.foldl setM (entL x k))[i]?=some (e.1,v)∧(v=e.2∨¬e.1.attr=0∧∀st,run Tryz.prog HH 58 [.agg a,.int .i64 e.1.chan] st=some (.ret (.bool false),st)):=by
 obtain⟨v,v1,v2⟩:=setMs_at (E:=E) h
 refine⟨v,v1,v2.imp_right fun⟨q,q1,q2,_⟩=>?_⟩
 obtain⟨_,q3,q4⟩:=hD.ear q q1
 rw[q2]at q3 q4
 exact⟨q3,q4⟩
end Go.Proofs.YtdnpaifeoinjoaaGreatDoor

namespace Go.Proofs.YtdnpaifeoinjoaaGreatDoor
open Go.Sha
set_option maxRecDepth 100000
variable {g:List (Nat×Obj)}{n:Nat}{x:Lst}
end Go.Proofs.YtdnpaifeoinjoaaGreatDoor

namespace Go.Proofs.YtdnpaifeoinjoaaGreatDoor
open Go.Sha
set_option maxRecDepth 100000
variable {g:List (Nat×Obj)}{n:Nat}{x:Lst}
theorem f42 (h:lstP x=0)(hx:x.ok){k:Nat}(hk:k<x.cues.length){st:St}:run Tryz.prog HH 42 [x.v,.str (x.cues.getD k default).num] st=some (.ret (.tup [x.v,.int .i64 k,.int .i64 0]),st):=by
 obtain⟨p1,p2⟩:=plc_own h hk
 have hc:x.cues.getD k default∈x.cues:=by rw[List.getD_eq_getElem?_getD,List.getElem?_eq_getElem hk];exact List.getElem_mem hk
 have h67:=fun(st:St)=>f67 (x:=x) hx (s:=(x.cues.getD k default).num) (st:=st) (hx.b _ hc).a
 have hn:=(lst_parts h).2.2.2 _ hc
 have e:ix (fun c:Cu=>c.num == (x.cues.getD k default).num) x.cues 0=k:=by rw[plcV,if_pos p1]at p2;exact p2
 rw[e,if_neg (fun e=>e h),if_neg (fun e=>e hn),if_neg (by omega),decide_eq_true (show(0:Int)≤k by omega)]at h67
 generalize (x.cues.getD k default).num=s at *
 rw[run_shut F42 rfl rfl (by simp)]
 push_cast[Lst.v]at h67
 push_cast[Lst.v,h67]
end Go.Proofs.YtdnpaifeoinjoaaGreatDoor

namespace Go.Proofs.YtdnpaifeoinjoaaGreatDoor
open Go.Sha
set_option maxRecDepth 100000
variable {g:List (Nat×Obj)}{n:Nat}{x:Lst}
theorem f54 {st:St}:run Tryz.prog HH 54 [] st=some (.ret (.agg [.int .i64 (-1),.int .i64 0]),st):=by
 rw[run_shut F54 rfl rfl (by simp)]
 push_cast
 all_goals first|with_reducible rfl|exact dn_eq (by omega) (by with_reducible rfl)|((repeat' split)<;>(try simp_all)<;>(try (with_reducible refine dn_eq ?_ ?_<;>first|trivial|omega|rfl))<;>(try omega))
theorem f96 {m:Mov}{p:Prm}{st:St}:run Tryz.prog HH 96 [m.v,.ep p.v 0] st=some (.ret (.bool (decide (m.prm=p))),st):=by
 obtain⟨a,b⟩:=p
 obtain⟨⟨c,d⟩,u,z⟩:=m
 rw[run_shut F96 rfl rfl (by simp)]
 push_cast[Mov.v,Prm.v]
 have e:(c == a&&d == b)=decide ((⟨c,d⟩:Prm)=⟨a,b⟩):=by rw[Bool.eq_iff_iff];simp
 rw[e]
theorem f11p {l:List Mov}{p:Prm}(hl:l.length<140737488355328){st:St}:run Tryz.prog HH 11 [.sl (l.map Mov.v),.fn (.func 96) [] [.ep p.v 0]] st=some (.ret (.int .i64 (ix (fun m:Mov=>decide (m.prm=p)) l 0)),st) :=
 IxF (f:=Mov.v) (n:=some 5) (fun _=>rfl) (fun _=>rfl) F11 rfl (by simp) hl (fun q _ _=>f96) (fun _ _=>rfl) (fun _=>rfl)
theorem f95 {l:List Mov}{p:Prm}(hl:l.length<140737488355328){st:St}:run Tryz.prog HH 95 [.sl (l.map Mov.v),.fn (.func 96) [] [.ep p.v 0]] st=some (.ret (.bool (l.any fun m:Mov=>decide (m.prm=p))),st):=by
 have h11:=fun(st:St)=>f11p (l:=l) (p:=p) (st:=st) hl
 have e:decide (0≤ix (fun m:Mov=>decide (m.prm=p)) l 0)=l.any fun m:Mov=>decide (m.prm=p):=by
  rw[Bool.eq_iff_iff,decide_eq_true_iff,ix_ge]
 rw[←e]
 generalize ix (fun m:Mov=>decide (m.prm=p)) l 0=z at *
 rw[run_shut F95 rfl rfl (by simp)]
 push_cast[Prm.v]at h11
 push_cast[Prm.v,h11]
theorem f55 {k:Nat}(hk:k<x.cues.length)(hx:x.ok){p:Prm}{st:St}:run Tryz.prog HH 55 [x.v,.int .i64 k,p.v] st=some (.ret (.bool ((x.cues.getD k default).moves.any fun m:Mov=>decide (m.prm=p))),st):=by
 have hc:x.cues.getD k default∈x.cues:=by rw[List.getD_eq_getElem?_getD,List.getElem?_eq_getElem hk];exact List.getElem_mem hk
 have h95:=fun(st:St)=>f95 (l:=(x.cues.getD k default).moves) (p:=p) (st:=st) (hx.b _ hc).c
 have hg:∀d,x.cues.getD k d=x.cues.getD k default:=fun d=>by rw[List.getD_eq_getElem?_getD,List.getD_eq_getElem?_getD,List.getElem?_eq_getElem hk];rfl
 generalize x.cues.getD k default=c at *
 generalize (c.moves.any fun m:Mov=>decide (m.prm=p))=z at *
 have hk1:(k:Int)<x.cues.length:=by omega
 rw[run_shut F55 rfl rfl (by simp)]
 push_cast[Prm.v]at h95
 push_cast[Lst.v,Prm.v,Cu.v,hg,hk,hk1,h95]
end Go.Proofs.YtdnpaifeoinjoaaGreatDoor

namespace Go.Proofs.YtdnpaifeoinjoaaGreatDoor
open Go.Sha
set_option maxRecDepth 100000
variable {g:List (Nat×Obj)}{n:Nat}{x:Lst}
end Go.Proofs.YtdnpaifeoinjoaaGreatDoor

namespace Go.Proofs.YtdnpaifeoinjoaaGreatDoor
open Go.Sha
set_option maxRecDepth 100000
variable {g:List (Nat×Obj)}{n:Nat}{x:Lst}
def keepB (x:Lst)(k:Nat)(e:Prm×Val):Bool:=!(e.2.pal == -1&&e.2.lev == 0)&&!((x.cues.getD k default).moves.any fun m:Mov=>decide (m.prm=e.1))
theorem f53 {k:Nat}(hk:k<x.cues.length)(hx:x.ok){e:Prm×Val}{st:St}:run Tryz.prog HH 53 [entV e,.ep x.v 0,.ep (.agg [.int .i64 k]) 0] st=some (.ret (.bool (keepB x k e)),st):=by
 have h54:=fun(st:St)=>f54 (st:=st)
 have h55:=fun(st:St)=>f55 hk hx (p:=e.1) (st:=st)
 obtain⟨⟨pc,pa⟩,⟨vp,vl⟩⟩:=e
 unfold keepB
 generalize ((x.cues.getD k default).moves.any fun m:Mov=>decide (m.prm=⟨pc,pa⟩))=z at *
 rw[run_shut F53 rfl rfl (by simp)]
 push_cast[Lst.v,Prm.v]at h55
 cases hq:(vp == -1&&vl == 0) with
 |true=>push_cast[entV,Lst.v,Prm.v,h54,h55,hq]
 |false=>push_cast[entV,Lst.v,Prm.v,h54,h55,hq]
theorem L52 {k:Nat}(hk:k<x.cues.length)(hx:x.ok){l:List (Prm×Val)}(hl:l.length≤8192):∀r j,l.drop j=r→∀a:List (Prm×Val),a.length≤j →
  runL Tryz.prog HH [1,5,8,9,10] (n+1) B52_0 [(1,.fn (.func 53) [] [.ep x.v 0,.ep (.agg [.int .i64 k]) 0]),(5,.osl n a.length),(8,.sl (l.map entV)),(9,.int .i64 l.length),(10,.int .i64 j)] (stLk g n a)
   = some (.exit 0,[(5,.osl n (a++r.filter (keepB x k)).length)],stLk g n (a++r.filter (keepB x k))):=by
 refine drop_ind (fun j hj a ha=>?_) (fun e r j hj hx1 hd ih a ha=>?_)
 all_goals rw[runL_of B52_0.eq_1]
 ·have h1:¬(j:Int)<l.length:=by omega
  push_cast[h1,List.filter_nil,List.append_nil]
 ·have h1:(j:Int)<l.length:=by omega
  have hw:=iw1 (j:=j) (by omega)
  have hro:roomV (a.length+1) 32=true:=roomV_lit (by omega) (by omega)
  have h53:=fun(st:St)=>f53 hk hx (e:=e) (st:=st)
  cases hq:keepB x k e with
  |true =>
   rw[hq]at h53
   have ih:=ih (a++[e]) (by simp;omega)
   rw[List.filter_cons,hq,if_pos rfl]
   generalize r.filter (keepB x k)=Q at *
   push_cast[Lst.v,entV]at h53
   push_cast[h1,hw,hx1,hro,h53,Lst.v,entV,List.map_append,List.map_cons,List.map_nil,List.append_assoc,List.singleton_append]at ih ⊢
   exact ih
  |false =>
   rw[hq]at h53
   have ih:=ih a (by omega)
   rw[List.filter_cons,hq,if_neg (by simp)]
   generalize r.filter (keepB x k)=Q at *
   push_cast[Lst.v,entV]at h53
   push_cast[h1,hw,hx1,hro,h53,Lst.v,entV]at ih ⊢
   exact ih
theorem f52 {k:Nat}(hk:k<x.cues.length)(hx:x.ok){l:List (Prm×Val)}(hl:l.length≤8192){st:St} :
  run Tryz.prog HH 52 [.sl (l.map entV),.fn (.func 53) [] [.ep x.v 0,.ep (.agg [.int .i64 k]) 0]] st=some (.ret (.sl ((l.filter (keepB x k)).map entV)),st):=by
 have hL:=fun n=>L52 (g:=st.x.gl) (n:=n) hk hx hl l 0 rfl [] (Nat.le_refl _)
 rw[List.nil_append]at hL
 generalize l.filter (keepB x k)=Q at *
 rw[run_shut F52 rfl rfl (by simp)]
 push_cast[Lst.v,List.map_nil,List.length_nil]at hL
 push_cast[Lst.v,hL]
end Go.Proofs.YtdnpaifeoinjoaaGreatDoor

namespace Go.Proofs.YtdnpaifeoinjoaaGreatDoor
open Go.Sha
set_option maxRecDepth 100000
variable {g:List (Nat×Obj)}{n:Nat}{x:Lst}
def toM (e:Prm×Val):Mov:=⟨e.1,e.2,1⟩
@[reducible] def zcu:List V:=[.str [],.str [],.nils,.nils,.bool false,.bool false,.int .i64 0,.str [],.int .i64 0]
def stW (g:List (Nat×Obj))(k m n:Nat)(a:List Mov):St:=⟨k,[(m,zcu)],[(n,⟨45,5,a.map Mov.v,false,false⟩)],⟨[],g,[]⟩⟩
@[push_cast]theorem stW_eq {k m n:Nat}{a:List Mov}:stW g k m n a=⟨k,[(m,zcu)],[(n,⟨45,5,a.map Mov.v,false,false⟩)],⟨[],g,[]⟩⟩:=idq rfl
theorem L94 {c:Cu}{l:List (Prm×Val)}(hl:l.length≤8192){k m:Nat}(hm:m<k)(hn:n<k)(hnm:¬m=n):∀r j,l.drop j=r→∀a:List Mov,a.length≤j →
  runL Tryz.prog HH [2,3,6,10,38,39,40] k B94_0 [(2,.int .i64 1),(3,.ep c.v 0),(6,.ptr m 0),(10,.osl n a.length),(38,.sl (l.map entV)),(39,.int .i64 l.length),(40,.int .i64 j)] (stW g k m n a)
   = some (.exit 0,[(3,.ep c.v 0),(6,.ptr m 0),(10,.osl n (a++r.map toM).length)],stW g k m n (a++r.map toM)):=by
 have hm2:¬m=k:=by omega
 have hn2:¬n=k:=by omega
 have hm3:¬k≤m:=by omega
 have hn3:¬k≤n:=by omega
 have hn4:¬k+1=n:=by omega
 have hn5:¬n=k+1:=by omega
 refine drop_ind (fun j hj a ha=>?_) (fun e r j hj hx1 hd ih a ha=>?_)
 all_goals rw[runL_of B94_0.eq_1]
 ·have h1:¬(j:Int)<l.length:=by omega
  push_cast[h1,hm,hn,hm2,hn2,hm3,hn3,List.map_nil,List.append_nil,Cu.v]
 ·have h1:(j:Int)<l.length:=by omega
  have hw:=iw1 (j:=j) (by omega)
  have hro:roomV (a.length+1) 40=true:=roomV_lit (by omega) (by omega)
  have ih:=ih (a++[toM e]) (by simp;omega)
  rw[List.map_cons]
  generalize r.map toM=Q at *
  push_cast[h1,hw,hx1,hro,hm,hn,hm2,hn2,hm3,hn3,hn4,hn5,toM,Cu.v,Mov.v,entV,List.map_append,List.map_cons,List.map_nil,List.append_assoc,List.singleton_append]at ih ⊢
  exact ih
theorem f124 {c:Cu}{vm:V}{k m m2:Nat}{ar:List (Nat×Arr)}(hm:m<k)(hp:c.parts.length≤4){cs:List V} :
  run Tryz.prog HH 124 [.ptr m 0] ⟨k,[(m,[.str c.num,.str c.label,vm,.sl (c.parts.map Tim.v),.bool c.block,.bool c.mark,.int .i64 c.follow,.str c.link,.int .i64 c.loops]),(m2,cs)],ar,⟨[],g,[]⟩⟩
   = some (.ret (.tup []),⟨k+1,[(m,[.str c.num,.str c.label,vm,.osl k c.parts.length,.bool c.block,.bool c.mark,.int .i64 c.follow,.str c.link,.int .i64 c.loops]),(m2,cs)],(k,⟨161,6,c.parts.map Tim.v,true,false⟩)::ar,⟨[],g,[]⟩⟩):=by
 have hcn:=fun(st:St)=>r_cln (k:=143) (e:=161) (es:=6) (b:=48) (f:=Tim.v) (l:=c.parts) (st:=st) (fun _ _=>rfl) (fun _=>rfl) (fun _=>rfl) (by omega) (by decide)
 push_cast[Tim.v]at hcn
 rw[run_open F124 rfl rfl (by simp[V.bdL,V.bd])]
 push_cast[hcn,hm,Tim.v]
theorem f94 {c:Cu}(hc:c.ok)(h0:cueP c=0){l:List (Prm×Val)}(hl:l.length≤4096)(he:enS l=0)(hr:∀e∈l,prmC 1 e.1=0){st:St} :
  run Tryz.prog HH 94 [c.v,.sl (l.map entV),.int .i64 1] st=some (.ret (if 128<(mrg c.moves (l.map toM)).length then .tup [(default:Cu).v,.int .i64 5] else .tup [({ c with moves:=mrg c.moves (l.map toM) }:Cu).v,.int .i64 0]),st):=by
 obtain⟨p1,p2,p3,p4,p5⟩:=cue_parts h0
 have h91:=fun(st:St)=>f91 hc (st:=st)
 have h43:=fun(st:St)=>f43 (l:=l) (by omega) (st:=st)
 rw[h0]at h91
 rw[he]at h43
 have hP:0<c.parts.length∧c.parts.length≤4:=by
  unfold parC at p4
  repeat' split at p4
  all_goals first|(cases p4;done)|omega
 have hL:=fun k m n hm hn hnm=>L94 (g:=st.x.gl) (c:=c) (l:=l) (by omega) (k:=k) (m:=m) (n:=n) hm hn hnm l 0 rfl [] (Nat.le_refl _)
 obtain⟨a1,a2⟩:=movs_asc p3
 have hm8:c.moves.length≤128:=by
  unfold movCP at p3;split at p3
  ·cases p3
  ·omega
 have h31:=fun(st:St)=>f31 (a:=c.moves) (b:=l.map toM) (st:=st) a2 a1 (fun q hq=>by
  obtain⟨e,e1,rfl⟩:=List.mem_map.1 hq;exact hr e e1) hm8 (by rw[List.length_map];omega)
 have h124:=fun(vm:V) (ar:List (Nat×Arr)) (cs:List V)=>f124 (g:=st.x.gl) (c:=c) (vm:=vm) (k:=4) (m:=3) (m2:=1) (ar:=ar) (cs:=cs) (by omega) hP.2
 have hp1:¬(c.parts.length:Int)<1:=by omega
 rw[run_shut F94 rfl rfl (by simp)]
 push_cast[Cu.v,Mov.v,Tim.v]at h91 hL h31 h124
 generalize mrg c.moves (l.map toM)=Z at *
 by_cases hZ:128<Z.length
 ·push_cast[hZ]at h31 ⊢
  push_cast[h91,h43,hp1,hL,h31,Cu.v,Tim.v]
  rfl
 ·push_cast[hZ]at h31 ⊢
  push_cast[h91,h43,hp1,hL,h31,h124,Cu.v,Tim.v]
end Go.Proofs.YtdnpaifeoinjoaaGreatDoor

namespace Go.Proofs.YtdnpaifeoinjoaaGreatDoor
open Go.Sha
set_option maxRecDepth 100000
variable {g:List (Nat×Obj)}{n:Nat}{x:Lst}
theorem f47 {k:Nat}{c:Cu}(h64:x.cues.length≤64)(hk:k<x.cues.length){st:St}:run Tryz.prog HH 47 [x.v,.int .i64 k,c.v] st=some (.ret (({ x with cues:=x.cues.set k c }:Lst).v),st):=by
 have hcn:=fun(st:St)=>r_cln (k:=93) (e:=30) (es:=9) (b:=120) (f:=Cu.v) (l:=x.cues) (st:=st) (fun _ _=>rfl) (fun _=>rfl) (fun _=>rfl) (by omega) (by decide)
 have hgi:x.cues[k]?=some (x.cues.getD k default):=by rw[List.getD_eq_getElem?_getD,List.getElem?_eq_getElem hk];rfl
 have hk1:(k:Int)<x.cues.length:=by omega
 have hbs:V.bdL 0 ((x.cues.set k c).map Cu.v)=true:=by rw[bdL_map',List.all_eq_true];intro q _;simp[Cu.v,V.bdL,V.bd,bdL_map',Mov.v,Tim.v]
 generalize x.cues.getD k default=y at *
 rw[run_shut F47 rfl rfl (by simp)]
 simp only[List.map_set]at hbs ⊢
 push_cast[Cu.v]at hcn hbs
 push_cast[hcn,hgi,hk,hk1,hbs,Lst.v,Cu.v,List.map_set,List.length_set,List.length_map]
theorem f49 {k:Nat}(h:lstP x=0)(hx:x.ok)(hk:k<x.cues.length){l:List (Prm×Val)}(hl:l.length≤4096)(he:enS l=0)(hr:∀e∈l,prmC 1 e.1=0){st:St} :
  run Tryz.prog HH 49 [x.v,.int .i64 k,.sl (l.map entV)] st=some (.ret (if 128<(mrg (x.cues.getD k default).moves (l.map toM)).length then .tup [(default:Lst).v,.int .i64 5] else .tup [({ x with cues:=x.cues.set k { x.cues.getD k default with moves:=mrg (x.cues.getD k default).moves (l.map toM) } }:Lst).v,.int .i64 0]),st):=by
 have h64:=(lst_parts h).2.2.1
 have hc:x.cues.getD k default∈x.cues:=by rw[List.getD_eq_getElem?_getD,List.getElem?_eq_getElem hk];exact List.getElem_mem hk
 have h94:=fun(st:St)=>f94 (hx.b _ hc) (lst_cue h _ hc) hl he hr (st:=st)
 have h47:=fun(st:St)=>f47 (x:=x) (k:=k) (c:={ x.cues.getD k default with moves:=mrg (x.cues.getD k default).moves (l.map toM) }) (by omega) hk (st:=st)
 have hg:∀d,x.cues.getD k d=x.cues.getD k default:=fun d=>by rw[List.getD_eq_getElem?_getD,List.getD_eq_getElem?_getD,List.getElem?_eq_getElem hk];rfl
 have hk1:(k:Int)<x.cues.length:=by omega
 generalize x.cues.getD k default=c at *
 generalize mrg c.moves (l.map toM)=Z at *
 rw[run_shut F49 rfl rfl (by simp)]
 by_cases hZ:128<Z.length
 ·push_cast[Cu.v,hZ]at h94 ⊢
  push_cast[Lst.v,Cu.v,hg,hk,hk1,h94]
  rfl
 ·push_cast[Cu.v,Lst.v,hZ]at h94 h47 ⊢
  push_cast[Lst.v,Cu.v,hg,hk,hk1,h94,h47]
theorem enP_sub {l:List (Prm×Val)}(h1:∀e∈l,entC e=0)(h2:l.Pairwise fun a b=>cmpP a.1 b.1<0){f:Prm×Val→Bool}:enP (l.filter f) (l.filter f) 0=0 :=
 enP_ok (fun e he=>h1 e ((List.mem_filter.1 he).1)) (h2.filter _) _ 0 rfl
theorem ent_sub (h:lstP x=0)(h8:x.cues.length≤8){k:Nat}(hk:k<x.cues.length){f:Prm×Val→Bool}:((entL x k).filter f).length≤4096∧enS ((entL x k).filter f)=0∧∀e∈(entL x k).filter f,prmC 1 e.1=0:=by
 have hl:(entL x k).length≤1024:=by
  have h1:=keyL_len (cs:=x.cues) (a:=[]) (fun c hc=>(lst_mov h c hc).1)
  rw[entL,List.length_map,ftpL,sortO_perm.length_eq]
  rw[List.length_nil]at h1;omega
 have hsl:=List.length_filter_le f (entL x k)
 have hr:∀e∈entL x k,prmC 1 e.1=0:=fun e he=>by
  obtain⟨p,hp,rfl⟩:=List.mem_map.1 he
  exact ftpL_rng h p hp
 refine⟨by omega,?_,fun e he=>hr e ((List.mem_filter.1 he).1)⟩
 unfold enS
 rw[if_neg (by omega)]
 refine enP_sub (fun e he=>?_) (List.pairwise_map.2 (ftpL_asc h))
 unfold entC
 rw[if_neg (by simp[hr e he])]
 obtain⟨p,hp,rfl⟩:=List.mem_map.1 he
 exact val_ok h hk
def blkM (x:Lst)(k:Nat):List Mov:=mrg (x.cues.getD k default).moves (((entL x k).filter (keepB x k)).map toM)
def blkL (x:Lst)(k:Nat):Lst:={ x with cues:=x.cues.set k { x.cues.getD k default with moves:=blkM x k,block:=true } }
theorem f23 {k:Nat}(h:lstP x=0)(hx:x.ok)(h8:x.cues.length≤8)(hk:k<x.cues.length){st:St} :
  run Tryz.prog HH 23 [x.v,.str (x.cues.getD k default).num] st=some (.ret (if 128<(blkM x k).length then .tup [(default:Lst).v,.int .i64 5] else .tup [(blkL x k).v,.int .i64 0]),st):=by
 have h64:=(lst_parts h).2.2.1
 have hc:x.cues.getD k default∈x.cues:=by rw[List.getD_eq_getElem?_getD,List.getElem?_eq_getElem hk];exact List.getElem_mem hk
 obtain⟨p1,p2⟩:=plc_own h hk
 have h10:=fun(st:St)=>f10 hx h (s:=(x.cues.getD k default).num) (st:=st) (hx.b _ hc).a
 rw[p1,p2,if_pos rfl,Int.toNat_natCast]at h10
 have h42:=fun(st:St)=>f42 h hx hk (st:=st)
 have hle:=ent_len h (k:=k)
 have h52:=fun(st:St)=>f52 hk hx (l:=entL x k) hle (st:=st)
 have hsl:=List.length_filter_le (keepB x k) (entL x k)
 have h49:=fun(st:St)=>f49 h hx hk (l:=(entL x k).filter (keepB x k)) (ent_sub h h8 hk).1 (ent_sub h h8 hk).2.1 (ent_sub h h8 hk).2.2 (st:=st)
 have h47:=fun(st:St)=>f47 (x:={ x with cues:=x.cues.set k { x.cues.getD k default with moves:=blkM x k } }) (k:=k) (c:={ x.cues.getD k default with moves:=blkM x k,block:=true }) (by rw[List.length_set];omega) (by rw[List.length_set];exact hk) (st:=st)
 rw[show mrg (x.cues.getD k default).moves (((entL x k).filter (keepB x k)).map toM)=blkM x k from rfl]at h49
 unfold blkL
 generalize blkM x k=Z at *
 generalize (entL x k).filter (keepB x k)=Q at *
 generalize entL x k=M at *
 generalize x.cues.getD k default=c at *
 rw[run_shut F23 rfl rfl (by simp)]
 by_cases hZ:128<Z.length
 ·push_cast[Cu.v,Lst.v,hZ]at h49 h42 h10 h52 ⊢
  push_cast[Lst.v,Cu.v,h42,h10,h52,h49]
  rfl
 ·have hgi:∀c d:Cu,(x.cues.set k c).getD k d=c:=fun c d=>by rw[List.getD_eq_getElem?_getD,List.getElem?_set_self hk];rfl
  have hk1:(k:Int)<x.cues.length:=by omega
  simp only[List.set_set]at h47
  push_cast[Cu.v,Lst.v,hZ]at h49 h42 h10 h52 h47 ⊢
  push_cast[Lst.v,Cu.v,h42,h10,h52,h49,h47,hgi,hk,hk1,List.length_set,List.length_map]
end Go.Proofs.YtdnpaifeoinjoaaGreatDoor

namespace Go.Proofs.YtdnpaifeoinjoaaGreatDoor
open Go.Sha
variable {x:Lst}
theorem getD_set {α:Type}{l:List α}{k:Nat}(hk:k<l.length){c:α}{j:Nat}{d:α}:(l.set k c).getD j d=if j=k then c else l.getD j d:=by
 rw[List.getD_eq_getElem?_getD,List.getElem?_set,List.getD_eq_getElem?_getD]
 by_cases h:j=k
 ·subst h;rw[if_pos rfl,if_pos hk,if_pos rfl];rfl
 ·rw[if_neg (fun e=>h e.symm),if_neg h]
theorem drop_cons {α:Type}[Inhabited α]{l:List α}{j:Nat}(hj:j<l.length):l.drop j=l.getD j default::l.drop (j+1):=by
 rw[List.drop_eq_getElem_cons hj,List.getD_eq_getElem?_getD,List.getElem?_eq_getElem hj];rfl
theorem cuesP_set {l:List Cu}{k:Nat}(hk:k<l.length){c:Cu}(hn:c.num=(l.getD k default).num)(hc:cueP c=0):∀(r:List Cu) (j:Nat),l.drop j=r→cuesP l r j=0→cuesP (l.set k c) ((l.set k c).drop j) j=0
 |[],j,hd,_=>by
  have:l.length≤j:=List.drop_eq_nil_iff.1 hd
  rw[List.drop_eq_nil_of_le (by rw[List.length_set];exact this)];rfl
 |q::r,j,hd,h=>by
  have hj:=drop_le hd
  have hq:l.getD j default=q:=by
   have:=drop_cons hj;rw[hd]at this;injection this with h1 h2;exact h1.symm
  rw[cuesP]at h
  split at h
  ·rename_i a;exact absurd h a
  split at h
  ·cases h
  rename_i a b
  have ih:=cuesP_set hk hn hc r (j+1) (drop_succ hd) h
  have hnum:∀i,((l.set k c).getD i default).num=(l.getD i default).num:=fun i=>by
   rw[getD_set hk];split
   ·rename_i e;rw[e,hn]
   ·rfl
  rw[drop_cons (by rw[List.length_set];exact hj),cuesP,hnum,hnum,hq,if_neg,if_neg b,ih]
  rw[getD_set hk]
  split
  ·simp[hc]
  ·rw[hq];exact a
theorem key_lt {a b:Prm}(ha:prmC 1 a=0)(hb:prmC 1 b=0)(hab:cmpP a b<0):keyN a<keyN b:=by
 have ra:=prm_rng ha
 have rb:=prm_rng hb
 have hc:cmpP a b=if a.chan=b.chan then a.attr-b.attr else a.chan-b.chan:=cmp_ok (okP_of ra) (okP_of rb)
 rw[hc]at hab
 unfold keyN
 split at hab<;>omega
theorem blkM_asc (h:lstP x=0){k:Nat}(hk:k<x.cues.length):Asc keyM ((((entL x k).filter (keepB x k))).map toM)∧∀q∈((entL x k).filter (keepB x k)).map toM,prmC 1 q.prm=0∧okF q:=by
 have hf:=ftpL_asc h
 refine⟨?_,fun q hq=>?_⟩
 ·unfold Asc
  rw[List.pairwise_map]
  refine List.Pairwise.filter _ ?_
  rw[entL,List.pairwise_map]
  refine hf.imp_of_mem fun {a b} ha hb hab=>?_
  exact key_lt (ftpL_rng h a ha) (ftpL_rng h b hb) hab
 ·obtain⟨e,he,rfl⟩:=List.mem_map.1 hq
  obtain⟨p,hp,rfl⟩:=List.mem_map.1 (List.mem_filter.1 he).1
  exact⟨ftpL_rng h p hp,val_ok h hk,by show ¬((1:Int)<1∨4<(1:Int));omega⟩
theorem any_movF {l:List Mov}{p:Prm}:(l.any fun m:Mov=>decide (m.prm=p))=(movF l p).isSome:=by
 unfold movF
 rw[Option.isSome_map,Bool.eq_iff_iff,List.any_eq_true,List.find?_isSome]
 constructor
 ·rintro⟨m,h1,h2⟩
  obtain rfl:=of_decide_eq_true h2
  exact⟨m,h1,by simp⟩
 ·rintro⟨m,h1,h2⟩
  refine⟨m,h1,?_⟩
  simp only[Bool.and_eq_true,decide_eq_true_eq]at h2
  obtain⟨⟨a,b⟩,v,z⟩:=m
  obtain⟨c,d⟩:=p
  simp only at h2
  rw[h2.1,h2.2];simp
theorem cue_mem {k:Nat}(hk:k<x.cues.length):x.cues.getD k default∈x.cues:=by rw[List.getD_eq_getElem?_getD,List.getElem?_eq_getElem hk];exact List.getElem_mem hk
theorem blkM_rng (h:lstP x=0){k:Nat}(hk:k<x.cues.length):Asc keyM (blkM x k)∧∀q∈blkM x k,prmC 1 q.prm=0∧okF q:=by
 obtain⟨a1,a2⟩:=blkM_asc h hk
 obtain⟨m1,m2,m3⟩:=lst_mov h _ (cue_mem hk)
 have h1:=mrg_asc (r:=((entL x k).filter (keepB x k)).map toM) (M:=(x.cues.getD k default).moves) m3 m2 (fun q hq=>(a2 q hq).1)
 refine⟨h1.1,fun q hq=>⟨h1.2 q hq,?_⟩⟩
 rcases mrg_mem hq with hq|hq
 ·exact cue_fld h _ (cue_mem hk) q hq
 ·exact(a2 q hq).2
theorem blk_cue {k:Nat}(hk:k<x.cues.length)(j:Nat):(blkL x k).cues.getD j default=if j=k then { x.cues.getD k default with moves:=blkM x k,block:=true } else x.cues.getD j default:=getD_set hk
end Go.Proofs.YtdnpaifeoinjoaaGreatDoor

namespace Go.Proofs.YtdnpaifeoinjoaaGreatDoor
open Go.Sha
set_option maxRecDepth 100000
variable {x:Lst}
theorem blk_len {k:Nat}:(blkL x k).cues.length=x.cues.length:=List.length_set ..
theorem blk_cueP (h:lstP x=0){k:Nat}(hk:k<x.cues.length)(hm:(blkM x k).length≤128):cueP { x.cues.getD k default with moves:=blkM x k,block:=true }=0:=by
 obtain⟨p1,p2,p3,p4,p5⟩:=cue_parts (lst_cue h _ (cue_mem hk))
 obtain⟨b1,b2⟩:=blkM_rng h hk
 have q3:movCP (blkM x k)=0:=movCP_of hm b2 b1
 have hsub:∀q∈blkM x k,q∈(x.cues.getD k default).moves∨q.part=1:=fun q hq=>by
  rcases mrg_mem hq with hq|hq
  ·exact .inl hq
  ·obtain⟨e,_,rfl⟩:=List.mem_map.1 hq;exact .inr rfl
 generalize blkM x k=Z at *
 generalize x.cues.getD k default=c at *
 have q4:parC { c with moves:=Z,block:=true }=0:=by
  unfold parC at p4 ⊢
  simp only
  by_cases h1:(c.parts.length:Int)=0
  ·rw[if_pos h1]at p4;cases p4
  rw[if_neg h1]at p4 ⊢
  by_cases h2:4<(c.parts.length:Int)
  ·rw[if_pos h2]at p4;cases p4
  rw[if_neg h2]at p4 ⊢
  by_cases h3:timL c.parts=0
  ·rw[if_pos h3]at p4 ⊢
   rw[if_neg]
   intro hz
   obtain⟨q,hq,hq2⟩:=List.any_eq_true.1 hz
   have hq2:=of_decide_eq_true hq2
   rcases hsub q hq with hq|hq
   ·rw[if_pos (List.any_eq_true.2 ⟨q,hq,decide_eq_true hq2⟩)]at p4;cases p4
   ·omega
  ·rw[if_neg h3]at p4;exact absurd p4 h3
 have q5:nxtC { c with moves:=Z,block:=true }=0:=p5
 unfold cueP
 simp only[p1,p2,q3,q4,q5,not_true,if_false]
theorem blk_ok (h:lstP x=0)(hx:x.ok){k:Nat}(hk:k<x.cues.length)(hm:(blkM x k).length≤128):lstP (blkL x k)=0∧(blkL x k).ok:=by
 have hb:lstP x=0:=h
 unfold lstP lstB at hb
 split at hb
 ·cases hb
 rename_i b1
 split at hb
 ·cases hb
 rename_i b2
 refine⟨?_,⟨by rw[blk_len];exact hx.a,fun q hq=>?_⟩⟩
 ·unfold lstP
  rw[if_neg (show ¬lstB (blkL x k) from b1),if_neg (by rw[blk_len];exact b2)]
  exact cuesP_set (c:={ x.cues.getD k default with moves:=blkM x k,block:=true }) hk rfl (blk_cueP h hk hm) x.cues 0 rfl hb
 ·rcases List.mem_or_eq_of_mem_set hq with hq|rfl
  ·exact hx.b q hq
  ·have hc:=hx.b _ (cue_mem hk)
   exact⟨hc.a,hc.b,by show(blkM x k).length<_;omega,hc.d,hc.e⟩
theorem ix_first {M:List (Prm×Val)}(hn:(M.map Prod.fst).Nodup){i:Nat}{e:Prm×Val}(h:M[i]?=some e):ix (fun e':Prm×Val=>decide (e'.1=e.1)) M 0=(i:Int):=by
 have hi:=(List.getElem?_eq_some_iff.1 h).1
 have h2:=ix_at (p:=fun e':Prm×Val=>decide (e'.1=e.1)) (l:=M) (j:=0) (k:=i) hi (by rw[List.getD_eq_getElem?_getD,h];simp) fun j hj=>by
  have hjl:j<M.length:=by omega
  rw[List.getD_eq_getElem?_getD,List.getElem?_eq_getElem hjl]
  simp only[Option.getD_some,decide_eq_false_iff_not]
  intro e2
  have:=List.pairwise_iff_getElem.1 hn j i (by simpa using hjl) (by simpa using hi) hj
  rw[List.getElem_map,List.getElem_map]at this
  rw[List.getElem?_eq_getElem hi]at h
  rw[Option.some.inj h]at this
  exact this e2
 rw[h2];simp
end Go.Proofs.YtdnpaifeoinjoaaGreatDoor

namespace Go.Proofs.YtdnpaifeoinjoaaGreatDoor
open Go.Sha
set_option maxRecDepth 100000
variable {g:List (Nat×Obj)}{n:Nat}
theorem f51 {e:Prm×Val}{p:Prm}{st:St}:run Tryz.prog HH 51 [entV e,.ep p.v 0] st=some (.ret (.bool (decide (e.1=p))),st):=by
 obtain⟨⟨a,b⟩,w⟩:=e
 obtain⟨c,d⟩:=p
 rw[run_shut F51 rfl rfl (by simp)]
 push_cast[Prm.v,entV]
 have e:(a == c&&b == d)=decide ((⟨a,b⟩:Prm)=⟨c,d⟩):=by rw[Bool.eq_iff_iff];simp
 rw[e]
theorem f50p {l:List (Prm×Val)}{p:Prm}(hl:l.length<140737488355328){st:St}:run Tryz.prog HH 50 [.sl (l.map entV),.fn (.func 51) [] [.ep p.v 0]] st=some (.ret (.int .i64 (ix (fun e:Prm×Val=>decide (e.1=p)) l 0)),st) :=
 IxF (f:=entV) (n:=some 4) (fun _=>rfl) (fun _=>rfl) F50 rfl (by simp) hl (fun q _ _=>f51) (fun _ _=>rfl) (fun _=>rfl)
def rvL (l:List (Prm×Val))(p:Prm):Val:=if ix (fun e:Prm×Val=>decide (e.1=p)) l 0<0 then⟨-1,0⟩ else(l.getD (ix (fun e:Prm×Val=>decide (e.1=p)) l 0).toNat default).2
theorem f22 {l:List (Prm×Val)}{p:Prm}(hl:l.length<140737488355328){st:St}:run Tryz.prog HH 22 [.sl (l.map entV),p.v] st=some (.ret (rvL l p).v,st):=by
 have h50:=fun(st:St)=>f50p (l:=l) (p:=p) hl (st:=st)
 unfold rvL
 rcases ix_rng (p:=fun e:Prm×Val=>decide (e.1=p)) (l:=l) (j:=0) with h|h
 ·rw[h]at h50 ⊢
  rw[if_pos (by omega)]
  rw[run_shut F22 rfl rfl (by simp)]
  push_cast[Prm.v,entV]at h50
  push_cast[Prm.v,entV,h50]
 ·obtain⟨t,ht⟩:∃t:Nat,ix (fun e:Prm×Val=>decide (e.1=p)) l 0=t:=⟨(ix (fun e:Prm×Val=>decide (e.1=p)) l 0).toNat,by omega⟩
  have htl:t<l.length:=by omega
  rw[ht]at h50 ⊢
  rw[if_neg (by omega),Int.toNat_natCast]
  have h1:¬(t:Int)<0:=by omega
  have h2:(t:Int)<l.length:=by omega
  have hg:∀d,l.getD t d=l.getD t default:=fun d=>by rw[List.getD_eq_getElem?_getD,List.getD_eq_getElem?_getD,List.getElem?_eq_getElem htl];rfl
  rw[run_shut F22 rfl rfl (by simp)]
  push_cast[Prm.v,entV]at h50
  push_cast[Prm.v,entV,h50,h1,h2,hg,htl]
theorem r_grw {m:Nat}{st:St}(hm:m≤1000000):run Tryz.prog HH 97 [.nils,.int .i64 m] st=some (.ret (.osl st.nx 0),⟨st.nx+1,st.mem,(st.nx,⟨42,4,[],true,false⟩)::st.arr,st.x⟩):=by
 refine run_H ((show HH 97 _ st=hGrw 42 4 32 _ st from rfl).trans ?_)
 have h6:roomV m 32=true:=roomV_lit (by omega) (by omega)
 simp only[hGrw]
 rw[if_pos ⟨by omega,by omega,by rw[Int.toNat_natCast];exact h6⟩]
theorem mapO_en {st:St}:∀{l:List (Prm×Val)},mapO (snapA st) (l.map entV)=some (l.map entV)
 |[]=>rfl
 |e::r=>by rw[List.map_cons,mapO,mapO_en];rfl
theorem f56 {a b:List (Prm×Val)}(ha:a.length≤100000)(hb:b.length≤100000){st:St}:run Tryz.prog HH 56 [.sl [.sl (a.map entV),.sl (b.map entV)]] st=some (.ret (.sl ((a++b).map entV)),st):=by
 have h2:=fun(st:St)=>r_grw (m:=a.length+b.length) (st:=st) (by omega)
 have hw:IntKind.i64.wrap (0+(a.length:Int))=(a.length:Int):=by rw[Int.zero_add];exact iwrap (by omega) (by omega)
 have hw2:IntKind.i64.wrap ((a.length:Int)+b.length)=((a.length+b.length:Nat):Int):=iwrap (by omega) (by omega)
 have n1:¬(a.length:Int)<0:=by omega
 have n2:¬((a.length+b.length:Nat):Int)<0:=by omega
 have r1:roomV a.length 32=true:=roomV_lit (by omega) (by omega)
 have r2:roomV (a.length+b.length) 32=true:=roomV_lit (by omega) (by omega)
 have s1:=fun(st:St) (l:List (Prm×Val))=>mapO_en (st:=st) (l:=l)
 have c1:∀l:List (Prm×Val),((l.map entV).all fun y=>y.cells.length == 4)=true:=fun l=>by rw[List.all_map,List.all_eq_true];intro y _;rfl
 rw[run_shut F56 rfl rfl (by simp)]
 push_cast at h2
 have n3:¬(a.length:Int)+b.length<0:=by omega
 push_cast[h2,hw,hw2,n1,n2,n3,r1,r2,s1,c1,runL_of B56_0.eq_1,runL_of B56_1.eq_1,appS_s,appG_osl,List.map_append]
def st24 (g:List (Nat×Obj))(A B:List (Prm×Val)):St:=⟨1,[],[(0,⟨34,1,[.sl (A.map entV),.sl (B.map entV)],false,false⟩)],⟨[],g,[]⟩⟩
@[push_cast]theorem st24_eq {A B:List (Prm×Val)}:st24 g A B=⟨1,[],[(0,⟨34,1,[.sl (A.map entV),.sl (B.map entV)],false,false⟩)],⟨[],g,[]⟩⟩:=idq rfl
theorem L24 {A B l:List (Prm×Val)}(hA:A.length<140737488355328)(hB:B.length<140737488355328)(hl:l.length<140737488355328)(hs:∀e∈l,rvL A e.1=rvL B e.1):∀r j,l.drop j=r→runL Tryz.prog HH [0,1,10,11,12] 1 B24_0 [(0,.sl (A.map entV)),(1,.sl (B.map entV)),(10,.sl (l.map entV)),(11,.int .i64 l.length),(12,.int .i64 j)] (st24 g A B)=some (.exit 0,[],st24 g A B):=by
 refine drop_ind (fun j h=>?_) (fun e r j h hx hd ih=>?_)
 all_goals rw[runL_of B24_0.eq_1]
 ·have h1:¬(j:Int)<l.length:=by omega
  push_cast[h1]
 ·have h1:(j:Int)<l.length:=by omega
  have hw:=iw1 (j:=j) (by omega)
  have h22:=fun(st:St)=>f22 (l:=A) (p:=e.1) (st:=st) hA
  have h22b:=fun(st:St)=>f22 (l:=B) (p:=e.1) (st:=st) hB
  rw[hs e (mem_at hd)]at h22
  generalize rvL B e.1=v at *
  push_cast[Prm.v,Val.v,entV]at h22 h22b
  push_cast[h1,hw,hx,h22,h22b,beq_self_eq_true,Prm.v,Val.v,entV]at ih ⊢
  exact ih
theorem f24 {A B:List (Prm×Val)}(hA:A.length≤100000)(hB:B.length≤100000)(hs:∀e∈A++B,rvL A e.1=rvL B e.1){st:St}:run Tryz.prog HH 24 [.sl (A.map entV),.sl (B.map entV)] st=some (.ret (.bool true),st):=by
 have h56:=fun(st:St)=>f56 (a:=A) (b:=B) hA hB (st:=st)
 have hL:=L24 (g:=st.x.gl) (A:=A) (B:=B) (l:=A++B) (by omega) (by omega) (by rw[List.length_append];omega) hs _ 0 rfl
 generalize A++B=l at *
 rw[run_shut F24 rfl rfl (by simp)]
 push_cast at hL
 push_cast[h56,hL]
end Go.Proofs.YtdnpaifeoinjoaaGreatDoor

namespace Go.Proofs.YtdnpaifeoinjoaaGreatDoor
open Go.Sha
set_option maxRecDepth 100000
variable {g:List (Nat×Obj)}{n:Nat}{x:Lst}
theorem L18 {s:List UInt8}(hl:x.cues.length<140737488355328):∀r j,x.cues.drop j=r→runL Tryz.prog HH [1,2,5] n B18_0 [(1,.str s),(2,.ep x.v 0),(5,.int .i64 j)] (stN g n)=lpI (stN g n) [] 4 (ix (fun c:Cu=>c.num == s) r j):=by
 refine drop_ind (fun j h=>?_) (fun c r j h hx hd ih=>?_)
 all_goals rw[runL_of B18_0.eq_1]
 ·have h1:¬(j:Int)<x.cues.length:=by omega
  push_cast[h1,ix,lpI,Lst.v]
 ·have h1:(j:Int)<x.cues.length:=by omega
  have hw:=iw1 (j:=j) (by omega)
  have e6:ix (fun c:Cu=>c.num == s) (c::r) j=if(c.num == s)=true then(j:Int) else ix (fun c:Cu=>c.num == s) r (j+1):=rfl
  rw[e6]
  by_cases hc:c.num=s
  ·have hb:(c.num == s)=true:=by simpa using hc
   rw[if_pos hb,lpI_n]
   push_cast[h,h1,hw,hx,hc,Lst.v,Cu.v]
  ·have hb:¬(c.num == s)=true:=by simpa using hc
   rw[if_neg hb]
   push_cast[h,h1,hw,hx,hc,Lst.v,Cu.v]at ih ⊢
   exact ih
theorem f18 {s:List UInt8}(hl:x.cues.length<140737488355328){st:St}:run Tryz.prog HH 18 [x.v,.str s] st=some (.ret (.int .i64 (ix (fun c:Cu=>c.num == s) x.cues 0)),st):=by
 have hL:=L18 (g:=st.x.gl) (n:=1) (s:=s) hl _ 0 rfl
 rw[run_shut F18 rfl rfl (by simp)]
 rw[List.drop_zero]at hL
 rcases ix_rng (p:=fun c:Cu=>c.num == s) (l:=x.cues) (j:=0) with h|h
 ·rw[h]at hL ⊢
  push_cast[lpI_1,Lst.v]at hL
  push_cast[hL,Lst.v]
 ·obtain⟨t,ht⟩:∃t:Nat,ix (fun c:Cu=>c.num == s) x.cues 0=t:=⟨(ix (fun c:Cu=>c.num == s) x.cues 0).toNat,by omega⟩
  rw[ht]at hL ⊢
  rw[lpI_n]at hL
  push_cast[Lst.v]at hL
  push_cast[hL,Lst.v]
theorem f19 {e:Prm×Val}{st:St}:run Tryz.prog HH 19 [.sl [entV e]] st=some (.ret (.int .i64 (entC e)),st):=by
 have h1:=fun(st:St)=>f37 (x:=e.1) (st:=st)
 have h2:=fun(st:St)=>f38 (x:=e.2) (st:=st)
 unfold entC
 rw[run_shut F19 rfl rfl (by simp)]
 push_cast[Prm.v,Val.v]at h1 h2
 by_cases a:prmC 1 e.1=0
 ·by_cases b:valC e.2=0
  ·push_cast[entV,Prm.v,Val.v,h1,h2,a,b,runL_of B19_0.eq_1]
  ·push_cast[entV,Prm.v,Val.v,h1,h2,a,b,runL_of B19_0.eq_1]
 ·push_cast[entV,Prm.v,Val.v,h1,h2,a,runL_of B19_0.eq_1]
theorem f48 {y:Lst}{v:Int}{st:St}:run Tryz.prog HH 48 [y.v,.int .i64 v] st=some (.ret (if v=0 then .tup [y.v,.int .i64 0] else .tup [(default:Lst).v,.int .i64 v]),st):=by
 rw[run_shut F48 rfl rfl (by simp)]
 by_cases h:v=0
 ·push_cast[Lst.v,h]
 ·push_cast[Lst.v,h]
  rfl
theorem f90 {c:Cu}{s:List UInt8}{st:St}:run Tryz.prog HH 90 [c.v,.ep (.agg [.str s]) 0] st=some (.ret (.bool (c.num == s)),st):=by
 rw[run_shut F90 rfl rfl (by simp)]
 push_cast[Cu.v]
 all_goals first|with_reducible rfl|exact dn_eq (by omega) (by with_reducible rfl)|((repeat' split)<;>(try simp_all)<;>(try (with_reducible refine dn_eq ?_ ?_<;>first|trivial|omega|rfl))<;>(try omega))
theorem f73a {l:List Cu}{s:List UInt8}(hl:l.length<140737488355328){st:St}:run Tryz.prog HH 73 [.sl (l.map Cu.v),.fn (.func 90) [] [.ep (.agg [.str s]) 0]] st=some (.ret (.int .i64 (ix (fun x=>x.num == s) l 0)),st) :=
 IxF (f:=Cu.v) (n:=some 9) (fun _=>rfl) (fun _=>rfl) F73 rfl (by simp) hl (fun q _ _=>f90) (fun _ _=>rfl) (fun _=>rfl)
theorem f44 {s:List UInt8}(hl:x.cues.length<140737488355328){st:St}:run Tryz.prog HH 44 [x.v,.str s] st=some (.ret (.int .i64 (ix (fun c:Cu=>c.num == s) x.cues 0)),st):=by
 have h73:=fun(st:St)=>f73a (l:=x.cues) (s:=s) (st:=st) hl
 generalize ix (fun c:Cu=>c.num == s) x.cues 0=z at *
 rw[run_shut F44 rfl rfl (by simp)]
 push_cast[Lst.v,h73]
 all_goals first|with_reducible rfl|exact dn_eq (by omega) (by with_reducible rfl)|((repeat' split)<;>(try simp_all)<;>(try (with_reducible refine dn_eq ?_ ?_<;>first|trivial|omega|rfl))<;>(try omega))
theorem f46 {c:Cu}(hc:c.ok)(h0:cueP c=0){p:Prm}(hp:prmC 1 p=0){st:St}:run Tryz.prog HH 46 [c.v,p.v] st=some (.ret (if bsF (cmM p) c.moves=true then .tup [.int .i64 (bsR (cmM p) c.moves),.bool true,.int .i64 0] else .tup [.int .i64 0,.bool false,.int .i64 0]),st):=by
 have h91:=fun(st:St)=>f91 hc (st:=st)
 have h92:=fun(st:St)=>f92 (x:=p) (st:=st)
 have h65:=fun(st:St)=>f65 (l:=c.moves) (q:=p) hc.c (st:=st)
 rw[h0]at h91
 rw[hp]at h92
 rw[run_shut F46 rfl rfl (by simp)]
 push_cast[Cu.v,Prm.v,Mov.v]at h91 h92 h65
 cases hf:bsF (cmM p) c.moves with
 |true=>rw[hf]at h65;push_cast[Cu.v,Prm.v,Mov.v,h91,h92,h65]
 |false=>rw[hf]at h65;push_cast[Cu.v,Prm.v,Mov.v,h91,h92,h65]
end Go.Proofs.YtdnpaifeoinjoaaGreatDoor

namespace Go.Proofs.YtdnpaifeoinjoaaGreatDoor
open Go.Sha Go.Shelf Go.RowKit
set_option maxRecDepth 100000
theorem basT:BasT Tryz.prog:=⟨by kernel_rfl,Tryz.underlying0,Tryz.isAgg0,Tryz.sizeOf0,Tryz.zeroValue0,Tryz.underlying3,Tryz.isAgg3,Tryz.sizeOf3,Tryz.zeroValue3,Tryz.underlying4,Tryz.isAgg4,Tryz.sizeOf4,Tryz.zeroValue4,Tryz.underlying9,Tryz.isAgg9,Tryz.sizeOf9,Tryz.zeroValue9,Tryz.underlying20,Tryz.isAgg20,Tryz.sizeOf20,Tryz.zeroValue20⟩
def rnM:Ren:=⟨fun x=>if x=29 then 108 else 109,fun x=>if x=24 then 27 else if x=9 then 45 else x,fun x=>x⟩
theorem slM:SlB Tryz.prog 24 9 5 40 rnM:=slT basT rfl rfl rfl Tryz.underlying27 Tryz.isAgg27 Tryz.sizeOf27 Tryz.zeroValue27 Tryz.isAgg45 Tryz.sizeOf45 Tryz.zeroValue45 (by kernel_rfl) (by kernel_rfl) (by kernel_rfl)
theorem bearsI:Bears Tryz.prog 66 (Body2.n22 rnM):=⟨"slices.Insert[[]luminaire/api.Move,luminaire/api.Move]",by decide,by kernel_rfl⟩
theorem ovM:OvL Tryz.prog 108 27 4:=fun args w=>by
 rw[run_callFunc_extern Tryz.func108 (by kernel_rfl) (by kernel_rfl) (by kernel_rfl) (e:=Extern.SlicesOverlaps.overlaps #[27,27] #[4]) (by kernel_rfl)]
def rnG:Ren:=⟨fun x=>if x=4 then 97 else x,fun x=>if x=22 then 34 else if x=25 then 42 else x,fun x=>x⟩
theorem bearsG:Bears Tryz.prog 97 (Body8.n4 rnG):=⟨"slices.Grow[[]luminaire/api.Entry,luminaire/api.Entry]",by decide,by kernel_rfl⟩
theorem infoG:(Tryz.prog.info? 42).map (fun i=>(i.zero,i.size,i.bytes))=some (some (.agg #[.int .i64 0,.int .i64 0,.int .i64 0,.int .i64 0]),4,32):=by kernel_rfl
end Go.Proofs.YtdnpaifeoinjoaaGreatDoor

namespace Go.Proofs.YtdnpaifeoinjoaaGreatDoor
open Go.Sha
set_option maxRecDepth 10000
theorem F136:compF Tryz.prog 136=some ⟨13,[.tmp 4,.tmp 5,.tmp 6],(.g [.s 4 (.mv (.w [])),.s 5 (.mv (.w [])),.k 6 false] (.g [.m 7 0,.m 8 1,.g' 9 156 7 8,.j 10 0 9,.j 11 1 9,.j 12 2 9,.m 4 10,.m 5 11,.m 6 12] (.ret [4,5,6])))⟩:=by kernel_rfl
theorem F140:compF Tryz.prog 140=some ⟨8,[.tmp 4],(.g [.k 4 false] (.g [.m 5 0,.m 6 1,.g' 7 159 5 6,.m 4 7] (.ret [4])))⟩:=by kernel_rfl
theorem F157:compF Tryz.prog 157=some ⟨9,[.tmp 4],(.g [.k 4 false] (.g [.m 5 0,.m 6 1,.g' 7 167 5 6,.v 8 .geq 7 0,.m 4 8] (.ret [4])))⟩:=by kernel_rfl
theorem F156:compF Tryz.prog 156=some ⟨23,[.tmp 4,.tmp 5,.tmp 6],(.g [.s 4 (.mv (.w [])),.s 5 (.mv (.w [])),.k 6 false] (.join [0] (.g [.m 8 0,.m 9 1,.g' 10 166 8 9,.m 7 10] (.g [.m 11 7,.v 12 .geq 11 0] (.i 12 (.q (.dreg 12 [.m 13 0,.m 14 7,.s 15 (.slices (.t 13) none (some (.t 14))),.m 16 0,.m 17 7,.m 18 1,.s 19 (.lens (.t 18)),.b 20 .add 17 19,.s 21 (.slices (.t 16) (some (.t 20)) none),.m 4 15,.m 5 21,.k 6 true]) (.ret [4,5,6])) .skip))) (.g [.m 22 0,.m 4 22,.s 5 (.mv (.w [])),.k 6 false] (.ret [4,5,6]))))⟩:=by kernel_rfl
theorem F159:compF Tryz.prog 159=some ⟨21,[.tmp 4],(.g [.k 4 false] (.join [4] (.reg [.m 5 0,.s 6 (.lens (.t 5)),.m 7 1,.s 8 (.lens (.t 7)),.b 9 .geq 6 8,.m 10 9,.my 11 0 10,.my 12 0 10,.y 13 (.lens (.t 12)) 10,.my 14 1 10,.y 15 (.lens (.t 14)) 10,.by' 16 .sub 13 15 10,.y 17 (.slices (.t 11) (some (.t 16)) none) 10,.my 18 1 10,.by' 19 .eql 17 18 10,.e 20 10 19,.m 4 20]) (.ret [4])))⟩:=by kernel_rfl
theorem F167:compF Tryz.prog 167=some ⟨8,[.tmp 4],(.g [.c 4 0] (.g [.m 5 0,.m 6 1,.s 7 (.f 174 [.t 5,.t 6,(.c (.bool true))]),.m 4 7] (.ret [4])))⟩:=by kernel_rfl
end Go.Proofs.YtdnpaifeoinjoaaGreatDoor

namespace Go.Proofs
open Go.Shelf
def Tryz.laysC172_ren:Go.Shelf.Ren:=⟨fun|172=>178|244=>179|245=>180|247=>181|279=>182|280=>183|281=>184|282=>185|287=>186|316=>187|171=>189|205=>188|321=>190|322=>191|243=>192|246=>193|283=>194|284=>195|285=>196|286=>197|129=>154|317=>198|318=>199|319=>200|320=>201|337=>202|338=>203|n=>n,fun|9=>9|3=>3|75=>208|76=>209|4=>4|5=>5|167=>212|37=>171|0=>0|85=>213|2=>2|168=>215|53=>101|175=>218|46=>151|210=>222|127=>226|145=>229|143=>227|21=>21|171=>231|173=>233|212=>236|51=>184|20=>20|213=>237|232=>238|233=>239|80=>240|n=>n,fun|15=>1|16=>2|17=>3|18=>4|19=>5|n=>n⟩
theorem Tryz.laysC172:Go.Proofs.LaysC.n172 Tryz.prog Tryz.laysC172_ren:={
 mixed:=by kernel_rfl
 f129:=Tryz.func154.trans (congrArg some (by kernel_rfl))
 f171:=Tryz.func189.trans (congrArg some (by kernel_rfl))
 f172:=Tryz.func178.trans (congrArg some (by kernel_rfl))
 f205:=Tryz.func188.trans (congrArg some (by kernel_rfl))
 f243:=Tryz.func192.trans (congrArg some (by kernel_rfl))
 f244:=Tryz.func179.trans (congrArg some (by kernel_rfl))
 f245:=Tryz.func180.trans (congrArg some (by kernel_rfl))
 f246:=Tryz.func193.trans (congrArg some (by kernel_rfl))
 f247:=Tryz.func181.trans (congrArg some (by kernel_rfl))
 f279:=Tryz.func182.trans (congrArg some (by kernel_rfl))
 f280:=Tryz.func183.trans (congrArg some (by kernel_rfl))
 f281:=Tryz.func184.trans (congrArg some (by kernel_rfl))
 f282:=Tryz.func185.trans (congrArg some (by kernel_rfl))
 f283:=Tryz.func194.trans (congrArg some (by kernel_rfl))
 f284:=Tryz.func195.trans (congrArg some (by kernel_rfl))
 f285:=Tryz.func196.trans (congrArg some (by kernel_rfl))
 f286:=Tryz.func197.trans (congrArg some (by kernel_rfl))
 f287:=Tryz.func186.trans (congrArg some (by kernel_rfl))
 f316:=Tryz.func187.trans (congrArg some (by kernel_rfl))
 f317:=Tryz.func198.trans (congrArg some (by kernel_rfl))
 f318:=Tryz.func199.trans (congrArg some (by kernel_rfl))
 f319:=Tryz.func200.trans (congrArg some (by kernel_rfl))
 f320:=Tryz.func201.trans (congrArg some (by kernel_rfl))
 f321:=Tryz.func190.trans (congrArg some (by kernel_rfl))
 f322:=Tryz.func191.trans (congrArg some (by kernel_rfl))
 f337:=Tryz.func202.trans (congrArg some (by kernel_rfl))
 f338:=Tryz.func203.trans (congrArg some (by kernel_rfl))
 t0:=Tryz.underlying0
 a0:=Tryz.isAgg0
 z0:=Tryz.sizeOf0
 v0:=Tryz.zeroValue0
 t2:=Tryz.underlying2
 a2:=Tryz.isAgg2
 z2:=Tryz.sizeOf2
 v2:=Tryz.zeroValue2
 t3:=Tryz.underlying3
 a3:=Tryz.isAgg3
 z3:=Tryz.sizeOf3
 v3:=Tryz.zeroValue3
 t4:=Tryz.underlying4
 a4:=Tryz.isAgg4
 z4:=Tryz.sizeOf4
 v4:=Tryz.zeroValue4
 t5:=Tryz.underlying5
 a5:=Tryz.isAgg5
 z5:=Tryz.sizeOf5
 v5:=Tryz.zeroValue5
 t9:=Tryz.underlying9
 a9:=Tryz.isAgg9
 z9:=Tryz.sizeOf9
 v9:=Tryz.zeroValue9
 t20:=Tryz.underlying20
 a20:=Tryz.isAgg20
 z20:=Tryz.sizeOf20
 v20:=Tryz.zeroValue20
 t21:=Tryz.underlying21
 a21:=Tryz.isAgg21
 z21:=Tryz.sizeOf21
 v21:=Tryz.zeroValue21
 t37:=Tryz.underlying171
 a37:=Tryz.isAgg171
 z37:=Tryz.sizeOf171
 v37:=Tryz.zeroValue171
 t46:=Tryz.underlying151
 a46:=Tryz.isAgg151
 z46:=Tryz.sizeOf151
 v46:=Tryz.zeroValue151
 t51:=Tryz.underlying184
 a51:=Tryz.isAgg184
 z51:=Tryz.sizeOf184
 v51:=Tryz.zeroValue184
 t53:=Tryz.underlying101
 a53:=Tryz.isAgg101
 z53:=Tryz.sizeOf101
 v53:=Tryz.zeroValue101
 t75:=Tryz.underlying208
 a75:=Tryz.isAgg208
 z75:=Tryz.sizeOf208
 v75:=Tryz.zeroValue208
 t76:=Tryz.underlying209
 a76:=Tryz.isAgg209
 z76:=Tryz.sizeOf209
 v76:=Tryz.zeroValue209
 t85:=Tryz.underlying213
 a85:=Tryz.isAgg213
 z85:=Tryz.sizeOf213
 v85:=Tryz.zeroValue213
 t127:=Tryz.underlying226
 a127:=Tryz.isAgg226
 z127:=Tryz.sizeOf226
 v127:=Tryz.zeroValue226
 t143:=Tryz.underlying227
 a143:=Tryz.isAgg227
 z143:=Tryz.sizeOf227
 v143:=Tryz.zeroValue227
 t145:=Tryz.underlying229
 a145:=Tryz.isAgg229
 z145:=Tryz.sizeOf229
 v145:=Tryz.zeroValue229
 t167:=Tryz.underlying212
 a167:=Tryz.isAgg212
 z167:=Tryz.sizeOf212
 v167:=Tryz.zeroValue212
 t168:=Tryz.underlying215
 a168:=Tryz.isAgg215
 z168:=Tryz.sizeOf215
 v168:=Tryz.zeroValue215
 t171:=Tryz.underlying231
 a171:=Tryz.isAgg231
 z171:=Tryz.sizeOf231
 v171:=Tryz.zeroValue231
 t173:=Tryz.underlying233
 a173:=Tryz.isAgg233
 z173:=Tryz.sizeOf233
 v173:=Tryz.zeroValue233
 t175:=Tryz.underlying218
 a175:=Tryz.isAgg218
 z175:=Tryz.sizeOf218
 v175:=Tryz.zeroValue218
 t210:=Tryz.underlying222
 a210:=Tryz.isAgg222
 z210:=Tryz.sizeOf222
 v210:=Tryz.zeroValue222
 t212:=Tryz.underlying236
 a212:=Tryz.isAgg236
 z212:=Tryz.sizeOf236
 v212:=Tryz.zeroValue236
 t213:=Tryz.underlying237
 a213:=Tryz.isAgg237
 z213:=Tryz.sizeOf237
 t232:=Tryz.underlying238
 a232:=Tryz.isAgg238
 z232:=Tryz.sizeOf238
 v232:=Tryz.zeroValue238
 t233:=Tryz.underlying239
 a233:=Tryz.isAgg239
 z233:=Tryz.sizeOf239
 v233:=Tryz.zeroValue239
 g15:=by kernel_rfl
 g16:=by kernel_rfl
 g17:=by kernel_rfl
 g18:=by kernel_rfl
 g19:=by kernel_rfl
 t80:=Tryz.underlying240
 a80:=Tryz.isAgg240
 z80:=Tryz.sizeOf240
 v80:=Tryz.zeroValue240
 i0:=by kernel_rfl
 i2:=by kernel_rfl
 i3:=by kernel_rfl
 i4:=by kernel_rfl
 i5:=by kernel_rfl
 i9:=by kernel_rfl
 i20:=by kernel_rfl
 i21:=by kernel_rfl
 i37:=by kernel_rfl
 i46:=by kernel_rfl
 i51:=by kernel_rfl
 i53:=by kernel_rfl
 i75:=by kernel_rfl
 i76:=by kernel_rfl
 i80:=by kernel_rfl
 i85:=by kernel_rfl
 i127:=by kernel_rfl
 i143:=by kernel_rfl
 i145:=by kernel_rfl
 i167:=by kernel_rfl
 i168:=by kernel_rfl
 i171:=by kernel_rfl
 i173:=by kernel_rfl
 i175:=by kernel_rfl
 i210:=by kernel_rfl
 i212:=by kernel_rfl
 i232:=by kernel_rfl
 i233:=by kernel_rfl
 m15:=by kernel_rfl
 m16:=by kernel_rfl
 m17:=by kernel_rfl
 m18:=by kernel_rfl
 m19:=by kernel_rfl
 c0:=by kernel_rfl
 c2:=by kernel_rfl
 c3:=by kernel_rfl
 c4:=by kernel_rfl
 c5:=by kernel_rfl
 c9:=by kernel_rfl
 c20:=by kernel_rfl
 c21:=by kernel_rfl
 c37:=by kernel_rfl
 c46:=by kernel_rfl
 c51:=by kernel_rfl
 c53:=by kernel_rfl
 c75:=by kernel_rfl
 c76:=by kernel_rfl
 c80:=by kernel_rfl
 c85:=by kernel_rfl
 c127:=by kernel_rfl
 c143:=by kernel_rfl
 c145:=by kernel_rfl
 c167:=by kernel_rfl
 c168:=by kernel_rfl
 c171:=by kernel_rfl
 c173:=by kernel_rfl
 c175:=by kernel_rfl
 c210:=by kernel_rfl
 c212:=by kernel_rfl
 c213:=by kernel_rfl
 c232:=by kernel_rfl
 c233:=by kernel_rfl }
open Go.RowKit in
theorem Tryz.strconv_Atoi_ok (s:ByteArray)(hmax:s.size≤9223372036854775806)(v:Int)(h:Lib.atoiAll s.data.toList=.ok v)(w:World) :
  Calls Tryz.prog 178 #[.string s] w fun e w'=>e=.returned (.tuple #[.int .i64 v,.nilIface])∧(w'=w∨∃t,w'=Lib.bytesWorld w 5 t):=Any.strconv_Atoi_ok Tryz.laysC172 s hmax v h w
def Tryz.lays219_ren:Go.Shelf.Ren:=⟨fun|219=>166|217=>170|225=>171|224=>172|267=>173|266=>176|314=>177|n=>n,fun|9=>9|3=>3|4=>4|5=>5|46=>151|146=>205|51=>184|n=>n,fun|1=>0|n=>n⟩
theorem Tryz.lays219:Go.Proofs.Lays.n219 Tryz.prog Tryz.lays219_ren:={
 mixed:=by kernel_rfl
 f217:=Tryz.func170.trans (congrArg some (by kernel_rfl))
 f219:=Tryz.func166.trans (congrArg some (by kernel_rfl))
 f224:=Tryz.func172.trans (congrArg some (by kernel_rfl))
 f225:=Tryz.func171.trans (congrArg some (by kernel_rfl))
 f266:=Tryz.func176.trans (congrArg some (by kernel_rfl))
 f267:=Tryz.func173.trans (congrArg some (by kernel_rfl))
 f314:=Tryz.func177.trans (congrArg some (by kernel_rfl))
 t3:=Tryz.underlying3
 a3:=Tryz.isAgg3
 z3:=Tryz.sizeOf3
 v3:=Tryz.zeroValue3
 t4:=Tryz.underlying4
 a4:=Tryz.isAgg4
 z4:=Tryz.sizeOf4
 v4:=Tryz.zeroValue4
 t5:=Tryz.underlying5
 a5:=Tryz.isAgg5
 z5:=Tryz.sizeOf5
 v5:=Tryz.zeroValue5
 t9:=Tryz.underlying9
 a9:=Tryz.isAgg9
 z9:=Tryz.sizeOf9
 v9:=Tryz.zeroValue9
 t46:=Tryz.underlying151
 a46:=Tryz.isAgg151
 z46:=Tryz.sizeOf151
 v46:=Tryz.zeroValue151
 t51:=Tryz.underlying184
 a51:=Tryz.isAgg184
 z51:=Tryz.sizeOf184
 v51:=Tryz.zeroValue184
 t146:=Tryz.underlying205
 a146:=Tryz.isAgg205
 z146:=Tryz.sizeOf205
 v146:=Tryz.zeroValue205
 g1:=by kernel_rfl }
open Go.RowKit Go.Lib in
theorem Tryz.stringslite_Index_one (s:ByteArray)(c:UInt8)(w:World) :
  Calls Tryz.prog 166 #[.string s,.string ⟨#[c]⟩] w fun e w'=>e=.returned (.int .i64 (Lib.indexByte s.data.toList c))∧w'=w:=Any.stringslite_Index_one Tryz.lays219 s c w
def Tryz.lays315_ren:Go.Shelf.Ren:=⟨fun|315=>174|n=>n,fun|9=>9|40=>188|4=>4|3=>3|0=>0|21=>21|n=>n,fun|n=>n⟩
theorem Tryz.lays315:Go.Proofs.Lays.n315 Tryz.prog Tryz.lays315_ren:={
 mixed:=by kernel_rfl
 f315:=Tryz.func174.trans (congrArg some (by kernel_rfl))
 t0:=Tryz.underlying0
 a0:=Tryz.isAgg0
 z0:=Tryz.sizeOf0
 v0:=Tryz.zeroValue0
 t3:=Tryz.underlying3
 a3:=Tryz.isAgg3
 z3:=Tryz.sizeOf3
 v3:=Tryz.zeroValue3
 t4:=Tryz.underlying4
 a4:=Tryz.isAgg4
 z4:=Tryz.sizeOf4
 v4:=Tryz.zeroValue4
 t9:=Tryz.underlying9
 a9:=Tryz.isAgg9
 z9:=Tryz.sizeOf9
 v9:=Tryz.zeroValue9
 t21:=Tryz.underlying21
 a21:=Tryz.isAgg21
 z21:=Tryz.sizeOf21
 v21:=Tryz.zeroValue21
 t40:=Tryz.underlying188
 a40:=Tryz.isAgg188
 z40:=Tryz.sizeOf188
 v40:=Tryz.zeroValue188 }
open Go.RowKit Go.Lib in
theorem Tryz.strings_indexFunc (g:Nat)(lb:Array Value)(eg:∀args w,(callFunc g args).run Tryz.prog w=.ok (.enter g args) w)(p:Nat→Bool)(truth:Bool)(s:ByteArray)(w:World)(hp:PredAt Tryz.prog g lb encR p w) :
  Calls Tryz.prog 174 #[.string s,.func (.func g) #[] lb,.bool truth] w fun e w'=>e=.returned (.int .i64 (Lib.idxFunc p truth s))∧Below w.heap.size w w':=Any.strings_indexFunc Tryz.lays315 g lb eg p truth s w hp
def Tryz.laysSort_ren:Go.Shelf.Ren:=⟨fun|6=>112|15=>132|14=>131|28=>153|29=>154|20=>145|21=>146|22=>147|23=>148|24=>149|25=>150|26=>151|27=>152|46=>160|47=>161|48=>162|49=>163|50=>164|57=>168|n=>n,fun|22=>115|24=>38|25=>126|3=>3|39=>151|0=>0|53=>184|55=>101|4=>4|46=>178|45=>177|50=>111|5=>5|9=>9|66=>189|70=>193|76=>198|77=>199|n=>n,fun|n=>n⟩
theorem Tryz.laysSort:Go.Proofs.SlLaysF0.n6 Tryz.prog Tryz.laysSort_ren:={
 mixed:=by kernel_rfl
 f6:=⟨Tryz.f112.name,by decide,Tryz.func112.trans (congrArg some (by kernel_rfl))⟩
 f14:=⟨Tryz.f131.name,by decide,Tryz.func131.trans (congrArg some (by kernel_rfl))⟩
 f15:=Tryz.func132.trans (congrArg some (by kernel_rfl))
 f20:=⟨Tryz.f145.name,by decide,Tryz.func145.trans (congrArg some (by kernel_rfl))⟩
 f21:=⟨Tryz.f146.name,by decide,Tryz.func146.trans (congrArg some (by kernel_rfl))⟩
 f22:=⟨Tryz.f147.name,by decide,Tryz.func147.trans (congrArg some (by kernel_rfl))⟩
 f23:=⟨Tryz.f148.name,by decide,Tryz.func148.trans (congrArg some (by kernel_rfl))⟩
 f24:=⟨Tryz.f149.name,by decide,Tryz.func149.trans (congrArg some (by kernel_rfl))⟩
 f25:=⟨Tryz.f150.name,by decide,Tryz.func150.trans (congrArg some (by kernel_rfl))⟩
 f26:=⟨Tryz.f151.name,by decide,Tryz.func151.trans (congrArg some (by kernel_rfl))⟩
 f27:=⟨Tryz.f152.name,by decide,Tryz.func152.trans (congrArg some (by kernel_rfl))⟩
 f28:=Tryz.func153.trans (congrArg some (by kernel_rfl))
 f29:=Tryz.func154.trans (congrArg some (by kernel_rfl))
 f46:=⟨Tryz.f160.name,by decide,Tryz.func160.trans (congrArg some (by kernel_rfl))⟩
 f47:=Tryz.func161.trans (congrArg some (by kernel_rfl))
 f48:=Tryz.func162.trans (congrArg some (by kernel_rfl))
 f49:=⟨Tryz.f163.name,by decide,Tryz.func163.trans (congrArg some (by kernel_rfl))⟩
 f50:=⟨Tryz.f164.name,by decide,Tryz.func164.trans (congrArg some (by kernel_rfl))⟩
 f57:=⟨Tryz.f168.name,by decide,Tryz.func168.trans (congrArg some (by kernel_rfl))⟩
 t0:=Tryz.underlying0
 a0:=Tryz.isAgg0
 z0:=Tryz.sizeOf0
 v0:=Tryz.zeroValue0
 t3:=Tryz.underlying3
 a3:=Tryz.isAgg3
 z3:=Tryz.sizeOf3
 v3:=Tryz.zeroValue3
 t4:=Tryz.underlying4
 a4:=Tryz.isAgg4
 z4:=Tryz.sizeOf4
 v4:=Tryz.zeroValue4
 t5:=Tryz.underlying5
 a5:=Tryz.isAgg5
 z5:=Tryz.sizeOf5
 v5:=Tryz.zeroValue5
 t9:=Tryz.underlying9
 a9:=Tryz.isAgg9
 z9:=Tryz.sizeOf9
 v9:=Tryz.zeroValue9
 t22:=Tryz.underlying115
 a22:=Tryz.isAgg115
 z22:=Tryz.sizeOf115
 v22:=Tryz.zeroValue115
 t25:=Tryz.underlying126
 a25:=Tryz.isAgg126
 z25:=Tryz.sizeOf126
 v25:=Tryz.zeroValue126
 t39:=Tryz.underlying151
 a39:=Tryz.isAgg151
 z39:=Tryz.sizeOf151
 v39:=Tryz.zeroValue151
 t45:=Tryz.underlying177
 a45:=Tryz.isAgg177
 z45:=Tryz.sizeOf177
 v45:=Tryz.zeroValue177
 t46:=Tryz.underlying178
 a46:=Tryz.isAgg178
 z46:=Tryz.sizeOf178
 v46:=Tryz.zeroValue178
 t50:=Tryz.underlying111
 a50:=Tryz.isAgg111
 z50:=Tryz.sizeOf111
 v50:=Tryz.zeroValue111
 t53:=Tryz.underlying184
 a53:=Tryz.isAgg184
 z53:=Tryz.sizeOf184
 v53:=Tryz.zeroValue184
 t55:=Tryz.underlying101
 a55:=Tryz.isAgg101
 z55:=Tryz.sizeOf101
 v55:=Tryz.zeroValue101
 t66:=Tryz.underlying189
 a66:=Tryz.isAgg189
 z66:=Tryz.sizeOf189
 v66:=Tryz.zeroValue189
 t70:=Tryz.underlying193
 a70:=Tryz.isAgg193
 z70:=Tryz.sizeOf193
 v70:=Tryz.zeroValue193
 t76:=Tryz.underlying198
 a76:=Tryz.isAgg198
 z76:=Tryz.sizeOf198
 v76:=Tryz.zeroValue198
 t77:=Tryz.underlying199
 a77:=Tryz.isAgg199
 z77:=Tryz.sizeOf199
 v77:=Tryz.zeroValue199 }
open Go.RowKit Go.Sort in
theorem Tryz.sort_none (p:Option Addr)(cap:Nat)(fv:Value)(w:World):Calls Tryz.prog 112 #[.slice p 0 cap,fv] w fun e w'=>e=.returned (.tuple #[])∧w'=w:=AnyF.slices_SortFunc_none Tryz.laysSort p cap fv w
open Go.RowKit Go.Sort in
theorem Tryz.sort_total {α:Type}[Inhabited α](aE:∀w,(isAgg 38).run Tryz.prog w=.ok true w)(zE:∀w,(Go.sizeOf 38).run Tryz.prog w=.ok 2 w)(enc:α→List Value)(hk:∀x,(enc x).length=2)(h1:∀x,∀v∈enc x,v.oneCell'=true)(cf:α→α→Int)(hO:SWO (ltOf cf))(hT:∀x y,(ltOf cf) x y=false→(ltOf cf) y x=false→x=y)(g:Nat)(eg:∀args w,(callFunc g args).run Tryz.prog w=.ok (.enter g args) w)(blk off cap:Nat)(d:Array α)(w:World)
  (hcmp:CmpLays Tryz.prog g #[] enc 2 cf blk off d.size w) (hH:HoldsK enc 2 w blk off d) (hblk:blk<w.heap.size) (hsz:d.size<4611686018427387904) :
  Calls Tryz.prog 112 #[.slice (some ⟨blk,off,none⟩) d.size cap,.func (.func g) #[] #[]] w fun e w'=>e=.returned (.tuple #[])∧∃n os,w'=sortWorldK enc 2 w blk off n (d.toList.mergeSort fun x y=>!(ltOf cf) y x).toArray os:=AnyQ.slices_SortFunc_total Tryz.laysSort 2 aE zE enc hk h1 cf hO g #[] blk off cap d w eg hcmp hH hblk hsz hT
end Go.Proofs

namespace Go.Proofs.YtdnpaifeoinjoaaGreatDoor
open Go.Sha Go.RowKit
set_option maxRecDepth 100000
variable {g:List (Nat×Obj)}{n:Nat}
def othR (r:Nat):Bool:=decide (r<48)||decide (57<r)
def q166:List V→Option VRes
 |[.str s,.str [c]]=>some (.ret (.int .i64 (Lib.indexByte s c)))
 |_=>none
def q174:List V→Option VRes
 |[.str s,.fn (.func 158) [] [],.bool true]=>some (.ret (.int .i64 (Lib.idxFunc othR true ⟨s.toArray⟩)))
 |_=>none
def HL0:EvF:=⟨[],fun f args st=>(bif Nat.beq f 166 then q166 args else bif Nat.beq f 174 then q174 args else none).map fun r=>(r,st)⟩
@[push_cast]theorem HL0_raw:HL0.raw=[]:=idq rfl
theorem k166 {s:List UInt8}{c:UInt8}{st:St}:run Tryz.prog HL0 166 [.str s,.str [c]] st=some (.ret (.int .i64 (Lib.indexByte s c)),st):=run_H rfl
theorem k174 {s:List UInt8}{st:St}:run Tryz.prog HL0 174 [.str s,.fn (.func 158) [] [],.bool true] st=some (.ret (.int .i64 (Lib.idxFunc othR true ⟨s.toArray⟩)),st):=run_H rfl
theorem idx_tw {c:UInt8}:∀{s:List UInt8},Lib.indexByte s c=if s.contains c=true then((s.takeWhile (· != c)).length:Int) else -1
 |[]=>rfl
 |b::s=>by
  have ih:=idx_tw (c:=c) (s:=s)
  rw[Lib.indexByte,ih]
  by_cases h:b=c
  ·subst h;simp
  ·have h2:(b == c)=false:=by simpa using h
   have h3:(b != c)=true:=by simpa using h
   rw[h2,List.takeWhile_cons,if_pos h3,List.contains_cons,show(c == b)=false by simpa using fun e=>h e.symm,Bool.false_or,List.length_cons]
   cases s.contains c
   ·rfl
   ·simp only[if_true]
    rw[if_neg (by simp),if_neg (by simp)];omega
theorem drop_tw {p:UInt8→Bool}{s:List UInt8}:s.drop ((s.takeWhile p).length+1)=(s.dropWhile p).drop 1:=by rw[←List.drop_drop,drop_w]
theorem tw_none {c:UInt8}:∀{s:List UInt8},s.contains c=false→s.takeWhile (· != c)=s∧s.dropWhile (· != c)=[]
 |[],_=>⟨rfl,rfl⟩
 |b::r,h=>by
  have hb:(b != c)=true:=by simp at h ⊢;exact fun e=>h.1 e.symm
  have hr:r.contains c=false:=by simp at h ⊢;exact h.2
  have:=tw_none hr
  simp only[List.takeWhile_cons,List.dropWhile_cons,hb,if_true]
  exact⟨by rw[this.1],this.2⟩
theorem k156 {s:List UInt8}{c:UInt8}(hl:s.length<140737488355328){st:St}:run Tryz.prog HL0 156 [.str s,.str [c]] st=some (.ret (.tup [.str (s.takeWhile (· != c)),.str ((s.dropWhile (· != c)).drop 1),.bool (s.contains c)]),st):=by
 have hi:=idx_tw (c:=c) (s:=s)
 have hle:=(List.takeWhile_sublist (· != c) (l:=s)).length_le
 rw[run_shut F156 rfl rfl rfl]
 cases h:s.contains c with
 |true =>
  have hlt:(s.takeWhile (· != c)).length<s.length:=by
   rcases Nat.lt_or_ge (s.takeWhile (· != c)).length s.length with h2|h2
   ·exact h2
   ·have e:s.takeWhile (· != c)=s:=(List.takeWhile_sublist _).eq_of_length (by omega)
    have:=List.all_takeWhile (p:=(· != c)) (l:=s)
    rw[e,List.all_eq_true]at this
    have:=this c (by simpa using h)
    simp at this
  rw[h,if_pos rfl]at hi
  have hd:=drop_tw (p:=(· != c)) (s:=s)
  have ht:=take_w (p:=(· != c)) (s:=s)
  generalize s.takeWhile (· != c)=a at *
  have hw:IntKind.i64.wrap ((a.length:Int)+1)=((a.length+1:Nat):Int):=iwrap (by omega) (by omega)
  push_cast[k166,hi,hw,ht]
  exact dn_eq (by omega) (by rw[List.take_length,show((a.length:Int)+1).toNat=a.length+1 by omega,hd])
 |false =>
  rw[h,if_neg (by simp)]at hi
  obtain⟨e1,e2⟩:=tw_none h
  rw[e1,e2]
  push_cast[k166,hi]
theorem k136 {s:List UInt8}{c:UInt8}(hl:s.length<140737488355328){st:St}:run Tryz.prog HL0 136 [.str s,.str [c]] st=some (.ret (.tup [.str (s.takeWhile (· != c)),.str ((s.dropWhile (· != c)).drop 1),.bool (s.contains c)]),st):=by
 have h:=fun(st:St)=>k156 (c:=c) (st:=st) hl
 rw[run_shut F136 rfl rfl rfl]
 push_cast[h]
theorem k140 {s t:List UInt8}(hl:s.length<140737488355328)(ht:t.length≤s.length+1000){st:St}:run Tryz.prog HL0 140 [.str s,.str t] st=some (.ret (.bool (t.isSuffixOf s)),st):=by
 have h:∀st,run Tryz.prog HL0 159 [.str s,.str t] st=some (.ret (.bool (t.isSuffixOf s)),st):=fun st=>by
  rw[run_shut F159 rfl rfl rfl]
  by_cases h:t.length≤s.length
  ·have h1:(t.length:Int)≤s.length:=by omega
   have hw:IntKind.i64.wrap ((s.length:Int)-t.length)=((s.length-t.length:Nat):Int):=by rw[iwrap (by omega) (by omega)];omega
   have e:t.isSuffixOf s=(s.drop (s.length-t.length) == t):=by
    rw[Bool.eq_iff_iff,List.isSuffixOf_iff_suffix,List.suffix_iff_eq_drop,beq_iff_eq]
    exact⟨fun h=>h.symm,fun h=>h.symm⟩
   have h2:((s.length-t.length:Nat):Int)≤s.length:=by omega
   generalize s.length-t.length=k at *
   push_cast[h1,hw,h2,List.take_length,e]
  ·have h1:¬(t.length:Int)≤s.length:=by omega
   have e:t.isSuffixOf s=false:=by
    rw[←Bool.not_eq_true,List.isSuffixOf_iff_suffix]
    exact fun h2=>h h2.length_le
   push_cast[h1,e]
 rw[run_shut F140 rfl rfl rfl]
 push_cast[h]
theorem oth_from (s:ByteArray):∀(f pos:Nat),s.size≤pos+f→(decide (Lib.idxFuncFrom othR true s f pos<0))=(s.data.toList.drop pos).all isD
 |0,pos,h=>by
  rw[List.drop_eq_nil_of_le (by rw[Array.length_toList];exact h)];rfl
 |f+1,pos,h=>by
  unfold Lib.idxFuncFrom
  by_cases hp:pos<s.size
  ·have hp':pos<s.data.toList.length:=by rw[Array.length_toList];exact hp
   have hb:s.data.toList[pos]'hp'=s[pos]'hp:=rfl
   rw[if_pos hp,List.drop_eq_getElem_cons hp',List.all_cons,hb]
   by_cases ha:(s[pos]'hp).toNat<128
   ·rw[decode_ascii s pos hp ha]
    have ih:=oth_from s f (pos+1) (by omega)
    cases hd:isD (s[pos]'hp) with
    |true =>
     have:¬othR (s[pos]'hp).toNat=true:=by
      simp only[isD,Bool.and_eq_true,decide_eq_true_eq]at hd
      simp only[othR,Bool.or_eq_true,decide_eq_true_eq];omega
     rw[if_neg this,ih];rfl
    |false =>
     have:othR (s[pos]'hp).toNat=true:=by
      simp only[isD,Bool.and_eq_false_iff,decide_eq_false_iff_not]at hd
      simp only[othR,Bool.or_eq_true,decide_eq_true_eq];omega
     rw[if_pos this]
     simp
   ·obtain⟨h1,h2⟩:=decode_high s pos hp (by omega)
    have:othR (Utf8.decode s pos).1=true:=by
     simp only[othR,Bool.or_eq_true,decide_eq_true_eq];omega
    have hd:isD (s[pos]'hp)=false:=by
     simp only[isD,Bool.and_eq_false_iff,decide_eq_false_iff_not];omega
    rw[if_pos this,hd]
    simp
  ·rw[if_neg hp,List.drop_eq_nil_of_le (by rw[Array.length_toList];exact Nat.le_of_not_lt hp)];rfl
theorem oth_idx (s:List UInt8):decide (Lib.idxFunc othR true ⟨s.toArray⟩<0)=s.all isD:=by
 have:=oth_from ⟨s.toArray⟩ s.length 0 (by simp[ByteArray.size])
 simpa [Lib.idxFunc,ByteArray.size] using this
theorem k157 {s:List UInt8}{st:St}:run Tryz.prog HL0 157 [.str s,.fn (.func 158) [] []] st=some (.ret (.bool (s.any (!isD ·))),st):=by
 have h:∀st,run Tryz.prog HL0 167 [.str s,.fn (.func 158) [] []] st=some (.ret (.int .i64 (Lib.idxFunc othR true ⟨s.toArray⟩)),st):=fun st=>by
  rw[run_shut F167 rfl rfl rfl]
  push_cast[k174]
 have e:decide (0≤Lib.idxFunc othR true ⟨s.toArray⟩)=s.any (!isD ·):=by
  have:=oth_idx s
  have h2:decide (0≤Lib.idxFunc othR true ⟨s.toArray⟩)=!(decide (Lib.idxFunc othR true ⟨s.toArray⟩<0)):=by
   rw[Bool.eq_iff_iff];simp
  rw[h2,this,List.not_all_eq_any_not]
 rw[run_shut F157 rfl rfl rfl]
 push_cast[h,e]
theorem callable166:Callable Tryz.prog 166:=⟨_,Tryz.func166,by kernel_rfl,by kernel_rfl⟩
theorem callable174:Callable Tryz.prog 174:=⟨_,Tryz.func174,by kernel_rfl,by kernel_rfl⟩
theorem callable178:Callable Tryz.prog 178:=⟨_,Tryz.func178,by kernel_rfl,by kernel_rfl⟩
theorem v166 (s:List UInt8)(c:UInt8)(st:St):VRet Tryz.prog 166 [.str s,.str [c]] st (.int .i64 (Lib.indexByte s c)) st:=by
 refine VRet_of_below callable166 (fun w A vs hw ha=>?_)
 obtain⟨hl,ha⟩:=ha
 match vs,hl with
 |[u,v],_ =>
 have e1:=(ha 0 u _ rfl rfl).str_inv
 have e2:=(ha 1 v _ rfl rfl).str_inv
 subst e1;subst e2
 refine(Tryz.stringslite_Index_one ⟨s.toArray⟩ c w).mono fun e w' ⟨he,hb⟩=>?_
 subst he;subst hb
 exact⟨_,rfl,fun w' A'=>.int _ _,Below.refl _ _⟩
theorem pred280 (w:World):PredAt Tryz.prog 158 #[] encR othR w:=fun W r _=>by
 unfold FnGives
 by_cases h1:r<48<;>by_cases h2:57<r
 all_goals
  have z1:(r:Int)<48↔r<48:=by omega
  have z2:(57:Int)<(r:Int)↔57<r:=by omega
  go_enter Tryz.func158,Tryz.ntmps158
  go_wp2
  all_goals first|(exfalso;omega)|(go_ret;exact⟨by simp[othR,h1,h2],0,rfl⟩)
theorem v174 (s:List UInt8)(st:St):VRet Tryz.prog 174 [.str s,.fn (.func 158) [] [],.bool true] st (.int .i64 (Lib.idxFunc othR true ⟨s.toArray⟩)) st:=by
 refine VRet_of_below callable174 (fun w A vs hw ha=>?_)
 obtain⟨hl,ha⟩:=ha
 match vs,hl with
 |[v0,v1,v2],_ =>
 have e0:=(ha 0 v0 _ rfl rfl).str_inv
 have r1:=ha 1 v1 _ rfl rfl
 have e2:=(ha 2 v2 _ rfl rfl).bool_inv
 have e1:v1=.func (.func 158) #[] #[]:=by
  cases r1 with
  |fn _ vs us _ _ e1 e2 _ _ =>
   have h1:vs=[]:=List.eq_nil_of_length_eq_zero e1
   have h2:us=[]:=List.eq_nil_of_length_eq_zero e2
   rw[h1,h2]
 subst e0;subst e1;subst e2
 refine(Tryz.strings_indexFunc 158 #[] (enters_of Tryz.func158 (by kernel_rfl) rfl) othR true ⟨s.toArray⟩ w (pred280 w)).mono fun e w' ⟨he,hb⟩=>?_
 subst he
 exact⟨_,rfl,fun w' A'=>.int _ _,hb⟩
theorem HL0_ok:ESound Tryz.prog HL0:=fun f args st r s h=>by
 obtain⟨z,hz,e⟩:=Option.map_eq_some_iff.1 h
 cases e
 by_cases h1:f=166
 ·subst h1
  rw[show Nat.beq 166 166=true from rfl,cond_true]at hz
  unfold q166 at hz
  split at hz<;>cases hz
  exact v166 _ _ _
 rw[show Nat.beq f 166=false from Bool.eq_false_iff.2 fun e=>h1 (Nat.eq_of_beq_eq_true e),cond_false]at hz
 by_cases h3:f=174
 ·subst h3
  rw[show Nat.beq 174 174=true from rfl,cond_true]at hz
  unfold q174 at hz
  split at hz<;>cases hz
  exact v174 _ _
 rw[show Nat.beq f 174=false from Bool.eq_false_iff.2 fun e=>h3 (Nat.eq_of_beq_eq_true e),cond_false]at hz
 cases hz
end Go.Proofs.YtdnpaifeoinjoaaGreatDoor

namespace Go.Proofs.YtdnpaifeoinjoaaGreatDoor
open Go.Sha Go.RowKit
set_option maxRecDepth 100000
theorem parse_digs:∀(s:List UInt8) (acc:Nat),s.all isD=true→acc<18446744073709551616→Lib.parseUint10 acc s=if s.foldl (fun n b=>10*n+(b.toNat-48)) acc<18446744073709551616 then .ok (s.foldl (fun n b=>10*n+(b.toNat-48)) acc) else .range
 |[],acc,_,h=>by simp[Lib.parseUint10,h]
 |b::s,acc,h,ha=>by
  have mono:∀(s:List UInt8) (n:Nat),n≤s.foldl (fun n b=>10*n+(b.toNat-48)) n:=by
   intro s
   induction s with
   |nil=>intro n;exact Nat.le_refl _
   |cons c s ih=>intro n;rw[List.foldl_cons];refine Nat.le_trans ?_ (ih _);omega
  simp only[List.all_cons,Bool.and_eq_true]at h
  obtain⟨hb,hs⟩:=h
  have hb':48≤b.toNat∧b.toNat≤57:=by
   simp only[isD,Bool.and_eq_true,decide_eq_true_eq]at hb;omega
  rw[Lib.parseUint10,if_pos hb',List.foldl_cons]
  have hm:=mono s (10*acc+(b.toNat-48))
  by_cases h1:1844674407370955162≤acc
  ·rw[if_pos h1,if_neg (by omega)]
  ·rw[if_neg h1]
   by_cases h2:18446744073709551616≤acc*10+(b.toNat-48)
   ·rw[if_pos h2,if_neg (by omega)]
   ·rw[if_neg h2,parse_digs s _ hs (by omega),Nat.mul_comm]
theorem atoi_digs {s:List UInt8}(h0:s≠[])(h:s.all isD=true):Lib.atoiAll s=if natOf s<9223372036854775808 then .ok (natOf s:Int) else .range:=by
 cases s with
 |nil=>exact absurd rfl h0
 |cons b s =>
  have hb:isD b=true:=by simp only[List.all_cons,Bool.and_eq_true]at h;exact h.1
  have hb':48≤b.toNat∧b.toNat≤57:=by
   simp only[isD,Bool.and_eq_true,decide_eq_true_eq]at hb;omega
  rw[Lib.atoiAll_plain b s (by omega) (by omega),Lib.parseMag,if_neg (by simp),parse_digs (b::s) 0 h (by omega)]
  show Lib.signless (if natOf (b::s)<18446744073709551616 then .ok (natOf (b::s)) else .range)=_
  by_cases h1:natOf (b::s)<18446744073709551616
  ·rw[if_pos h1]
   unfold Lib.signless
   by_cases h2:natOf (b::s)<9223372036854775808
   ·rw[if_pos h2];simp only;rw[if_neg (by omega)]
   ·rw[if_neg h2];simp only;rw[if_pos (by omega)]
  ·rw[if_neg h1,if_neg (by omega)];rfl
theorem natOf_lt:∀{s:List UInt8}{n:Nat},s.all isD=true→s.foldl (fun n b=>10*n+(b.toNat-48)) n<(n+1)*10 ^ s.length
 |[],n,_=>by simp
 |b::s,n,h=>by
  simp only[List.all_cons,Bool.and_eq_true]at h
  have hb:b.toNat≤57:=by have:=h.1;simp only[isD,Bool.and_eq_true,decide_eq_true_eq]at this;omega
  have ih:=natOf_lt (s:=s) (n:=10*n+(b.toNat-48)) h.2
  rw[List.foldl_cons,List.length_cons,Nat.pow_succ]
  refine Nat.lt_of_lt_of_le ih ?_
  rw[show(n+1)*(10 ^ s.length*10)=((n+1)*10)*10 ^ s.length by rw[Nat.mul_comm (10 ^ s.length),Nat.mul_assoc]]
  exact Nat.mul_le_mul_right _ (by omega)
theorem v178 (s:List UInt8)(st:St)(h0:s≠[])(h:s.all isD=true)(hl:s.length≤18):VRet Tryz.prog 178 [.str s] st (.tup [.int .i64 (natOf s),.nili]) st:=by
 have hn:natOf s<9223372036854775808:=by
  have h1:=natOf_lt (n:=0) h
  have h2:10 ^ s.length≤10 ^ 18:=Nat.pow_le_pow_right (by omega) hl
  unfold natOf;omega
 refine VRet_of_below callable178 (fun w A vs hw ha=>?_)
 obtain⟨u,rfl,h1⟩:=ha.one
 have e1:=h1.str_inv
 subst e1
 have hat:=atoi_digs h0 h
 rw[if_pos hn]at hat
 refine(Tryz.strconv_Atoi_ok ⟨s.toArray⟩ (by simp[ByteArray.size];omega) (natOf s:Int) (by simpa using hat) w).mono fun e w' ⟨he,hb⟩=>?_
 subst he
 refine⟨_,rfl,fun w' A'=>?_,?_⟩
 ·refine .tup [.int .i64 (natOf s),.nilIface] [.int .i64 (natOf s),.nili] rfl (fun i v c h1 h2=>?_)
  match i,h1,h2 with
  |0,h1,h2=>simp at h1 h2;subst h1 h2;exact .int _ _
  |1,h1,h2=>simp at h1 h2;subst h1 h2;exact .nili
 ·rcases hb with rfl|⟨t,rfl⟩
  ·exact Below.refl _ _
  ·exact Lib.bytesWorld_below w 5 t
theorem callable112:Callable Tryz.prog 112:=⟨_,Tryz.func112,by kernel_rfl,by kernel_rfl⟩
open Go.Sort in
def PB:Type:={ p:Prm // 0≤p.chan∧p.chan≤999∧0≤p.attr∧p.attr≤14 }
instance:Inhabited PB:=⟨⟨⟨0,0⟩,by decide⟩⟩
def encP (p:PB):List Value:=[.int .i64 p.1.chan,.int .i64 p.1.attr]
def cmpB (p q:PB):Int:=if p.1.chan≠q.1.chan then p.1.chan-q.1.chan else p.1.attr-q.1.attr
open Go.Sort Go.Proofs in
theorem lt_B {x y:PB}:ltOf cmpB x y=decide (x.1.chan<y.1.chan∨x.1.chan=y.1.chan∧x.1.attr<y.1.attr):=by
 unfold ltOf cmpB
 split
 ·rename_i h;rw[Bool.eq_iff_iff];simp only[decide_eq_true_eq];omega
 ·rename_i h;rw[Bool.eq_iff_iff];simp only[decide_eq_true_eq];omega
open Go.Sort Go.Proofs in
theorem swo_B:SWO (ltOf cmpB) where
 irrefl x:=by rw[lt_B];simp
 trans x y z h1 h2:=by rw[lt_B]at *;simp only[decide_eq_true_eq]at *;omega
 ntrans x y z h1 h2:=by rw[lt_B]at *;simp only[decide_eq_false_iff_not]at *;omega
open Go.Sort Go.Proofs in
theorem tot_B (x y:PB)(h1:ltOf cmpB x y=false)(h2:ltOf cmpB y x=false):x=y:=by
 rw[lt_B]at h1 h2
 simp only[decide_eq_false_iff_not]at h1 h2
 obtain⟨⟨a,b⟩,hx⟩:=x
 obtain⟨⟨c,d⟩,hy⟩:=y
 simp only at h1 h2
 have e1:a=c:=by omega
 have e2:b=d:=by omega
 subst e1;subst e2;rfl
theorem pb_list:∀{xs:List V},xs.all okPV=true→∃l:List PB,xs=l.map fun p=>p.1.v
 |[],_=>⟨[],rfl⟩
 |x::r,h=>by
  simp only[List.all_cons,Bool.and_eq_true]at h
  obtain⟨l,rfl⟩:=pb_list h.2
  have h1:=h.1
  unfold okPV at h1
  split at h1
  ·rename_i c a
   simp only[Bool.and_eq_true,decide_eq_true_eq]at h1
   exact⟨⟨⟨c,a⟩,by dsimp only;omega⟩::l,rfl⟩
  ·cases h1
open Go.Sort Go.Proofs in
theorem v81g {G:Nat}(eg:∀args w,(callFunc G args).run Tryz.prog w=.ok (.enter G args) w)(hc:∀(x y:PB) (W:World),Calls Tryz.prog G #[.agg (encP x).toArray,.agg (encP y).toArray] W fun e w'=>e=.returned (.int .i64 (cmpB x y))∧∃q os',w'=Go.Sort.grow (W.drewN q) os'){st:St}{id:Nat}{r:Arr}(hid:Sha.look st.arr id=some r)(hes:r.es=2)(hw:r.wr=true)(hbig:r.xs.length≤100000000)(hok:r.xs.all okPV=true) :
  VCalls Tryz.prog 112 [.osl id r.xs.length,.fn (.func G) [] []] st fun x s=>x=.ret (.tup [])∧s=⟨st.nx,st.mem,updA st.arr id { r with xs:=r.xs.mergeSort leV },st.x⟩:=by
 obtain⟨l,hl⟩:=pb_list hok
 have hlen:l.length=r.xs.length:=by rw[hl,List.length_map]
 have h:=VCalls_sort (P:=Tryz.prog) (F:=112) callable112 (k:=2) (by omega) (enc:=encP) (fun _=>rfl) (fun x v hv=>by
   simp[encP]at hv;rcases hv with rfl|rfl<;>rfl) (f:=fun p:PB=>p.1.v) (fun _=>rfl) (fun {w A x j v c} hc hr=>by
   match j,hc with
   |0,hc=>cases hc;cases hr;rfl
   |1,hc=>cases hc;cases hr;rfl
   |j+2,hc=>simp[Prm.v,V.cells]at hc) (fun {w A x j v c} hv hc=>by
   match j,hv,hc with
   |0,hv,hc=>cases hv;cases hc;exact .int _ _
   |1,hv,hc=>cases hv;cases hc;exact .int _ _
   |j+2,hv,hc=>simp[encP]at hv) (cf:=cmpB) (g:=G)
  (fun p cap fv w=>Tryz.sort_none p cap fv w)
  (fun blk off cap d w h1 h2 h3 h4=>Tryz.sort_total Tryz.isAgg38 Tryz.sizeOf38 encP (fun _=>rfl) (fun x v hv=>by
   simp[encP]at hv;rcases hv with rfl|rfl<;>rfl) cmpB swo_B tot_B G eg blk off cap d w h1 h2 h3 h4)
  hc (st:=st) (l:=l) hid hl hes hw (by omega)
 rw[hlen]at h
 have e:(l.mergeSort fun x y=>!ltOf cmpB y x).map (fun p:PB=>p.1.v)=r.xs.mergeSort leV:=by
  rw[hl]
  refine List.map_mergeSort (fun a _ b _=>?_)
  rw[lt_B]
  simp only[Prm.v,leV]
  rw[Bool.eq_iff_iff]
  simp
 rw[e]at h
 exact h
end Go.Proofs.YtdnpaifeoinjoaaGreatDoor

namespace Go.Proofs.YtdnpaifeoinjoaaGreatDoor
open Go.Sha Go.RowKit
set_option maxRecDepth 100000
theorem clos229 (x y:PB)(W:World):Calls Tryz.prog 82 #[.agg (encP x).toArray,.agg (encP y).toArray] W fun e w'=>e=.returned (.int .i64 (cmpB x y))∧∃q os',w'=Go.Sort.grow (W.drewN q) os':=by
 obtain⟨⟨a,b⟩,hx⟩:=x
 obtain⟨⟨c,d⟩,hy⟩:=y
 simp only at hx hy
 have w1:IntKind.i64.wrap (a-c)=a-c:=iwrap (by omega) (by omega)
 have w2:IntKind.i64.wrap (b-d)=b-d:=iwrap (by omega) (by omega)
 simp only[encP,cmpB]
 by_cases h:a=c
 ·rw[if_neg (by simp[h])]
  subst h
  go_enter Tryz.func82,Tryz.ntmps82
  go_wp2
  go_ret
  exact⟨rfl,0,_,by rw[Go.Sort.alloc_eq_grow,Go.Sort.alloc_eq_grow,Go.Sort.grow_grow];rfl⟩
 ·rw[if_pos h]
  go_enter Tryz.func82,Tryz.ntmps82
  go_wp2
  go_ret
  exact⟨rfl,0,_,by rw[Go.Sort.alloc_eq_grow,Go.Sort.alloc_eq_grow,Go.Sort.grow_grow];rfl⟩
theorem v81F {st:St}{id:Nat}{r:Arr}(hid:Sha.look st.arr id=some r)(hes:r.es=2)(hw:r.wr=true)(hbig:r.xs.length≤100000000)(hok:r.xs.all okPV=true) :
  VCalls Tryz.prog 112 [.osl id r.xs.length,.fn (.func 82) [] []] st fun x s=>x=.ret (.tup [])∧s=⟨st.nx,st.mem,updA st.arr id { r with xs:=r.xs.mergeSort leV },st.x⟩ :=
 v81g (enters_of Tryz.func82 (by kernel_rfl) rfl) clos229 hid hes hw hbig hok
theorem HSF_ok:ESound Tryz.prog HSF:=fun f args st r s h=>by
 simp only[HSF]at h
 by_cases h1:f=112
 ·subst h1
  rw[show Nat.beq 112 112=true from rfl,cond_true]at h
  unfold hSortF at h
  split at h
  ·rename_i id n
   unfold hSortA at h
   split at h
   ·rename_i r0 hr
    split at h
    ·rename_i hc
     cases h
     obtain⟨c1,c2,c3,c4,c5⟩:=hc
     subst c1
     exact v81F hr c3 c4 c2 c5
    ·cases h
   ·cases h
  ·cases h
 ·rw[show Nat.beq f 112=false from Bool.eq_false_iff.2 fun e=>h1 (Nat.eq_of_beq_eq_true e)]at h;cases h
end Go.Proofs.YtdnpaifeoinjoaaGreatDoor

namespace Go.Proofs.YtdnpaifeoinjoaaGreatDoor
open Go.Sha
set_option maxRecDepth 100000
theorem HH_ok:ESound Tryz.prog HH:=fun f args st r s h=>by
 simp only[HH]at h
 cases hm:memL f [45,66,75,93,97,112,143] with
 |true =>
  rw[hm,cond_true]at h
  simp only[hSl]at h
  by_cases h1:f=45
  ·subst h1
   exact cln_ok (e:=45) (es:=5) (b:=40) (by kernel_rfl) h
  rw[show Nat.beq f 45=false from Bool.eq_false_iff.2 fun e=>h1 (Nat.eq_of_beq_eq_true e),cond_false]at h
  by_cases h1:f=66
  ·subst h1
   exact ins_ok slM bearsI ovM rfl (by decide) h
  rw[show Nat.beq f 66=false from Bool.eq_false_iff.2 fun e=>h1 (Nat.eq_of_beq_eq_true e),cond_false]at h
  by_cases h1:f=112
  ·subst h1
   rw[show Nat.beq 112 112=true from rfl,cond_true]at h
   unfold hSort at h
   split at h
   ·rename_i id n
    unfold hSortA at h
    split at h
    ·rename_i r0 hr
     split at h
     ·rename_i hc
      cases h
      obtain⟨c1,c2,c3,c4,c5⟩:=hc
      subst c1
      exact v81F hr c3 c4 c2 c5
     ·cases h
    ·cases h
   ·cases h
  rw[show Nat.beq f 112=false from Bool.eq_false_iff.2 fun e=>h1 (Nat.eq_of_beq_eq_true e),cond_false]at h
  by_cases h1:f=75
  ·subst h1
   exact cln_ok (e:=42) (es:=4) (b:=32) (by kernel_rfl) h
  rw[show Nat.beq f 75=false from Bool.eq_false_iff.2 fun e=>h1 (Nat.eq_of_beq_eq_true e),cond_false]at h
  by_cases h1:f=93
  ·subst h1
   exact cln_ok (e:=30) (es:=9) (b:=120) (by kernel_rfl) h
  rw[show Nat.beq f 93=false from Bool.eq_false_iff.2 fun e=>h1 (Nat.eq_of_beq_eq_true e),cond_false]at h
  by_cases h1:f=143
  ·subst h1
   exact cln_ok (e:=161) (es:=6) (b:=48) (by kernel_rfl) h
  rw[show Nat.beq f 143=false from Bool.eq_false_iff.2 fun e=>h1 (Nat.eq_of_beq_eq_true e),cond_false]at h
  by_cases h1:f=97
  ·subst h1
   exact grw_ok basT (ρ:=rnG) rfl rfl rfl rfl rfl rfl bearsG rfl (by decide) Tryz.underlying34 Tryz.isAgg34 Tryz.sizeOf34 Tryz.zeroValue34 infoG rfl h
  rw[show Nat.beq f 97=false from Bool.eq_false_iff.2 fun e=>h1 (Nat.eq_of_beq_eq_true e),cond_false]at h
  cases h
 |false =>
 rw[hm,cond_false]at h
 obtain⟨z,hz,e⟩:=Option.map_eq_some_iff.1 h
 cases e
 by_cases h1:f=136
 ·subst h1
  rw[show Nat.beq 136 136=true from rfl,cond_true]at hz
  unfold hCut at hz
  split at hz
  ·split at hz
   ·rename_i hl;cases hz;exact run_sound mixed HL0_ok _ _ _ _ _ (k136 hl)
   ·cases hz
  ·cases hz
 rw[show Nat.beq f 136=false from Bool.eq_false_iff.2 fun e=>h1 (Nat.eq_of_beq_eq_true e),cond_false]at hz
 by_cases h1:f=140
 ·subst h1
  rw[show Nat.beq 140 140=true from rfl,cond_true]at hz
  unfold hSuf at hz
  split at hz
  ·split at hz
   ·rename_i hl;cases hz;exact run_sound mixed HL0_ok _ _ _ _ _ (k140 hl.1 hl.2)
   ·cases hz
  ·cases hz
 rw[show Nat.beq f 140=false from Bool.eq_false_iff.2 fun e=>h1 (Nat.eq_of_beq_eq_true e),cond_false]at hz
 by_cases h1:f=157
 ·subst h1
  rw[show Nat.beq 157 157=true from rfl,cond_true]at hz
  unfold hAny at hz
  split at hz
  ·cases hz;exact run_sound mixed HL0_ok _ _ _ _ _ k157
  ·cases hz
 rw[show Nat.beq f 157=false from Bool.eq_false_iff.2 fun e=>h1 (Nat.eq_of_beq_eq_true e),cond_false]at hz
 by_cases h1:f=178
 ·subst h1
  rw[show Nat.beq 178 178=true from rfl,cond_true]at hz
  unfold hAtoi at hz
  split at hz
  ·split at hz
   ·rename_i hl;cases hz;exact v178 _ _ hl.1 hl.2.1 hl.2.2
   ·cases hz
  ·cases hz
 rw[show Nat.beq f 178=false from Bool.eq_false_iff.2 fun e=>h1 (Nat.eq_of_beq_eq_true e),cond_false]at hz
 by_cases h1:f=69
 ·subst h1
  rw[show Nat.beq 69 69=true from rfl,cond_true]at hz
  unfold hVal at hz
  split at hz
  ·rename_i x y cs a c d
   split at hz
   ·rename_i l hl
    split at hz
    ·rename_i hc
     simp only[Bool.and_eq_true,decide_eq_true_eq,List.all_eq_true]at hc
     obtain⟨⟨⟨⟨c1,c2⟩,c3⟩,c4⟩,c5⟩:=hc
     cases hz
     have ea:a=(a.toNat:Int):=by omega
     have:=v69 x y l a.toNat ⟨c,d⟩ st (by omega) c3 c4 (fun z hz=>(c5 z hz).1) (fun z hz=>by have:=(c5 z hz).2;omega)
     rw[←ea,←rdL_map rdCu_v hl]at this
     exact this
    ·cases hz
   ·cases hz
  ·cases hz
 rw[show Nat.beq f 69=false from Bool.eq_false_iff.2 fun e=>h1 (Nat.eq_of_beq_eq_true e),cond_false]at hz
 by_cases h1:f=68
 ·subst h1
  rw[show Nat.beq 68 68=true from rfl,cond_true]at hz
  unfold hFtp at hz
  split at hz
  ·rename_i x y cs
   split at hz
   ·rename_i l hl
    split at hz
    ·rename_i hc
     cases hz
     have:=v68 HSF_ok (x:=⟨x,y,l⟩) hc (st:=st)
     simp only[Lst.v]at this
     rw[←rdL_map rdCu_v hl]at this
     exact this
    ·cases hz
   ·cases hz
  ·cases hz
 rw[show Nat.beq f 68=false from Bool.eq_false_iff.2 fun e=>h1 (Nat.eq_of_beq_eq_true e),cond_false]at hz
 cases hz
end Go.Proofs.YtdnpaifeoinjoaaGreatDoor

namespace Go.Proofs.YtdnpaifeoinjoaaGreatDoor
open Go.RowKit Go.Shelf
attribute [local go_sem] Oper.semAt_some
theorem lt_cell {W:World}{k i:Nat}{v:Value}(h:W.cell? ⟨k,i,none⟩=some v):k<W.heap.size:=by
 unfold World.cell? at h
 rcases Nat.lt_or_ge k W.heap.size with h1|h1
 ·exact h1
 ·simp[Array.getElem?_eq_none h1]at h
set_option maxRecDepth 100000 in
set_option maxHeartbeats 4000000 in
theorem origin_calls (w : World)(b off len cap a : Nat)(s0 s1 s7 : Nat → ByteArray)(a2 a3 : Nat → Option Addr)(n2 k2 n3 k3 : Nat → Nat)(b5 : Nat → Bool)(i6 i8 : Nat → Int)(bl : Nat → Bool)(v0 v1 : Value)(num : ByteArray)(c d : Int)(hcd : 1 ≤ c ∧ c ≤ 999 ∧ 0 ≤ d ∧ d ≤ 14)(m1 m2 : Nat → Int)(ok : Nat → Bool)(hlen : len * 144 ≤ 140737488351232)(hb : b < w.heap.size)(ha : a < len)
    (hc : ∀ j, j < len → Box9 (fun x => .string (s0 x)) (fun x => .string (s1 x)) (fun x => .slice (a2 x) (n2 x) (k2 x)) (fun x => .slice (a3 x) (n3 x) (k3 x)) bl (fun x => .bool (b5 x)) (fun x => .int .i64 (i6 x)) (fun x => .string (s7 x)) (fun x => .int .i64 (i8 x)) w b (off + j * 9) j)
    (hmove : ∀ x W, Below w.heap.size w W → Calls Tryz.prog 41 #[.agg #[.string (s0 x), .string (s1 x), .slice (a2 x) (n2 x) (k2 x), .slice (a3 x) (n3 x) (k3 x), .bool (bl x), .bool (b5 x), .int .i64 (i6 x), .string (s7 x), .int .i64 (i8 x)], .agg #[.int .i64 c, .int .i64 d]] W fun e W' => e = .returned (.tuple #[.agg #[.int .i64 (m1 x), .int .i64 (m2 x)], .bool (ok x)]) ∧ Below W.heap.size W W')
    (hplace : ∀ W, Below w.heap.size w W → Calls Tryz.prog 32 #[.agg #[v0, v1, .slice (some ⟨b, off, none⟩) len cap], .string num] W fun e W' => e = .returned (.tuple #[.int .i64 a, .int .i64 0]) ∧ Below W.heap.size W W') :
    Calls Tryz.prog 20 #[.agg #[v0, v1, .slice (some ⟨b, off, none⟩) len cap], .string num, .agg #[.int .i64 c, .int .i64 d]] w fun e W' =>
      ((∃ k, k ≤ a + 1 ∧ (∀ x ∈ dnL a k, ok x = false) ∧ (k = a + 1 ∨ 0 < k ∧ bl (a + 1 - k) = true) ∧ (∀ j, 0 < j → j < k → bl (a + 1 - j) = false) ∧ e = .returned (.tuple #[.string ⟨#[]⟩, .bool false, .int .i64 0])) ∨
       (∃ k, k < a + 1 ∧ (∀ x ∈ dnL a k, ok x = false) ∧ ok (a - k) = true ∧ (∀ j, 0 < j → j ≤ k → bl (a + 1 - j) = false) ∧ e = .returned (.tuple #[.string (s0 (a - k)), .bool true, .int .i64 0]))) ∧ Below w.heap.size w W' := by
  have c1 : ¬ c < 1 := by omega
  have c2 : ¬ 999 < c := by omega
  have c3 : ¬ d < 0 := by omega
  have c4 : ¬ 15 ≤ d := by omega
  refine (callsIn_wide (n := 3)).1 ?_
  refine callsIn_of_wp_marks Tryz.func20 rfl trivial ?_ rfl
  simp only [Tryz.ntmps20, List.size_toArray, List.length_cons, List.length_nil, Nat.reduceAdd, Nat.reduceSub, Array.replicate_succ, Array.replicate_zero, List.push_toArray, List.append_toArray, List.nil_append, List.cons_append]
  have h5 : (((((w.alloc (.cells #[v0, v1, .slice (some ⟨b, off, none⟩) len cap] 24)).alloc (.cells #[.int .i64 c, .int .i64 d] 38)).alloc (.cells #[.string ⟨#[]⟩] 9)).alloc (.cells #[.bool false] 4)).alloc (.cells #[.int .i64 0] 31)).heap.size = w.heap.size + 1 + 1 + 1 + 1 + 1 := by simp
  have g0 : (((((w.alloc (.cells #[v0, v1, .slice (some ⟨b, off, none⟩) len cap] 24)).alloc (.cells #[.int .i64 c, .int .i64 d] 38)).alloc (.cells #[.string ⟨#[]⟩] 9)).alloc (.cells #[.bool false] 4)).alloc (.cells #[.int .i64 0] 31)).heap[w.heap.size]? = some (.cells #[v0, v1, .slice (some ⟨b, off, none⟩) len cap] 24) := by
    show (((((w.heap.push _).push _).push _).push _).push _)[_]? = _
    simp only [Array.getElem?_push, Array.size_push]
    rw [if_neg (by omega), if_neg (by omega), if_neg (by omega), if_neg (by omega), if_pos trivial]
  obtain ⟨g1, g2, g3, g4⟩ := heap5 w (.cells #[v0, v1, .slice (some ⟨b, off, none⟩) len cap] 24) (.cells #[.int .i64 c, .int .i64 d] 38) (.cells #[.string ⟨#[]⟩] 9) (.cells #[.bool false] 4) (.cells #[.int .i64 0] 31)
  gi_wp2_with (first | (refine ⟨trivial, ?_⟩; gi_at_call 32; refine (callsIn_wide.2 (hplace _ ((((((Below.refl _ w).alloc (Nat.le_refl _) _).alloc (by simp) _).alloc (by simp; omega) _).alloc (by simp; omega) _).alloc (by simp; omega) _))).mono ?_; rintro e w' ⟨rfl, hBp⟩; have qa : w'.cell? ⟨w.heap.size, 0, none⟩ = some v0 := (hBp.cell (p := ⟨w.heap.size, 0, none⟩) (by simp <;> omega)).trans (cell_at g0); have qb : w'.cell? ⟨w.heap.size, 1, none⟩ = some v1 := (hBp.cell (p := ⟨w.heap.size, 1, none⟩) (by simp <;> omega)).trans (cell_at g0); have qc : w'.cell? ⟨w.heap.size, 2, none⟩ = some (.slice (some ⟨b, off, none⟩) len cap) := (hBp.cell (p := ⟨w.heap.size, 2, none⟩) (by simp <;> omega)).trans (cell_at g0); have q3 : w'.cell? ⟨w.heap.size + 1, 0, none⟩ = some (.int .i64 c) := (hBp.cell (p := ⟨w.heap.size + 1, 0, none⟩) (by simp <;> omega)).trans (cell_at g1); have q4 : w'.cell? ⟨w.heap.size + 1, 1, none⟩ = some (.int .i64 d) := (hBp.cell (p := ⟨w.heap.size + 1, 1, none⟩) (by simp <;> omega)).trans (cell_at g1); have q5 : w'.cell? ⟨w.heap.size + 1 + 1, 0, none⟩ = some (.string ⟨#[]⟩) := (hBp.cell (p := ⟨w.heap.size + 1 + 1, 0, none⟩) (by simp <;> omega)).trans (cell_at g2); have q5f : w'.frozen? ⟨w.heap.size + 1 + 1, 0, none⟩ = false := (froz_below hBp (p := ⟨w.heap.size + 1 + 1, 0, none⟩) (by simp <;> omega)).trans (froz_at g2); have q6 : w'.cell? ⟨w.heap.size + 1 + 1 + 1, 0, none⟩ = some (.bool false) := (hBp.cell (p := ⟨w.heap.size + 1 + 1 + 1, 0, none⟩) (by simp <;> omega)).trans (cell_at g3); have q6f : w'.frozen? ⟨w.heap.size + 1 + 1 + 1, 0, none⟩ = false := (froz_below hBp (p := ⟨w.heap.size + 1 + 1 + 1, 0, none⟩) (by simp <;> omega)).trans (froz_at g3); have q7 : w'.cell? ⟨w.heap.size + 1 + 1 + 1 + 1, 0, none⟩ = some (.int .i64 0) := (hBp.cell (p := ⟨w.heap.size + 1 + 1 + 1 + 1, 0, none⟩) (by simp <;> omega)).trans (cell_at g4); have q7f : w'.frozen? ⟨w.heap.size + 1 + 1 + 1 + 1, 0, none⟩ = false := (froz_below hBp (p := ⟨w.heap.size + 1 + 1 + 1 + 1, 0, none⟩) (by simp <;> omega)).trans (froz_at g4)) | (refine ⟨trivial, ?_⟩; gi_at_call 40; refine (back_in Fence.wide _ trivial rfl _ _ _ _ _).mono ?_; rintro e w'' ⟨rfl, rfl⟩))
  have z1 : decide (c < 1) = false := by simpa using c1
  have z2 : decide (999 < c) = false := by simpa using c2
  have z3 : decide (d < 0) = false := by simpa using c3
  have z4 : decide (15 ≤ d) = false := by simpa using c4
  simp only [z1, z2, z3, z4, Bool.or_false]
  have hs1 : w.heap.size + 1 + 1 + 1 + 1 + 1 ≤ w'.heap.size := by have := hBp.size; rw [h5] at this; exact this
  have hBw : Below w.heap.size w w' := ((((((Below.refl _ w).alloc (Nat.le_refl _) _).alloc (by simp) _).alloc (by simp; omega) _).alloc (by simp; omega) _).alloc (by simp; omega) _).trans (hBp.mono (by rw [h5]; omega))
  have hB1 : Below w'.heap.size w' ((w'.alloc (.cells #[v0, v1, .slice (some ⟨b, off, none⟩) len cap] 24)).alloc (.cells #[.int .i64 a] 3)) := ((Below.refl _ w').alloc (Nat.le_refl _) _).alloc (by simp) _
  have hs0 : ((w'.alloc (.cells #[v0, v1, .slice (some ⟨b, off, none⟩) len cap] 24)).alloc (.cells #[.int .i64 a] 3)).heap.size = w'.heap.size + 1 + 1 := by simp
  have e1 : ((w'.alloc (.cells #[v0, v1, .slice (some ⟨b, off, none⟩) len cap] 24)).alloc (.cells #[.int .i64 a] 3)).heap[w'.heap.size]? = some (.cells #[v0, v1, .slice (some ⟨b, off, none⟩) len cap] 24) := by
    show ((w'.heap.push _).push _)[_]? = _
    simp only [Array.getElem?_push, Array.size_push]
    rw [if_neg (by omega), if_pos trivial]
  have e2 : ((w'.alloc (.cells #[v0, v1, .slice (some ⟨b, off, none⟩) len cap] 24)).alloc (.cells #[.int .i64 a] 3)).heap[w'.heap.size + 1]? = some (.cells #[.int .i64 a] 3) := by
    show ((w'.heap.push _).push _)[_]? = _
    simp only [Array.getElem?_push, Array.size_push]
    rw [if_pos trivial]
  generalize hW0 : ((w'.alloc (.cells #[v0, v1, .slice (some ⟨b, off, none⟩) len cap] 24)).alloc (.cells #[.int .i64 a] 3)) = W0 at *
  have hB0 : Below w.heap.size w W0 := hBw.trans (hB1.mono (by omega))
  have f0 : W0.cell? ⟨w'.heap.size + 1, 0, none⟩ = some (.int .i64 a) := cell_at e2
  have f1 : W0.cell? ⟨w'.heap.size, 2, none⟩ = some (.slice (some ⟨b, off, none⟩) len cap) := cell_at e1
  have f3 := (hB1.cell (p := ⟨w.heap.size + 1, 0, none⟩) (by show w.heap.size + 1 < _; omega)).trans q3
  have f4 := (hB1.cell (p := ⟨w.heap.size + 1, 1, none⟩) (by show w.heap.size + 1 < _; omega)).trans q4
  have f5 := (hB1.cell (p := ⟨w.heap.size + 1 + 1, 0, none⟩) (by show w.heap.size + 1 + 1 < _; omega)).trans q5
  have f5f := (froz_below hB1 (p := ⟨w.heap.size + 1 + 1, 0, none⟩) (by show w.heap.size + 1 + 1 < _; omega)).trans q5f
  have f6 := (hB1.cell (p := ⟨w.heap.size + 1 + 1 + 1, 0, none⟩) (by show w.heap.size + 1 + 1 + 1 < _; omega)).trans q6
  have f6f := (froz_below hB1 (p := ⟨w.heap.size + 1 + 1 + 1, 0, none⟩) (by show w.heap.size + 1 + 1 + 1 < _; omega)).trans q6f
  have f7 := (hB1.cell (p := ⟨w.heap.size + 1 + 1 + 1 + 1, 0, none⟩) (by show w.heap.size + 1 + 1 + 1 + 1 < _; omega)).trans q7
  have f7f := (froz_below hB1 (p := ⟨w.heap.size + 1 + 1 + 1 + 1, 0, none⟩) (by show w.heap.size + 1 + 1 + 1 + 1 < _; omega)).trans q7f
  have hc0 : ∀ j, j < len → Box9 (fun x => .string (s0 x)) (fun x => .string (s1 x)) (fun x => .slice (a2 x) (n2 x) (k2 x)) (fun x => .slice (a3 x) (n3 x) (k3 x)) bl (fun x => .bool (b5 x)) (fun x => .int .i64 (i6 x)) (fun x => .string (s7 x)) (fun x => .int .i64 (i8 x)) W0 b (off + j * 9) j := fun j hj => by
    obtain ⟨d0, d1, d2, d3, d4, d5, d6, d7, d8⟩ := hc j hj
    exact ⟨(hB0.cell (p := ⟨b, _, none⟩) hb).trans d0, (hB0.cell (p := ⟨b, _, none⟩) hb).trans d1, (hB0.cell (p := ⟨b, _, none⟩) hb).trans d2, (hB0.cell (p := ⟨b, _, none⟩) hb).trans d3, (hB0.cell (p := ⟨b, _, none⟩) hb).trans d4, (hB0.cell (p := ⟨b, _, none⟩) hb).trans d5, (hB0.cell (p := ⟨b, _, none⟩) hb).trans d6, (hB0.cell (p := ⟨b, _, none⟩) hb).trans d7, (hB0.cell (p := ⟨b, _, none⟩) hb).trans d8⟩
  refine wpIn_rangeFunc_ownH rfl (by decide) (gf := 79) (lb := #[.pointer (some ⟨w'.heap.size + 1, 0, none⟩), .pointer (some ⟨w'.heap.size, 0, none⟩)]) rfl trivial (enters_of Tryz.func79 (by kernel_rfl) rfl)
    (back_stops Fence.wide _ trivial rfl (by decide) (w'.heap.size + 1) w'.heap.size W0.heap.size b off len cap a (fun x => .string (s0 x)) (fun x => .string (s1 x)) (fun x => .slice (a2 x) (n2 x) (k2 x)) (fun x => .slice (a3 x) (n3 x) (k3 x)) (fun x => .bool (b5 x)) (fun x => .int .i64 (i6 x)) (fun x => .string (s7 x)) (fun x => .int .i64 (i8 x)) bl hlen (by omega) ha W0 (Nat.le_refl _) f0 (by omega) f1 (by omega) hc0)
    belowK_t (belowK_b (Nat.le_refl _)) (Below.refl _ _) (fun _ => rfl)
    (fun pre W => (∀ x ∈ pre, ok x = false) ∧ Below W0.heap.size W0 W)
    (fun c pre W => (c = .ret ∧ ∃ ini last, pre = ini ++ [last] ∧ (∀ x ∈ ini, ok x = false) ∧ ok last = true ∧ W.cell? ⟨w.heap.size + 1 + 1, 0, none⟩ = some (.string (s0 last)) ∧ W.cell? ⟨w.heap.size + 1 + 1 + 1, 0, none⟩ = some (.bool true) ∧ W.cell? ⟨w.heap.size + 1 + 1 + 1 + 1, 0, none⟩ = some (.int .i64 0)) ∧ Below w.heap.size w W)
    (OwnFrom.and (Own.from (fun s A B row hs hg hr => hs) _) (ownFrom_below (Nat.le_refl _) (Nat.le_refl _)))
    (fun c => OwnFrom.and (Own.from (fun s A B row hs hg hr => by obtain ⟨hc, ini, last, e1, e2, e3, e4, e5, e6⟩ := hs; exact ⟨hc, ini, last, e1, e2, e3, cell_kept e4 hg hr, cell_kept e5 hg hr, cell_kept e6 hg hr⟩) _) (ownFrom_below (Nat.le_refl _) (by omega)))
    ⟨by simp, Below.refl _ _⟩
    (fun x a' W => ∃ Bx, w'.heap.size + 1 + 1 ≤ Bx ∧ Box9 (fun x => .string (s0 x)) (fun x => .string (s1 x)) (fun x => .slice (a2 x) (n2 x) (k2 x)) (fun x => .slice (a3 x) (n3 x) (k3 x)) bl (fun x => .bool (b5 x)) (fun x => .int .i64 (i6 x)) (fun x => .string (s7 x)) (fun x => .int .i64 (i8 x)) W Bx 0 x ∧ a' = { tmps := #[.agg #[v0, v1, .slice (some ⟨b, off, none⟩) len cap], .string num, .agg #[.int .i64 c, .int .i64 d], .pointer (some ⟨w.heap.size, 0, none⟩), undef, .pointer (some ⟨w.heap.size + 1, 0, none⟩), .pointer (some ⟨w.heap.size + 1 + 1, 0, none⟩), .pointer (some ⟨w.heap.size + 1 + 1 + 1, 0, none⟩), .pointer (some ⟨w.heap.size + 1 + 1 + 1 + 1, 0, none⟩), .int .i64 a, .int .i64 0, .pointer (some ⟨Bx, 0, none⟩), undef, undef, .tuple #[.int .i64 a, .int .i64 0], .agg #[v0, v1, .slice (some ⟨b, off, none⟩) len cap], .string num, .tuple #[.int .i64 a, .int .i64 0], .int .i64 a, .int .i64 0, .int .i64 0, .bool false, undef, .pointer (some ⟨w.heap.size + 1, 0, none⟩), .int .i64 c, .bool false, .bool false, .pointer (some ⟨w.heap.size + 1, 0, none⟩), .int .i64 c, .bool false, .bool false, .bool false, .pointer (some ⟨w.heap.size + 1, 1, none⟩), .int .i64 d, .bool false, .bool false, .bool false, .pointer (some ⟨w.heap.size + 1, 1, none⟩), .int .i64 d, .bool false, .bool false, .agg #[v0, v1, .slice (some ⟨b, off, none⟩) len cap], .int .i64 a, .func (.func 79) #[] #[.pointer (some ⟨w'.heap.size + 1, 0, none⟩), .pointer (some ⟨w'.heap.size, 0, none⟩)], .agg #[.string (s0 x), .string (s1 x), .slice (a2 x) (n2 x) (k2 x), .slice (a3 x) (n3 x) (k3 x), .bool (bl x), .bool (b5 x), .int .i64 (i6 x), .string (s7 x), .int .i64 (i8 x)], undef, undef, undef, undef, undef, undef, undef, undef, undef], defers := [] })
    (fun x a' => Own.from (fun s A B row hs hg hr => by
      obtain ⟨Bx, h1, ⟨d0, d1, d2, d3, d4, d5, d6, d7, d8⟩, h3⟩ := hs
      exact ⟨Bx, h1, ⟨cell_kept d0 hg hr, cell_kept d1 hg hr, cell_kept d2 hg hr, cell_kept d3 hg hr, cell_kept d4 hg hr, cell_kept d5 hg hr, cell_kept d6 hg hr, cell_kept d7 hg hr, cell_kept d8 hg hr⟩, h3⟩) _) ?assign ?body ?done ?stop
  case assign =>
    rintro l pre x W K hi hK
    gi_wp2
    refine hK _ _ ((KeepsOthers.alloc _ _).from _) ((Below.refl _ W).alloc hi.2.size _) ⟨hi.1, hi.2.alloc hi.2.size _⟩ ⟨W.heap.size, by have := hi.2.size; omega, ?_, rfl⟩
    have hn := World.alloc_heap_new W (.cells #[.string (s0 x), .string (s1 x), .slice (a2 x) (n2 x) (k2 x), .slice (a3 x) (n3 x) (k3 x), .bool (bl x), .bool (b5 x), .int .i64 (i6 x), .string (s7 x), .int .i64 (i8 x)] 30)
    exact ⟨cell_at hn, cell_at hn, cell_at hn, cell_at hn, cell_at hn, cell_at hn, cell_at hn, cell_at hn, cell_at hn⟩
  case body =>
    rintro l pre x a' W hl ⟨r, hr⟩ ⟨hp, hB⟩ ⟨Bx, hBx, ⟨d0, d1, d2, d3, d4, d5, d6, d7, d8⟩, rfl⟩ hlt
    simp only [Nat.zero_add] at d1 d2 d3 d4 d5 d6 d7 d8
    have hBw2 : Below w.heap.size w W := hB0.trans (hB.mono (by omega))
    have q3 := (hB.cell (p := ⟨w.heap.size + 1, 0, none⟩) (by show w.heap.size + 1 < _; omega)).trans f3
    have q4 := (hB.cell (p := ⟨w.heap.size + 1, 1, none⟩) (by show w.heap.size + 1 < _; omega)).trans f4
    gi_wp2_with (refine ⟨trivial, ?_⟩; gi_at_call 41; refine (CallsIn.inRound l (callsIn_wide.2 (hmove x W hBw2))).mono ?_; rintro e w'' ⟨rfl, hBm⟩; have hs3 := hB.size; have hs4 := hBm.size; have hB3 : Below W0.heap.size W0 w'' := hB.trans (hBm.mono hs3); have r5 : ∀ o, (w''.alloc o).cell? ⟨w.heap.size + 1 + 1, 0, none⟩ = some _ := fun o => ((hB3.alloc (by omega) o).cell (p := ⟨w.heap.size + 1 + 1, 0, none⟩) (by show w.heap.size + 1 + 1 < _; omega)).trans f5; have r5f : ∀ o, (w''.alloc o).frozen? ⟨w.heap.size + 1 + 1, 0, none⟩ = false := fun o => (froz_below (hB3.alloc (by omega) o) (p := ⟨w.heap.size + 1 + 1, 0, none⟩) (by show w.heap.size + 1 + 1 < _; omega)).trans f5f; have r6 : ∀ o, (w''.alloc o).cell? ⟨w.heap.size + 1 + 1 + 1, 0, none⟩ = some _ := fun o => ((hB3.alloc (by omega) o).cell (p := ⟨w.heap.size + 1 + 1 + 1, 0, none⟩) (by show w.heap.size + 1 + 1 + 1 < _; omega)).trans f6; have r6f : ∀ o, (w''.alloc o).frozen? ⟨w.heap.size + 1 + 1 + 1, 0, none⟩ = false := fun o => (froz_below (hB3.alloc (by omega) o) (p := ⟨w.heap.size + 1 + 1 + 1, 0, none⟩) (by show w.heap.size + 1 + 1 + 1 < _; omega)).trans f6f; have r7 : ∀ o, (w''.alloc o).cell? ⟨w.heap.size + 1 + 1 + 1 + 1, 0, none⟩ = some _ := fun o => ((hB3.alloc (by omega) o).cell (p := ⟨w.heap.size + 1 + 1 + 1 + 1, 0, none⟩) (by show w.heap.size + 1 + 1 + 1 + 1 < _; omega)).trans f7; have r7f : ∀ o, (w''.alloc o).frozen? ⟨w.heap.size + 1 + 1 + 1 + 1, 0, none⟩ = false := fun o => (froz_below (hB3.alloc (by omega) o) (p := ⟨w.heap.size + 1 + 1 + 1 + 1, 0, none⟩) (by show w.heap.size + 1 + 1 + 1 + 1 < _; omega)).trans f7f; have d0' : ∀ o, (w''.alloc o).cell? ⟨Bx, 0, none⟩ = some (.string (s0 x)) := fun o => (((hBm.alloc hs4 o).cell (p := ⟨Bx, 0, none⟩) (lt_cell d0))).trans d0)
    all_goals first
      | (have hx : ok x = false := by first | assumption | simpa using (by assumption : ¬ ok x = true)
         exact ⟨((keeps_below hBm).trans (KeepsOthers.alloc _ _)).from _, (hBm.mono hs3).alloc (by omega) _, ⟨fun y hy => (List.mem_append.1 hy).elim (hp y) (fun e => by rw [List.mem_singleton.1 e]; exact hx), hB3.alloc (by omega) _⟩⟩)
      | skip
    have hx : ok x = true := by first | assumption | simpa using (by assumption : ¬ ok x = false)
    refine ⟨((keeps_below hBm).trans ((KeepsOthers.alloc _ _).trans ((KeepsOthers.setCell _ _ _).trans ((KeepsOthers.setCell _ _ _).trans (KeepsOthers.setCell _ _ _))))).from _, ⟨rfl, pre, x, rfl, hp, hx, ?_, ?_, ?_⟩, ?_⟩
    · exact (World.cell?_setCell_other _ _ _ _ (by simp)).trans ((World.cell?_setCell_other _ _ _ _ (by simp)).trans (World.cell?_setCell_same' _ _ _ (by rw [r5]; rfl)))
    · exact (World.cell?_setCell_other _ _ _ _ (by simp)).trans (World.cell?_setCell_same' _ _ _ (by rw [World.cell?_setCell_other _ _ _ _ (by simp), r6]; rfl))
    · exact World.cell?_setCell_same' _ _ _ (by rw [World.cell?_setCell_other _ _ _ _ (by simp), World.cell?_setCell_other _ _ _ _ (by simp), r7]; rfl)
    · exact ((((hBw2.trans (hBm.mono hBw2.size)).alloc (by omega) _).setCell (p := ⟨w.heap.size + 1 + 1, 0, none⟩) (by show _ ≤ w.heap.size + 1 + 1; omega) _).setCell (p := ⟨w.heap.size + 1 + 1 + 1, 0, none⟩) (by show _ ≤ w.heap.size + 1 + 1 + 1; omega) _).setCell (p := ⟨w.heap.size + 1 + 1 + 1 + 1, 0, none⟩) (by show _ ≤ w.heap.size + 1 + 1 + 1 + 1; omega) _
  case done =>
    rintro D ys W hD ⟨k, h1, rfl, h2, h3⟩ ⟨hp, hB⟩ hK
    have hs3 := hB.size
    have r5 := (hB.cell (p := ⟨w.heap.size + 1 + 1, 0, none⟩) (by show w.heap.size + 1 + 1 < _; omega)).trans f5
    have r5f := (froz_below hB (p := ⟨w.heap.size + 1 + 1, 0, none⟩) (by show w.heap.size + 1 + 1 < _; omega)).trans f5f
    have r6 := (hB.cell (p := ⟨w.heap.size + 1 + 1 + 1, 0, none⟩) (by show w.heap.size + 1 + 1 + 1 < _; omega)).trans f6
    have r6f := (froz_below hB (p := ⟨w.heap.size + 1 + 1 + 1, 0, none⟩) (by show w.heap.size + 1 + 1 + 1 < _; omega)).trans f6f
    have r7 := (hB.cell (p := ⟨w.heap.size + 1 + 1 + 1 + 1, 0, none⟩) (by show w.heap.size + 1 + 1 + 1 + 1 < _; omega)).trans f7
    have r7f := (froz_below hB (p := ⟨w.heap.size + 1 + 1 + 1 + 1, 0, none⟩) (by show w.heap.size + 1 + 1 + 1 + 1 < _; omega)).trans f7f
    gi_wp2
    have hK1 := (KeepsOthers.setCell W ⟨w.heap.size + 1 + 1, 0, none⟩ (.string ⟨#[]⟩)).same D _ hK rfl
    have hK2 := (KeepsOthers.setCell (W.setCell ⟨w.heap.size + 1 + 1, 0, none⟩ (.string ⟨#[]⟩)) ⟨w.heap.size + 1 + 1 + 1, 0, none⟩ (.bool false)).same D _ hK1 rfl
    have hK' := (KeepsOthers.setCell ((W.setCell ⟨w.heap.size + 1 + 1, 0, none⟩ (.string ⟨#[]⟩)).setCell ⟨w.heap.size + 1 + 1 + 1, 0, none⟩ (.bool false)) ⟨w.heap.size + 1 + 1 + 1 + 1, 0, none⟩ (.int .i64 0)).same D _ hK2 rfl
    refine ⟨by simp, .inl ⟨_, _, rfl, run_takeDeferred hK', ?_⟩⟩
    have k0 : (((W.setCell ⟨w.heap.size + 1 + 1, 0, none⟩ (.string ⟨#[]⟩)).setCell ⟨w.heap.size + 1 + 1 + 1, 0, none⟩ (.bool false)).setCell ⟨w.heap.size + 1 + 1 + 1 + 1, 0, none⟩ (.int .i64 0)).cell? ⟨w.heap.size + 1 + 1, 0, none⟩ = some (.string ⟨#[]⟩) :=
      (World.cell?_setCell_other _ _ _ _ (by simp)).trans ((World.cell?_setCell_other _ _ _ _ (by simp)).trans (World.cell?_setCell_same' _ _ _ (by rw [r5]; rfl)))
    have k1 : (((W.setCell ⟨w.heap.size + 1 + 1, 0, none⟩ (.string ⟨#[]⟩)).setCell ⟨w.heap.size + 1 + 1 + 1, 0, none⟩ (.bool false)).setCell ⟨w.heap.size + 1 + 1 + 1 + 1, 0, none⟩ (.int .i64 0)).cell? ⟨w.heap.size + 1 + 1 + 1, 0, none⟩ = some (.bool false) :=
      (World.cell?_setCell_other _ _ _ _ (by simp)).trans (World.cell?_setCell_same' _ _ _ (by rw [World.cell?_setCell_other _ _ _ _ (by simp), r6]; rfl))
    have k2 : (((W.setCell ⟨w.heap.size + 1 + 1, 0, none⟩ (.string ⟨#[]⟩)).setCell ⟨w.heap.size + 1 + 1 + 1, 0, none⟩ (.bool false)).setCell ⟨w.heap.size + 1 + 1 + 1 + 1, 0, none⟩ (.int .i64 0)).cell? ⟨w.heap.size + 1 + 1 + 1 + 1, 0, none⟩ = some (.int .i64 0) :=
      World.cell?_setCell_same' _ _ _ (by rw [World.cell?_setCell_other _ _ _ _ (by simp), World.cell?_setCell_other _ _ _ _ (by simp), r7]; rfl)
    have hc5 := cell_kept k0 (grownBy_putObj' _ D (.deferred none)) (fun r e => by cases e; exact ⟨_, hK', rfl⟩)
    have hc6 := cell_kept k1 (grownBy_putObj' _ D (.deferred none)) (fun r e => by cases e; exact ⟨_, hK', rfl⟩)
    have hc7 := cell_kept k2 (grownBy_putObj' _ D (.deferred none)) (fun r e => by cases e; exact ⟨_, hK', rfl⟩)
    refine ⟨.tuple #[.string ⟨#[]⟩, .bool false, .int .i64 0], ?_, .inl ⟨k, h1, hp, h2, h3, rfl⟩, ((((hB0.trans (hB.mono (by omega))).setCell (p := ⟨w.heap.size + 1 + 1, 0, none⟩) (by show _ ≤ w.heap.size + 1 + 1; omega) _).setCell (p := ⟨w.heap.size + 1 + 1 + 1, 0, none⟩) (by show _ ≤ w.heap.size + 1 + 1 + 1; omega) _).setCell (p := ⟨w.heap.size + 1 + 1 + 1 + 1, 0, none⟩) (by show _ ≤ w.heap.size + 1 + 1 + 1 + 1; omega) _).trans (belowK_b (w := w) (Nat.le_refl _) _ D _ _ (by omega) hK' rfl rfl)⟩
    simp [results, Tryz.f20, go_sem, hc5, hc6, hc7]
  case stop =>
    rintro D c pre W hD ⟨k, h1, rfl, h2⟩ ⟨⟨rfl, ini, last, e1, e2, e3, e4, e5, e6⟩, hB⟩ hK
    gi_wp2
    obtain ⟨k', rfl⟩ : ∃ k', k = k' + 1 := by
      cases k with
      | zero => simp [dnL] at e1
      | succ k' => exact ⟨k', rfl⟩
    rw [dnL_succ] at e1
    obtain ⟨rfl, e7⟩ := List.append_inj' e1 rfl
    obtain rfl : a - k' = last := by simpa using e7
    refine ⟨by simp, .inl ⟨_, _, rfl, run_takeDeferred hK, ?_⟩⟩
    have hc5 := cell_kept e4 (grownBy_putObj' _ D (.deferred none)) (fun r e => by cases e; exact ⟨_, hK, rfl⟩)
    have hc6 := cell_kept e5 (grownBy_putObj' _ D (.deferred none)) (fun r e => by cases e; exact ⟨_, hK, rfl⟩)
    have hc7 := cell_kept e6 (grownBy_putObj' _ D (.deferred none)) (fun r e => by cases e; exact ⟨_, hK, rfl⟩)
    refine ⟨.tuple #[.string (s0 (a - k')), .bool true, .int .i64 0], ?_, .inr ⟨k', by omega, e2, e3, fun j h3 h4 => h2 j h3 (by omega), rfl⟩, hB.trans (belowK_b (w := w) (Nat.le_refl _) W D _ _ (by omega) hK rfl rfl)⟩
    simp [results, Tryz.f20, go_sem, hc5, hc6, hc7]
end Go.Proofs.YtdnpaifeoinjoaaGreatDoor

namespace Go.Proofs.YtdnpaifeoinjoaaGreatDoor
open Go.Sha Go.RowKit
set_option maxRecDepth 100000
def oriF (l:List Cu)(q:Prm):Nat→Option (List UInt8)
 |0=>if(movF (l.getD 0 default).moves q).isSome then some (l.getD 0 default).num else none
 |a+1=>if(movF (l.getD (a+1) default).moves q).isSome then some (l.getD (a+1) default).num else if(l.getD (a+1) default).block then none else oriF l q a
def oriV:Option (List UInt8)→V
 |none=>.tup [.str [],.bool false,.int .i64 0]
 |some s=>.tup [.str s,.bool true,.int .i64 0]
theorem oriF_at {l:List Cu}{q:Prm}:∀{a k:Nat},k≤a→(∀j,j<k→movF (l.getD (a-j) default).moves q=none∧(l.getD (a-j) default).block=false)→oriF l q a=oriF l q (a-k)
 |a,0,_,_=>rfl
 |0,k+1,h,_=>by omega
 |a+1,k+1,h,hj=>by
  obtain⟨h1,h2⟩:=hj 0 (by omega)
  simp only[Nat.sub_zero]at h1 h2
  rw[oriF,h1,h2]
  simp only[Bool.false_eq_true,if_false,Option.isSome_none]
  rw[oriF_at (a:=a) (k:=k) (by omega) (fun j hjk=>by have:=hj (j+1) (by omega);rwa [show a+1-(j+1)=a-j by omega]at this)]
  congr 1;omega
theorem ori_rep {w:World}{A:Abs}{s:List UInt8}{b:Bool}:Rep w A (.tuple #[.string ⟨s.toArray⟩,.bool b,.int .i64 0]) (.tup [.str s,.bool b,.int .i64 0]):=by
 refine Rep.tup [.string ⟨s.toArray⟩,.bool b,.int .i64 0] _ rfl (fun i v d h4 h5=>?_)
 match i,h4,h5 with
 |0,h4,h5=>simp at h4 h5;subst h4 h5;exact .str _
 |1,h4,h5=>simp at h4 h5;subst h4 h5;exact .bool _
 |2,h4,h5=>simp at h4 h5;subst h4 h5;exact .int _ _
 |n+3,h4,h5=>simp at h4
theorem callable20:Callable Tryz.prog 20:=⟨_,Tryz.func20,by kernel_rfl,by kernel_rfl⟩
theorem v20 {x:Lst}(hx:x.ok)(hP:lstP x=0){q:Prm}(hq1:prmC 1 q=0){s:List UInt8}(hsl:s.length<140737488355328)(hp:plcE x s=0)(st:St) :
  VRet Tryz.prog 20 [x.v,.str s,q.v] st (oriV (oriF x.cues q (plcV x s).toNat)) st:=by
 have h64:=(lst_parts hP).2.2.1
 have hm64:=lst_mov hP
 obtain⟨p1,ha⟩:=plc_at hp
 have hpV:plcV x s=(((plcV x s).toNat:Nat):Int):=by omega
 have hV32:VRet Tryz.prog 32 [x.v,.str s] st0 (.tup [.int .i64 (((plcV x s).toNat:Nat):Int),.int .i64 0]) st0:=by
  have:=run_sound mixed HH_ok _ _ _ _ _ (f32 (st:=st0) hx hsl)
  rw[hp]at this
  rw[←hpV]
  exact this
 have hq:okP q=true:=okP_of (prm_rng hq1)
 have hm:∀c∈x.cues,okMs c.moves=true:=fun c hc=>okMs_of (hm64 c hc).2.1 (hm64 c hc).2.2
 have hml:∀c∈x.cues,c.moves.length<140737488355328:=fun c hc=>by have:=(hm64 c hc).1;omega
 have hrng:=prm_rng hq1
 generalize (plcV x s).toNat=a at *
 obtain⟨nm,pr,l⟩:=x
 simp only[Lst.v]at *
 refine VRet_of_below callable20 (fun w A vs hw hv=>?_)
 obtain⟨u0,u1,u2,rfl,r0,r1,r2⟩:∃u0 u1 u2,vs=[u0,u1,u2]∧Rep w A u0 (.agg [.int .i64 nm,.int .i64 pr,.sl (l.map Cu.v)])∧Rep w A u1 (.str s)∧Rep w A u2 (.agg [.int .i64 q.chan,.int .i64 q.attr]):=by
  obtain⟨hlen,hr⟩:=hv
  match vs,hlen,hr with
  |[u0,u1,u2],_,hr=>exact⟨u0,u1,u2,rfl,hr 0 _ _ rfl rfl,hr 1 _ _ rfl rfl,hr 2 _ _ rfl rfl⟩
 obtain rfl:=r1.str_inv
 obtain rfl:=prm_inv r2
 obtain⟨us,rfl,hus,_,hur⟩:=r0.agg_inv
 obtain⟨t0,t1,t2,rfl⟩:∃t0 t1 t2,us=[t0,t1,t2]:=by
  match us,hus with
  |[t0,t1,t2],_=>exact⟨t0,t1,t2,rfl⟩
 have hne:l≠[]:=by intro e;rw[e]at ha;simp at ha
 obtain⟨b,o,cap,cell,rfl,hc⟩:=cues_at (hur 2 _ _ rfl rfl) hne
 have hget:∀j,j<l.length→l[j]?=some (l.getD j default):=fun j hj=>by rw[List.getD_eq_getElem?_getD,List.getElem?_eq_getElem hj];rfl
 have hb:b<w.heap.size:=hw.Clt _ _ (hc a _ (hget a ha) 0 _ rfl).1
 have hs:∀j,∃a2:Option Addr,∃n2 k2:Nat,∃a3:Option Addr,∃n3 k3:Nat,(j<l.length→w.cell? ⟨b,o+j*9+2,none⟩=some (.slice a2 n2 k2)∧w.cell? ⟨b,o+j*9+3,none⟩=some (.slice a3 n3 k3))∧Rep w A (.slice a2 n2 k2) (.sl ((l.getD j default).moves.map Mov.v))∧Rep w A (.slice a3 n3 k3) (.sl ((l.getD j default).parts.map Tim.v)):=fun j=>by
  by_cases hj:j<l.length
  ·obtain⟨_,g2,g3⟩:=hc j _ (hget j hj) 2 _ rfl
   obtain⟨_,g4,g5⟩:=hc j _ (hget j hj) 3 _ rfl
   obtain⟨a2,n2,k2,e2⟩:=rep_sl g3
   obtain⟨a3,n3,k3,e3⟩:=rep_sl g5
   rw[e2]at g2 g3
   rw[e3]at g4 g5
   exact⟨a2,n2,k2,a3,n3,k3,fun _=>⟨by rw[Nat.add_assoc];exact g2,by rw[Nat.add_assoc];exact g4⟩,g3,g5⟩
  ·have e:l.getD j default=default:=by rw[List.getD_eq_getElem?_getD,List.getElem?_eq_none (by omega)];rfl
   rw[e]
   exact⟨none,0,0,none,0,0,fun h=>absurd h hj,.slnil _,.slnil _⟩
 obtain⟨a2,hs⟩:=Classical.axiomOfChoice hs
 obtain⟨n2,hs⟩:=Classical.axiomOfChoice hs
 obtain⟨k2,hs⟩:=Classical.axiomOfChoice hs
 obtain⟨a3,hs⟩:=Classical.axiomOfChoice hs
 obtain⟨n3,hs⟩:=Classical.axiomOfChoice hs
 obtain⟨k3,hs⟩:=Classical.axiomOfChoice hs
 have hok:∀j,okMs (l.getD j default).moves=true∧(l.getD j default).moves.length<140737488355328:=fun j=>by
  by_cases hj:j<l.length
  ·have:=List.mem_of_getElem? (hget j hj)
   exact⟨hm _ this,hml _ this⟩
  ·have e:l.getD j default=default:=by rw[List.getD_eq_getElem?_getD,List.getElem?_eq_none (by omega)];rfl
   rw[e];exact⟨rfl,by decide⟩
 have hmove:∀j W,Below w.heap.size w W→Calls Tryz.prog 41 #[.agg #[.string ⟨(l.getD j default).num.toArray⟩,.string ⟨(l.getD j default).label.toArray⟩,.slice (a2 j) (n2 j) (k2 j),.slice (a3 j) (n3 j) (k3 j),.bool (l.getD j default).block,.bool (l.getD j default).mark,.int .i64 (l.getD j default).follow,.string ⟨(l.getD j default).link.toArray⟩,.int .i64 (l.getD j default).loops],.agg #[.int .i64 q.chan,.int .i64 q.attr]] W fun e W' =>
   e=.returned (.tuple #[.agg #[.int .i64 ((movF (l.getD j default).moves q).getD ⟨-1,0⟩).pal,.int .i64 ((movF (l.getD j default).moves q).getD ⟨-1,0⟩).lev],.bool (movF (l.getD j default).moves q).isSome])∧Below W.heap.size W W':=fun j W hB=>by
  obtain⟨_,g2,g3⟩:=hs j
  have hx:=Ext.below hw hB
  have hwW:=hw.below hB
  have h0:Reps W A [.agg #[.string ⟨(l.getD j default).num.toArray⟩,.string ⟨(l.getD j default).label.toArray⟩,.slice (a2 j) (n2 j) (k2 j),.slice (a3 j) (n3 j) (k3 j),.bool (l.getD j default).block,.bool (l.getD j default).mark,.int .i64 (l.getD j default).follow,.string ⟨(l.getD j default).link.toArray⟩,.int .i64 (l.getD j default).loops],.agg #[.int .i64 q.chan,.int .i64 q.attr]] [(l.getD j default).v,q.v] :=
   ⟨rfl,fun i v c h1 h2=>by
    match i,h1,h2 with
    |0,h1,h2=>simp at h1 h2;subst h1 h2;exact agg9 (g2.mono hx) (g3.mono hx)
    |1,h1,h2=>simp at h1 h2;subst h1 h2;exact prm_rep
    |n+2,h1,h2=>simp at h1⟩
  have h1:=h0.data (B:=abs0 W) (fun b o h=>hwW.Clt b o h) (by simp[V.bdL,Cu.bd,Prm.bd])
  have hV:VRet Tryz.prog 41 [(l.getD j default).v,q.v] st0 (.tup [((movF (l.getD j default).moves q).getD ⟨-1,0⟩).v,.bool (movF (l.getD j default).moves q).isSome]) st0:=run_sound mixed HN0_ok _ _ _ _ _ (f41 (hok j).1 hq (hok j).2)
  refine(calls_of Tryz.func41 (by kernel_rfl) (by kernel_rfl) hV h1).mono fun e W' ⟨⟨v,A',he,hr⟩,hb⟩=>⟨?_,hb⟩
  obtain⟨ws,rfl,hws,hwr⟩:=hr.tup_inv
  obtain⟨y0,y1,rfl⟩:∃y0 y1,ws=[y0,y1]:=by
   match ws,hws with
   |[y0,y1],_=>exact⟨y0,y1,rfl⟩
  obtain rfl:=prm_inv (hwr 0 _ _ rfl rfl)
  obtain rfl:=(hwr 1 _ _ rfl rfl).bool_inv
  exact he
 have hplace:∀W,Below w.heap.size w W→Calls Tryz.prog 32 #[.agg #[t0,t1,.slice (some ⟨b,o,none⟩) l.length cap],.string ⟨s.toArray⟩] W fun e W'=>e=.returned (.tuple #[.int .i64 a,.int .i64 0])∧Below W.heap.size W W':=fun W hB=>by
  have hx:=Ext.below hw hB
  have hwW:=hw.below hB
  have h0:Reps W A [.agg #[t0,t1,.slice (some ⟨b,o,none⟩) l.length cap],.string ⟨s.toArray⟩] [.agg [.int .i64 nm,.int .i64 pr,.sl (l.map Cu.v)],.str s] :=
   ⟨rfl,fun i v c h1 h2=>by
    match i,h1,h2 with
    |0,h1,h2=>simp at h1 h2;subst h1 h2;exact r0.mono hx
    |1,h1,h2=>simp at h1 h2;subst h1 h2;exact .str _
    |n+2,h1,h2=>simp at h1⟩
  have h1:=h0.data (B:=abs0 W) (fun b o h=>hwW.Clt b o h) (by simp[V.bdL,V.bd,bdL_map'])
  refine(calls_of Tryz.func32 (by kernel_rfl) (by kernel_rfl) hV32 h1).mono fun e W' ⟨⟨v,A',he,hr⟩,hb⟩=>⟨?_,hb⟩
  obtain⟨ws,rfl,hws,hwr⟩:=hr.tup_inv
  obtain⟨y0,y1,rfl⟩:∃y0 y1,ws=[y0,y1]:=by
   match ws,hws with
   |[y0,y1],_=>exact⟨y0,y1,rfl⟩
  obtain rfl:=(hwr 0 _ _ rfl rfl).int_inv
  obtain rfl:=(hwr 1 _ _ rfl rfl).int_inv
  exact he
 have hbox:∀j,j<l.length→Box9 (fun x=>.string ⟨(l.getD x default).num.toArray⟩) (fun x=>.string ⟨(l.getD x default).label.toArray⟩) (fun x=>.slice (a2 x) (n2 x) (k2 x)) (fun x=>.slice (a3 x) (n3 x) (k3 x)) (fun x=>(l.getD x default).block) (fun x=>.bool (l.getD x default).mark) (fun x=>.int .i64 (l.getD x default).follow) (fun x=>.string ⟨(l.getD x default).link.toArray⟩) (fun x=>.int .i64 (l.getD x default).loops) w b (o+j*9) j:=fun j hj=>by
  have hg:=hget j hj
  obtain⟨_,e0,d0⟩:=hc j _ hg 0 _ rfl
  obtain⟨_,e1,d1⟩:=hc j _ hg 1 _ rfl
  obtain⟨_,e4,d4⟩:=hc j _ hg 4 _ rfl
  obtain⟨_,e5,d5⟩:=hc j _ hg 5 _ rfl
  obtain⟨_,e6,d6⟩:=hc j _ hg 6 _ rfl
  obtain⟨_,e7,d7⟩:=hc j _ hg 7 _ rfl
  obtain⟨_,e8,d8⟩:=hc j _ hg 8 _ rfl
  rw[d0.str_inv]at e0
  rw[d1.str_inv]at e1
  rw[d4.bool_inv]at e4
  rw[d5.bool_inv]at e5
  rw[d6.int_inv]at e6
  rw[d7.str_inv]at e7
  rw[d8.int_inv]at e8
  obtain⟨e2,e3⟩:=(hs j).1 hj
  simp only[←Nat.add_assoc,Nat.add_zero]at e0 e1 e4 e5 e6 e7 e8
  exact⟨e0,e1,e2,e3,e4,e5,e6,e7,e8⟩
 have hcd:1≤q.chan∧q.chan≤999∧0≤q.attr∧q.attr≤14:=by
  unfold prmC at hq1;split at hq1
  ·cases hq1
  ·omega
 refine(origin_calls w b o l.length cap a (fun x=>⟨(l.getD x default).num.toArray⟩) (fun x=>⟨(l.getD x default).label.toArray⟩) (fun x=>⟨(l.getD x default).link.toArray⟩) a2 a3 n2 k2 n3 k3 (fun x=>(l.getD x default).mark) (fun x=>(l.getD x default).follow) (fun x=>(l.getD x default).loops) (fun x=>(l.getD x default).block) t0 t1 ⟨s.toArray⟩ q.chan q.attr hcd
  (fun x=>((movF (l.getD x default).moves q).getD ⟨-1,0⟩).pal) (fun x=>((movF (l.getD x default).moves q).getD ⟨-1,0⟩).lev) (fun x=>(movF (l.getD x default).moves q).isSome) (by omega) hb ha hbox hmove hplace).mono fun e W' ⟨he,hB⟩=>?_
 have hmem:∀{k j:Nat},j<k→(a-j)∈dnL a k:=fun {k j} hj=>by unfold dnL;exact List.mem_map.2 ⟨j,List.mem_range.2 hj,rfl⟩
 rcases he with⟨k,h1,h2,h3,h4,rfl⟩|⟨k,h1,h2,h3,h4,rfl⟩
 ·refine⟨_,rfl,fun w' A'=>?_,hB⟩
  have hk0:0<k:=by rcases h3 with h3|h3<;>omega
  have hn:∀j,j<k→movF (l.getD (a-j) default).moves q=none:=fun j hj=>by
   have:=h2 _ (hmem hj)
   cases hx:movF (l.getD (a-j) default).moves q with
   |none=>rfl
   |some v=>rw[hx]at this;simp at this
  have e1:=oriF_at (l:=l) (q:=q) (a:=a) (k:=k-1) (by omega) (fun j hj=>⟨hn j (by omega),by have:=h4 (j+1) (by omega) (by omega);rwa [show a+1-(j+1)=a-j by omega]at this⟩)
  have e2:oriF l q (a-(k-1))=none:=by
   have hz:=hn (k-1) (by omega)
   cases hy:a-(k-1) with
   |zero=>rw[oriF];rw[hy]at hz;rw[hz];rfl
   |succ y =>
    rw[hy]at hz
    rw[oriF,hz]
    rcases h3 with h3|⟨_,h3⟩
    ·omega
    ·rw[show a+1-k=y+1 by omega]at h3
     simp only[h3,if_true,Option.isSome_none,Bool.false_eq_true,if_false]
  rw[e1,e2]
  exact ori_rep (s:=[]) (b:=false)
 ·refine⟨_,rfl,fun w' A'=>?_,hB⟩
  have hn:∀j,j<k→movF (l.getD (a-j) default).moves q=none:=fun j hj=>by
   have:=h2 _ (hmem hj)
   cases hx:movF (l.getD (a-j) default).moves q with
   |none=>rfl
   |some v=>rw[hx]at this;simp at this
  have e1:=oriF_at (l:=l) (q:=q) (a:=a) (k:=k) (by omega) (fun j hj=>⟨hn j hj,by have:=h4 (j+1) (by omega) (by omega);rwa [show a+1-(j+1)=a-j by omega]at this⟩)
  rw[e1]
  have e2:oriF l q (a-k)=some (l.getD (a-k) default).num:=by
   cases hy:a-k with
   |zero=>rw[oriF,←hy,if_pos h3]
   |succ y=>rw[oriF,←hy,if_pos h3]
  rw[e2]
  exact ori_rep (s:=(l.getD (a-k) default).num) (b:=true)
def okCu (c:Cu):Bool:=decide (c.num.length<140737488355328)&&decide (c.label.length<140737488355328)&&decide (c.moves.length<140737488355328)&&decide (c.parts.length<140737488355328)&&decide (c.link.length<140737488355328)
def okLst (l:List Cu):Bool:=decide (l.length<140737488355328)&&l.all okCu
theorem okLst_iff {x:Lst}:okLst x.cues=true↔x.ok:=by
 simp only[okLst,okCu,Bool.and_eq_true,decide_eq_true_eq,List.all_eq_true]
 exact⟨fun h=>⟨h.1,fun c hc=>by obtain⟨⟨⟨⟨a,b⟩,c⟩,d⟩,e⟩:=h.2 c hc;exact⟨a,b,c,d,e⟩⟩,fun h=>⟨h.a,fun c hc=>by have:=h.b c hc;exact⟨⟨⟨⟨this.a,this.b⟩,this.c⟩,this.d⟩,this.e⟩⟩⟩
def hOri:List V→Option VRes
 |[.agg [.int .i64 n,.int .i64 p,.sl cs],.str s,.agg [.int .i64 c,.int .i64 d]]=>match rdL rdCu cs with
  |some l=>if okLst l&&decide (s.length<140737488355328)&&decide (lstP ⟨n,p,l⟩=0)&&decide (plcE ⟨n,p,l⟩ s=0)&&decide (prmC 1 ⟨c,d⟩=0) then some (.ret (oriV (oriF l ⟨c,d⟩ (plcV ⟨n,p,l⟩ s).toNat))) else none
  |none=>none
 |_=>none
def flat1:V→Bool
 | .int _ _ | .bool _ | .str _=>true
 |_=>false
def flatT:V→Bool
 | .tup vs=>vs.all flat1
 |v=>flat1 v
theorem flat1_rep {w w':World}{A A':Abs}{v:Value}{r:V}(hf:flat1 r=true)(h:Rep w A v r):Rep w' A' v r:=by
 cases r with
 |int k n=>rw[h.int_inv];exact .int _ _
 |bool b=>rw[h.bool_inv];exact .bool _
 |str s=>rw[h.str_inv];exact .str _
 |_=>simp[flat1]at hf
theorem flatT_rep {w w':World}{A A':Abs}{v:Value}{r:V}(hf:flatT r=true)(h:Rep w A v r):Rep w' A' v r:=by
 by_cases ht:∃vs,r=.tup vs
 ·obtain⟨vs,rfl⟩:=ht
  simp only[flatT,List.all_eq_true]at hf
  obtain⟨us,rfl,hl,hr⟩:=h.tup_inv
  exact .tup _ _ hl fun i v c h1 h2=>flat1_rep (hf c (List.mem_of_getElem? h2)) (hr i v c h1 h2)
 ·refine flat1_rep ?_ h
  cases r with
  |tup vs=>exact absurd ⟨vs,rfl⟩ ht
  |_=>exact hf
theorem VRet_read {f:FuncId}{fn:Func}(hF:Tryz.prog.funcs[f]?=some fn)(hname:(fn.name == "runtime.NumGoroutine")=false)(hbd:fn.body.isNone=false)(hc:Callable Tryz.prog f){args:List V}{st:St}{r:V}(hb:V.bdL 0 (args.map (shutA st))=true)(hr:flatT r=true)
  (h:VRet Tryz.prog f (args.map (shutA st)) st0 r st0):VRet Tryz.prog f args st r st :=
 VRet_of_below hc fun w A vs hs ha=>by
  have h1:Reps w A.shut vs (args.map (shutA st)):=⟨by rw[List.length_map];exact ha.1,fun i v c hv hc=>by
   rw[List.getElem?_map]at hc
   obtain⟨d,hd,rfl⟩:=Option.map_eq_some_iff.1 hc
   exact shutA_rep hs (ha.2 i v d hv hd)⟩
  have h2:=h1.data (B:=abs0 w) (fun b o h=>h.elim (hs.Clt b o) fun⟨id,h⟩=>(hs.ownlt b id h).1) hb
  exact(calls_of hF hname hbd h h2).mono fun e W' ⟨⟨v,A',he,hrr⟩,hB⟩=>⟨v,he,fun w' A'=>flatT_rep hr hrr,hB⟩
noncomputable def hRd (k:FuncId)(args:List V)(st:St):Rt:=match evK Tryz.prog HH 100 30 k (args.map (shutA st)) st0 with
 |some (.ret r,⟨0,[],[],⟨[],[],[]⟩⟩)=>if flatT r&&V.bdL 0 (args.map (shutA st)) then some (.ret r,st) else none
 |_=>none
theorem hRd_ok {f:FuncId}{fn:Func}(hF:Tryz.prog.funcs[f]?=some fn)(hname:(fn.name == "runtime.NumGoroutine")=false)(hbd:fn.body.isNone=false)(hc:Callable Tryz.prog f){args:List V}{st:St}{r:VRes}{s:St}(h:hRd f args st=some (r,s)):VCalls Tryz.prog f args st (fun r' s'=>r'=r∧s'=s):=by
 unfold hRd at h
 split at h
 ·rename_i r0 he
  split at h
  ·rename_i hc0
   cases h
   simp only[Bool.and_eq_true]at hc0
   exact VRet_read hF hname hbd hc hc0.2 hc0.1 (run_sound mixed HH_ok _ _ _ _ _ (evK_run he))
  ·cases h
 ·cases h
def oslI:List V→Option Nat
 |[]=>none
 | .agg cs::r=>match cs.findSome? (fun c=>match c with
  | .osl id _=>some id
  |_=>none) with
  |some id=>some id
  |none=>oslI r
 |_::r=>oslI r
noncomputable def hFzR (k:FuncId)(args:List V)(st:St):Rt:=if V.bdL 0 args then shutR st (evK Tryz.prog HH 100 30 k args (stG st.x.gl)) else none
noncomputable def hFz (k:FuncId)(args:List V)(st:St):Rt:=match oslI args with
 |some id=>match Sha.look st.arr id with
  |some r=>hFzR k (args.map fun a=>(snapA (frzS st id r) a).getD a) (frzS st id r)
  |none=>none
 |none=>none
theorem hFz_ok {k:FuncId}{args:List V}{st:St}{r:VRes}{s:St}(h:hFz k args st=some (r,s)):VCalls Tryz.prog k args st (fun r' s'=>r'=r∧s'=s):=by
 unfold hFz at h
 split at h
 ·split at h
  ·rename_i hl
   refine VCalls_freeze hl ?_
   unfold hFzR at h
   split at h
   ·rename_i hb
    generalize hz:evK Tryz.prog HH 100 30 k _ _=z at h
    cases z with
    |none=>simp only[shutR]at h;cases h
    |some z =>
     obtain⟨r1,s1⟩:=z
     exact VCalls_shut hb (run_sound mixed HH_ok _ _ _ _ _ (evK_run hz)) h
   ·cases h
  ·cases h
 ·cases h
theorem callable46:Callable Tryz.prog 46:=⟨_,Tryz.func46,by kernel_rfl,by kernel_rfl⟩
noncomputable def HG:EvF:=⟨[66,97,112],fun f args st=>bif Nat.beq f 20 then(hOri args).map fun r=>(r,st) else bif Nat.beq f 46 then hRd 46 args st else bif Nat.beq f 47 then hFz 47 args st else HH f args st⟩
theorem HG_ok:ESound Tryz.prog HG:=fun f args st r s h=>by
 simp only[HG]at h
 by_cases h1:f=20
 ·subst h1
  rw[show Nat.beq 20 20=true from rfl,cond_true]at h
  obtain⟨z,hz,e⟩:=Option.map_eq_some_iff.1 h
  cases e
  unfold hOri at hz
  split at hz
  ·rename_i n p cs t c d
   split at hz
   ·rename_i l hl
    split at hz
    ·rename_i hc
     simp only[Bool.and_eq_true,decide_eq_true_eq]at hc
     obtain⟨⟨⟨⟨c1,c2⟩,c3⟩,c4⟩,c5⟩:=hc
     cases hz
     have:=v20 (x:=⟨n,p,l⟩) (okLst_iff.1 c1) c3 c5 c2 c4 st
     simp only[Lst.v,Prm.v]at this
     rw[←rdL_map rdCu_v hl]at this
     exact this
    ·cases hz
   ·cases hz
  ·cases hz
 rw[show Nat.beq f 20=false from Bool.eq_false_iff.2 fun e=>h1 (Nat.eq_of_beq_eq_true e),cond_false]at h
 by_cases h1:f=46
 ·subst h1
  exact hRd_ok Tryz.func46 (by kernel_rfl) (by kernel_rfl) callable46 h
 rw[show Nat.beq f 46=false from Bool.eq_false_iff.2 fun e=>h1 (Nat.eq_of_beq_eq_true e),cond_false]at h
 by_cases h1:f=47
 ·subst h1
  exact hFz_ok h
 rw[show Nat.beq f 47=false from Bool.eq_false_iff.2 fun e=>h1 (Nat.eq_of_beq_eq_true e),cond_false]at h
 exact HH_ok _ _ _ _ _ h
end Go.Proofs.YtdnpaifeoinjoaaGreatDoor

namespace Go.Proofs.YtdnpaifeoinjoaaGreatDoor
open Go.Sha
set_option maxRecDepth 100000
theorem e14 (g:List (Nat×Obj)):evK Tryz.prog HG 100 30 14 [] (stG g)=some (.ret (.bool true),stG g):=by kernel_rfl
end Go.Proofs.YtdnpaifeoinjoaaGreatDoor

namespace Go.Proofs.YtdnpaifeoinjoaaGreatDoor
open Go.Sha
set_option maxRecDepth 100000
noncomputable def HK:EvF:=⟨[66,97,112],fun f args st=>bif memL f [4,5,6] then none else bif Nat.beq f 14 then(match args with
 |[]=>some (.ret (.bool true),st)
 |_=>none) else run Tryz.prog HH f args st⟩
theorem v14 (st:St):VCalls Tryz.prog 14 [] st (fun r s=>r=.ret (.bool true)∧s=st) :=
 VCalls_shut rfl (run_sound mixed HG_ok _ _ _ _ _ (evK_run (e14 st.x.gl))) rfl
theorem up {k:FuncId}{a:List V}{st:St}{r:VRes×St}(h:run Tryz.prog HH k a st=some r)(h1:memL k [4,5,6]=false:=by rfl)(h2:Nat.beq k 14=false:=by rfl):run Tryz.prog HK k a st=some r:=run_H (by
 show(bif memL k [4,5,6] then none else bif Nat.beq k 14 then _ else run Tryz.prog HH k a st)=_
 rw[h1,h2,cond_false,cond_false];exact h)
end Go.Proofs.YtdnpaifeoinjoaaGreatDoor

namespace Go.Proofs.YtdnpaifeoinjoaaGreatDoor
open Go.Sha
set_option maxRecDepth 100000
noncomputable def hRu (k:FuncId)(args:List V)(st:St):Rt:=match run Tryz.prog HH k (args.map (shutA st)) st0 with
 |some (.ret r,⟨0,[],[],⟨[],[],[]⟩⟩)=>if flatT r&&V.bdL 0 (args.map (shutA st)) then some (.ret r,st) else none
 |_=>none
theorem hRu_ok {f:FuncId}{fn:Func}(hF:Tryz.prog.funcs[f]?=some fn)(hname:(fn.name == "runtime.NumGoroutine")=false)(hbd:fn.body.isNone=false)(hc:Callable Tryz.prog f){args:List V}{st:St}{r:VRes}{s:St}(h:hRu f args st=some (r,s)):VCalls Tryz.prog f args st (fun r' s'=>r'=r∧s'=s):=by
 unfold hRu at h
 split at h
 ·rename_i r0 he
  split at h
  ·rename_i hc0
   cases h
   simp only[Bool.and_eq_true]at hc0
   exact VRet_read hF hname hbd hc hc0.2 hc0.1 (run_sound mixed HH_ok _ _ _ _ _ he)
  ·cases h
 ·cases h
noncomputable def hFuR (k:FuncId)(args:List V)(st:St):Rt:=if V.bdL 0 args then shutR st (run Tryz.prog HH k args (stG st.x.gl)) else none
noncomputable def hFu (k:FuncId)(args:List V)(st:St):Rt:=match oslI args with
 |some id=>match Sha.look st.arr id with
  |some r=>hFuR k (args.map fun a=>(snapA (frzS st id r) a).getD a) (frzS st id r)
  |none=>none
 |none=>run Tryz.prog HH k args st
theorem hFu_ok {k:FuncId}{args:List V}{st:St}{r:VRes}{s:St}(h:hFu k args st=some (r,s)):VCalls Tryz.prog k args st (fun r' s'=>r'=r∧s'=s):=by
 unfold hFu at h
 split at h
 ·split at h
  ·rename_i hl
   refine VCalls_freeze hl ?_
   unfold hFuR at h
   split at h
   ·rename_i hb
    generalize hz:run Tryz.prog HH k _ _=z at h
    cases z with
    |none=>simp only[shutR]at h;cases h
    |some z =>
     obtain⟨r1,s1⟩:=z
     exact VCalls_shut hb (run_sound mixed HH_ok _ _ _ _ _ hz) h
   ·cases h
  ·cases h
 ·exact run_sound mixed HH_ok _ _ _ _ _ h
noncomputable def HU:EvF:=⟨[66,97,112],fun f args st=>bif memL f [4,5,6,21] then none else bif Nat.beq f 14 then(match args with
 |[]=>some (.ret (.bool true),st)
 |_=>none) else bif Nat.beq f 20 then(hOri args).map fun r=>(r,st) else bif Nat.beq f 46 then hRu 46 args st else bif Nat.beq f 47 then hFu 47 args st else run Tryz.prog HH f args st⟩
@[push_cast]theorem HU_raw:HU.raw=[66,97,112]:=idq rfl
theorem HU_ok:ESound Tryz.prog HU:=fun f args st r s h=>by
 simp only[HU]at h
 cases hm:memL f [4,5,6,21] with
 |true=>rw[hm,cond_true]at h;cases h
 |false =>
 rw[hm,cond_false]at h
 by_cases h2:f=14
 ·subst h2
  rw[show Nat.beq 14 14=true from rfl,cond_true]at h
  split at h
  ·cases h;exact v14 st
  ·cases h
 rw[show Nat.beq f 14=false from Bool.eq_false_iff.2 fun e=>h2 (Nat.eq_of_beq_eq_true e),cond_false]at h
 by_cases h1:f=20
 ·subst h1
  rw[show Nat.beq 20 20=true from rfl,cond_true]at h
  exact HG_ok 20 args st r s h
 rw[show Nat.beq f 20=false from Bool.eq_false_iff.2 fun e=>h1 (Nat.eq_of_beq_eq_true e),cond_false]at h
 by_cases h1:f=46
 ·subst h1
  exact hRu_ok Tryz.func46 (by kernel_rfl) (by kernel_rfl) callable46 h
 rw[show Nat.beq f 46=false from Bool.eq_false_iff.2 fun e=>h1 (Nat.eq_of_beq_eq_true e),cond_false]at h
 by_cases h1:f=47
 ·subst h1
  exact hFu_ok h
 rw[show Nat.beq f 47=false from Bool.eq_false_iff.2 fun e=>h1 (Nat.eq_of_beq_eq_true e),cond_false]at h
 exact run_sound mixed HH_ok _ _ _ _ _ h
theorem upU {k:FuncId}{a:List V}{st:St}{r:VRes×St}(h:run Tryz.prog HH k a st=some r)(h1:memL k [4,5,6,21,14,20,46,47]=false:=by rfl):run Tryz.prog HU k a st=some r:=run_H (by
 simp only[memL]at h1
 repeat' split at h1
 all_goals first|(cases h1;done)|skip
 have e:∀m,¬m=k→Nat.beq k m=false:=fun m hm=>Bool.eq_false_iff.2 fun e=>hm (Nat.eq_of_beq_eq_true e).symm
 show(bif memL k [4,5,6,21] then none else bif Nat.beq k 14 then _ else bif Nat.beq k 20 then _ else bif Nat.beq k 46 then _ else bif Nat.beq k 47 then _ else run Tryz.prog HH k a st)=_
 simp only[memL]
 simp only[*,if_false,cond_false,e 14 ‹_›,e 20 ‹_›,e 46 ‹_›,e 47 ‹_›])
theorem f14u {st:St}:run Tryz.prog HU 14 [] st=some (.ret (.bool true),st):=run_H rfl
end Go.Proofs.YtdnpaifeoinjoaaGreatDoor

namespace Go.Proofs.YtdnpaifeoinjoaaGreatDoor
open Go.Sha
set_option maxRecDepth 100000
variable {x:Lst}
def oriI (l:List Cu)(q:Prm):Nat→Option Nat
 |0=>if(movF (l.getD 0 default).moves q).isSome then some 0 else none
 |a+1=>if(movF (l.getD (a+1) default).moves q).isSome then some (a+1) else if(l.getD (a+1) default).block then none else oriI l q a
theorem oriF_I {l:List Cu}{q:Prm}:∀a,oriF l q a=(oriI l q a).map fun i=>(l.getD i default).num
 |0=>by rw[oriF,oriI];split<;>rfl
 |a+1=>by
  rw[oriF,oriI,oriF_I a]
  split
  ·rfl
  ·split<;>rfl
theorem oriI_some {l:List Cu}{q:Prm}{i:Nat}:∀{a:Nat},oriI l q a=some i→i≤a∧(movF (l.getD i default).moves q).isSome=true
 |0,h=>by
  rw[oriI]at h
  split at h
  ·rename_i h1;cases h;exact⟨Nat.le_refl _,h1⟩
  ·cases h
 |a+1,h=>by
  rw[oriI]at h
  split at h
  ·rename_i h1;cases h;exact⟨Nat.le_refl _,h1⟩
  ·split at h
   ·cases h
   ·obtain⟨h1,h2⟩:=oriI_some h;exact⟨by omega,h2⟩
def insC (c:Cu)(m:Mov):Cu:={ c with moves:=insT keyM m c.moves }
def insS (x:Lst)(i:Nat)(m:Mov):Lst:={ x with cues:=x.cues.set i (insC (x.cues.getD i default) m) }
theorem insT_mem {m q:Mov}{l:List Mov}(h:q∈insT keyM m l):q=m∨q∈l:=by
 simp only[insT,List.mem_append,List.mem_cons,List.mem_filter]at h
 rcases h with h|h|h
 ·exact .inr h.1
 ·exact .inl h
 ·exact .inr h.1
theorem cueP_mv {c:Cu}(h:cueP c=0){Z:List Mov}{b:Bool}(h3:movCP Z=0)(hs:∀q∈Z,q.part≤c.parts.length):cueP { c with moves:=Z,block:=b }=0:=by
 obtain⟨p1,p2,p3,p4,p5⟩:=cue_parts h
 have q4:parC { c with moves:=Z,block:=b }=0:=by
  unfold parC at p4 ⊢
  simp only
  by_cases h1:(c.parts.length:Int)=0
  ·rw[if_pos h1]at p4;cases p4
  rw[if_neg h1]at p4 ⊢
  by_cases h2:4<(c.parts.length:Int)
  ·rw[if_pos h2]at p4;cases p4
  rw[if_neg h2]at p4 ⊢
  by_cases h3:timL c.parts=0
  ·rw[if_pos h3]at p4 ⊢
   rw[if_neg]
   intro hz
   obtain⟨q,hq,hq2⟩:=List.any_eq_true.1 hz
   have hq2:=of_decide_eq_true hq2
   have:=hs q hq
   omega
  ·rw[if_neg h3]at p4;exact absurd p4 h3
 have q5:nxtC { c with moves:=Z,block:=b }=0:=p5
 unfold cueP
 simp only[p1,p2,h3,q4,q5,not_true,if_false]
theorem cue_part {c:Cu}(h:cueP c=0):0<c.parts.length∧∀q∈c.moves,q.part≤c.parts.length:=by
 obtain⟨p1,p2,p3,p4,p5⟩:=cue_parts h
 unfold parC at p4
 by_cases h1:(c.parts.length:Int)=0
 ·rw[if_pos h1]at p4;cases p4
 rw[if_neg h1]at p4
 by_cases h2:4<(c.parts.length:Int)
 ·rw[if_pos h2]at p4;cases p4
 rw[if_neg h2]at p4
 by_cases h3:timL c.parts=0
 ·rw[if_pos h3]at p4
  refine⟨by omega,fun q hq=>?_⟩
  rcases Int.lt_or_le c.parts.length q.part with h|h
  ·rw[if_pos (List.any_eq_true.2 ⟨q,hq,decide_eq_true h⟩)]at p4;cases p4
  ·exact h
 ·rw[if_neg h3]at p4;exact absurd p4 h3
structure InsOk (x:Lst) (i:Nat) (m:Mov):Prop where
 lt:i<x.cues.length
 rng:prmC 1 m.prm=0
 fld:okF m
 part:m.part≤(x.cues.getD i default).parts.length
 len:(insT keyM m (x.cues.getD i default).moves).length≤128
theorem ins_cueP (h:lstP x=0){i:Nat}{m:Mov}(hi:InsOk x i m):cueP (insC (x.cues.getD i default) m)=0:=by
 obtain⟨m1,m2,m3⟩:=lst_mov h _ (cue_mem hi.lt)
 have hc:=lst_cue h _ (cue_mem hi.lt)
 refine cueP_mv (b:=(x.cues.getD i default).block) hc (movCP_of hi.len (fun q hq=>⟨insM_rng m2 hi.rng q hq,?_⟩) (asc_insT m3)) fun q hq=>?_
 ·rcases insT_mem hq with rfl|hq
  ·exact hi.fld
  ·exact cue_fld h _ (cue_mem hi.lt) q hq
 ·rcases insT_mem hq with rfl|hq
  ·exact hi.part
  ·exact(cue_part hc).2 q hq
theorem ins_ok (h:lstP x=0)(hx:x.ok){i:Nat}{m:Mov}(hi:InsOk x i m):lstP (insS x i m)=0∧(insS x i m).ok:=by
 have hb:lstP x=0:=h
 unfold lstP lstB at hb
 split at hb
 ·cases hb
 rename_i b1
 split at hb
 ·cases hb
 rename_i b2
 have hl:(insS x i m).cues.length=x.cues.length:=List.length_set ..
 refine⟨?_,⟨by rw[hl];exact hx.a,fun q hq=>?_⟩⟩
 ·unfold lstP
  rw[if_neg (show ¬lstB (insS x i m) from b1),if_neg (by rw[hl];exact b2)]
  exact cuesP_set (c:=insC (x.cues.getD i default) m) hi.lt rfl (ins_cueP h hi) x.cues 0 rfl hb
 ·rcases List.mem_or_eq_of_mem_set hq with hq|rfl
  ·exact hx.b q hq
  ·have hc:=hx.b _ (cue_mem hi.lt)
   exact⟨hc.a,hc.b,by show(insT keyM m (x.cues.getD i default).moves).length<_;have:=hi.len;omega,hc.d,hc.e⟩
theorem movF_ins (h:lstP x=0){i:Nat}{m:Mov}(hi:InsOk x i m){q:Prm}(hq:prmC 1 q=0):movF (insT keyM m (x.cues.getD i default).moves) q=if q=m.prm then some m.val else movF (x.cues.getD i default).moves q:=by
 obtain⟨m1,m2,m3⟩:=lst_mov h _ (cue_mem hi.lt)
 rw[movF_fk (insM_rng m2 hi.rng) hq,fk_ins m3,movF_fk m2 hq,show keyM m=keyN m.prm from rfl]
 by_cases e:q=m.prm
 ·subst e;rw[if_pos rfl,if_pos rfl];rfl
 ·rw[if_neg (fun e2=>e (keyN_inj hi.rng hq e2).symm),if_neg e]
theorem ins_cue {i:Nat}{m:Mov}(hi:InsOk x i m)(j:Nat):(insS x i m).cues.getD j default=if j=i then insC (x.cues.getD i default) m else x.cues.getD j default:=getD_set hi.lt
theorem valF_same (h:lstP x=0){i:Nat}{m:Mov}(hi:InsOk x i m){q:Prm}(hq:prmC 1 q=0)(hn:¬q=m.prm):∀j,valF (insS x i m).cues q j=valF x.cues q j
 |0=>by
  rw[valF,valF,ins_cue hi]
  split
  ·rename_i e;subst e
   show(movF (insT keyM m _) q).getD _=_
   rw[movF_ins h hi hq,if_neg hn]
  ·rfl
 |j+1=>by
  rw[valF,valF,ins_cue hi,valF_same h hi hq hn j]
  by_cases e:j+1=i
  ·subst e
   rw[if_pos rfl]
   show(match movF (insT keyM m _) q with|some v=>v|none=>if(x.cues.getD (j+1) default).block=true then _ else _)=_
   rw[movF_ins h hi hq,if_neg hn]
   rfl
  ·rw[if_neg e]
theorem valF_new (h:lstP x=0){i:Nat}{m:Mov}(hi:InsOk x i m):∀{j},oriI x.cues m.prm j=some i→valF (insS x i m).cues m.prm j=m.val
 |0,ho=>by
  rw[oriI]at ho
  split at ho
  ·cases ho
   rw[valF,ins_cue hi,if_pos rfl]
   show(movF (insT keyM m _) m.prm).getD _=_
   rw[movF_ins h hi hi.rng,if_pos rfl];rfl
  ·cases ho
 |j+1,ho=>by
  rw[oriI]at ho
  split at ho
  ·cases ho
   rw[valF,ins_cue hi,if_pos rfl]
   show(match movF (insT keyM m _) m.prm with|some v=>v|none=>_)=_
   rw[movF_ins h hi hi.rng,if_pos rfl]
  ·rename_i h1
   split at ho
   ·cases ho
   ·rename_i h2
    have hle:=(oriI_some ho).1
    rw[valF,ins_cue hi,if_neg (by omega)]
    have hm:movF (x.cues.getD (j+1) default).moves m.prm=none:=by
     cases hm:movF (x.cues.getD (j+1) default).moves m.prm with
     |none=>rfl
     |some v=>rw[hm]at h1;exact absurd rfl h1
    rw[hm]
    dsimp only
    rw[if_neg h2,valF_new h hi ho]
theorem valF_old (h:lstP x=0){i:Nat}{m:Mov}(hi:InsOk x i m)(hs:(movF (x.cues.getD i default).moves m.prm).isSome=true):∀{j},¬oriI x.cues m.prm j=some i→valF (insS x i m).cues m.prm j=valF x.cues m.prm j
 |0,ho=>by
  rw[valF,valF,ins_cue hi,if_neg]
  intro e;subst e
  exact ho (by rw[oriI,if_pos hs])
 |j+1,ho=>by
  have hne:¬j+1=i:=fun e=>by subst e;exact ho (by rw[oriI,if_pos hs])
  rw[valF,valF,ins_cue hi,if_neg hne]
  cases hm:movF (x.cues.getD (j+1) default).moves m.prm with
  |some v=>rfl
  |none =>
   dsimp only
   by_cases hb:(x.cues.getD (j+1) default).block=true
   ·rw[if_pos hb,if_pos hb]
   ·rw[if_neg hb,if_neg hb,valF_old h hi hs]
    intro e
    refine ho ?_
    rw[oriI,hm,if_neg (by simp),if_neg hb,e]
theorem valF_upto {l l':List Cu}{q:Prm}:∀{j},(∀i,i≤j→l.getD i default=l'.getD i default)→valF l q j=valF l' q j
 |0,h=>by rw[valF,valF,h 0 (Nat.le_refl _)]
 |j+1,h=>by rw[valF,valF,h (j+1) (Nat.le_refl _),valF_upto fun i hi=>h i (by omega)]
theorem valF_none {q:Prm}(hq:q ∉ ftpL x):∀{j},j<x.cues.length→valF x.cues q j=⟨-1,0⟩:=by
 have hm:∀j,j<x.cues.length→movF (x.cues.getD j default).moves q=none:=fun j hj=>by
  cases hm:movF (x.cues.getD j default).moves q with
  |none=>rfl
  |some v =>
   have h1:(movF (x.cues.getD j default).moves q).isSome=true:=by rw[hm];rfl
   rw[←any_movF,List.any_eq_true]at h1
   obtain⟨m,h1,h2⟩:=h1
   obtain rfl:=of_decide_eq_true h2
   exact absurd (ftpL_mem.2 ⟨_,cue_mem hj,List.mem_map_of_mem h1⟩) hq
 intro j
 induction j with
 |zero=>intro hj;rw[valF,hm 0 hj];rfl
 |succ j ih =>
  intro hj
  rw[valF,hm _ hj]
  dsimp only
  split
  ·rfl
  ·exact ih (by omega)
theorem rv_ent {q:Prm}{j:Nat}(hj:j<x.cues.length):rvL (entL x j) q=valF x.cues q j:=by
 have hn:((entL x j).map Prod.fst).Nodup:=by
  rw[entL,List.map_map];exact(List.map_id _).symm▸ftpL_nodup
 unfold rvL
 by_cases hq:q∈ftpL x
 ·have hm:(q,valF x.cues q j)∈entL x j:=List.mem_map.2 ⟨q,hq,rfl⟩
  obtain⟨t,ht⟩:=List.mem_iff_getElem?.1 hm
  have h1:=ix_first hn ht
  rw[h1,if_neg (by omega),Int.toNat_natCast,List.getD_eq_getElem?_getD,ht];rfl
 ·rw[valF_none hq hj]
  rw[if_pos]
  rcases ix_rng (p:=fun e:Prm×Val=>decide (e.1=q)) (l:=entL x j) (j:=0) with h|h
  ·omega
  ·exfalso
   obtain⟨t,ht⟩:∃t:Nat,ix (fun e:Prm×Val=>decide (e.1=q)) (entL x j) 0=((0+t:Nat):Int):=⟨(ix (fun e:Prm×Val=>decide (e.1=q)) (entL x j) 0).toNat,by omega⟩
   obtain⟨y,y1,y2⟩:=ix_holds ht
   obtain⟨p,hp,rfl⟩:=List.mem_map.1 (List.mem_of_getElem? y1)
   have:p=q:=of_decide_eq_true y2
   exact hq (this▸hp)
end Go.Proofs.YtdnpaifeoinjoaaGreatDoor

namespace Go.Proofs.YtdnpaifeoinjoaaGreatDoor
open Go.Sha
set_option maxRecDepth 100000
variable {g:List (Nat×Obj)}{n:Nat}{x:Lst}
theorem f20 (h:lstP x=0)(hx:x.ok){k:Nat}(hk:k<x.cues.length){p:Prm}(hp:prmC 1 p=0){st:St}:run Tryz.prog HU 20 [x.v,.str (x.cues.getD k default).num,p.v] st=some (.ret (oriV (oriF x.cues p k)),st):=by
 obtain⟨p1,p2⟩:=plc_own h hk
 refine run_H (show(hOri [x.v,.str (x.cues.getD k default).num,p.v]).map (fun r=>(r,st))=_ from ?_)
 simp only[Lst.v,Prm.v,hOri]
 rw[rdL_v (f:=rdCu) (v:=Cu.v) (fun _=>rdCu_of)]
 dsimp only
 have c1:(okLst x.cues&&decide ((x.cues.getD k default).num.length<140737488355328)&&decide (lstP x=0)&&decide (plcE x (x.cues.getD k default).num=0)&&decide (prmC 1 p=0))=true:=by
  simp only[Bool.and_eq_true,decide_eq_true_eq]
  exact⟨⟨⟨⟨okLst_iff.2 hx,(hx.b _ (cue_mem hk)).a⟩,h⟩,p1⟩,hp⟩
 rw[if_pos c1,p2,Int.toNat_natCast];rfl
theorem enS_one {e:Prm×Val}(h1:prmC 1 e.1=0)(h2:valC e.2=0):enS [e]=0:=by
 have hc:entC e=0:=by unfold entC;rw[if_neg (by simp[h1]),h2]
 unfold enS
 rw[if_neg (by show ¬(4096:Int)<1;omega),enP,if_neg (by simp[hc]),if_neg (by omega)];rfl
theorem f21n (h:lstP x=0)(hx:x.ok){k:Nat}(hk:k<x.cues.length){e:Prm×Val}(h1:prmC 1 e.1=0)(h2:valC e.2=0)(ho:oriI x.cues e.1 k=none){st:St}:run Tryz.prog HU 21 [x.v,.str (x.cues.getD k default).num,.sl [entV e]] st=some (.ret (if 128<(mrg (x.cues.getD k default).moves [toM e]).length then .tup [(default:Lst).v,.int .i64 5] else .tup [(insS x k (toM e)).v,.int .i64 0]),st):=by
 have h20:=fun(st:St)=>f20 h hx hk h1 (st:=st)
 rw[oriF_I,ho]at h20
 have h42:=fun(st:St)=>upU (f42 h hx hk (st:=st))
 have h43:=fun(st:St)=>upU (f43 (l:=[e]) (by show 1<_;omega) (st:=st))
 have hen:=enS_one h1 h2
 rw[hen]at h43
 have h49:=fun(st:St)=>upU (f49 h hx hk (l:=[e]) (by show 1≤_;omega) hen (fun q hq=>by rw[List.mem_singleton.1 hq];exact h1) (st:=st))
 have h48:=fun(y:Lst) (v:Int) (st:St)=>upU (f48 (y:=y) (v:=v) (st:=st))
 have hro:roomV 1 32=true:=roomV_lit (by omega) (by omega)
 unfold insS insC
 rw[show[e].map toM=[toM e] from rfl,show mrg (x.cues.getD k default).moves [toM e]=insT keyM (toM e) (x.cues.getD k default).moves from rfl]at h49
 rw[show mrg (x.cues.getD k default).moves [toM e]=insT keyM (toM e) (x.cues.getD k default).moves from rfl]
 generalize insT keyM (toM e) (x.cues.getD k default).moves=Z at *
 rw[run_shut F21 rfl rfl (by simp)]
 push_cast[Lst.v,Prm.v,oriV,Option.map_none]at h20 h42 h43 h49
 by_cases hZ:128<Z.length
 ·have h48:=h48 default 5
  rw[if_neg (by omega)]at h48
  push_cast[hZ,Cu.v,Lst.v]at h49 h48 ⊢
  push_cast[Lst.v,Cu.v,h20,h42,h43,h49,h48,hro,runL_of B21_0.eq_1]
 ·have h48:=h48 { x with cues:=x.cues.set k { x.cues.getD k default with moves:=Z } } 0
  rw[if_pos rfl]at h48
  push_cast[hZ,Cu.v,Lst.v]at h49 h48 ⊢
  push_cast[Lst.v,Cu.v,h20,h42,h43,h49,h48,hro,runL_of B21_0.eq_1]
def ownC (c:Cu)(id:Nat):V:=.agg [.str c.num,.str c.label,.osl id c.moves.length,.sl (c.parts.map Tim.v),.bool c.block,.bool c.mark,.int .i64 c.follow,.str c.link,.int .i64 c.loops]
theorem shut_own {c:Cu}{id:Nat}{st:St}{a:Arr}(hl:Sha.look st.arr id=some a)(ha:a.xs=c.moves.map Mov.v):shutA st (ownC c id)=c.v:=by
 have h1:shut1 st (.osl id c.moves.length)=.sl (c.moves.map Mov.v):=by
  simp only[shut1,hl];rw[ha,List.length_map,if_pos rfl]
 simp only[ownC,shutA,List.map_cons,List.map_nil,h1]
 rfl
theorem r46u {c:Cu}(hc:c.ok)(h0:cueP c=0){p:Prm}(hp:prmC 1 p=0)(hf:bsF (cmM p) c.moves=true){id:Nat}{st:St}{a:Arr}(hl:Sha.look st.arr id=some a)(ha:a.xs=c.moves.map Mov.v) :
  run Tryz.prog HU 46 [ownC c id,p.v] st=some (.ret (.tup [.int .i64 (bsR (cmM p) c.moves),.bool true,.int .i64 0]),st):=by
 refine run_H (show hRu 46 [ownC c id,p.v] st=_ from ?_)
 have e:[ownC c id,p.v].map (shutA st)=[c.v,p.v]:=by rw[List.map_cons,shut_own hl ha];rfl
 have h:=f46 hc h0 hp (st:=st0)
 rw[if_pos hf]at h
 unfold hRu
 rw[e,h]
 rw[show st0=⟨0,[],[],⟨[],[],[]⟩⟩ from rfl]
 have hb:V.bdL 0 [c.v,p.v]=true:=(by simp)
 show(if(flatT (.tup [.int .i64 (bsR (cmM p) c.moves),.bool true,.int .i64 0])&&V.bdL 0 [c.v,p.v])=true then _ else _)=_
 rw[if_pos (by rw[hb];rfl)]
theorem r47u {c:Cu}{i:Nat}(h64:x.cues.length≤64)(hi:i<x.cues.length){id:Nat}{st:St}{a:Arr}(hl:Sha.look st.arr id=some a)(ha:a.xs=c.moves.map Mov.v)(hid:id<st.nx) :
  run Tryz.prog HU 47 [x.v,.int .i64 i,ownC c id] st=some (.ret (({ x with cues:=x.cues.set i c }:Lst).v),frzS st id a):=by
 refine run_H (show hFu 47 [x.v,.int .i64 i,ownC c id] st=_ from ?_)
 have ho:oslI [x.v,.int .i64 i,ownC c id]=some id:=rfl
 unfold hFu
 rw[ho]
 dsimp only
 rw[hl]
 dsimp only
 have hl2:Sha.look (frzS st id a).arr id=some { a with wr:=false }:=by
  unfold frzS;rw[look_updA,if_pos rfl,hl];rfl
 have h1:snap1 (frzS st id a) (.osl id c.moves.length)=some (.sl (c.moves.map Mov.v)):=by
  simp only[snap1,hl2];rw[ha,List.length_map,if_pos ⟨rfl,trivial⟩]
 have e:[x.v,.int .i64 i,ownC c id].map (fun b=>(snapA (frzS st id a) b).getD b)=[x.v,.int .i64 i,c.v]:=by
  have e2:snapA (frzS st id a) (ownC c id)=some c.v:=by
   simp only[ownC,snapA,mapO,h1];rfl
  simp only[List.map_cons,List.map_nil,e2,Option.getD_some];rfl
 rw[e]
 unfold hFuR
 have hb:V.bdL 0 [x.v,.int .i64 i,c.v]=true:=(by simp)
 rw[if_pos hb,f47 h64 hi]
 generalize frzS st id a=S
 push_cast[Lst.v]
theorem consO_n1 {r:Option (List V)}:consO none r=none:=rfl
theorem dn_no {α:Type}{p:Prop}{y:Option α}:dn (p∧False) y=none:=if_neg (fun h=>h.2)
theorem consO_n2 {y:Option V}:consO y none=none:=by cases y<;>rfl
theorem f21s (h:lstP x=0)(hx:x.ok){k:Nat}(hk:k<x.cues.length){e:Prm×Val}(h1:prmC 1 e.1=0)(h2:valC e.2=0){i:Nat}(ho:oriI x.cues e.1 k=some i):∃m,m.prm=e.1∧m.val=e.2∧InsOk x i m∧∀st,run Tryz.prog HU 21 [x.v,.str (x.cues.getD k default).num,.sl [entV e]] st=some (.ret (.tup [(insS x i m).v,.int .i64 0]),st):=by
 obtain⟨i1,i2⟩:=oriI_some ho
 have hi:i<x.cues.length:=by omega
 have h64:=(lst_parts h).2.2.1
 have hc:=cue_mem hi
 obtain⟨m1,m2,m3⟩:=lst_mov h _ hc
 have h20:=fun(st:St)=>f20 h hx hk h1 (st:=st)
 rw[oriF_I,ho]at h20
 have h42:=fun(st:St)=>upU (f42 h hx hk (st:=st))
 have h43:=fun(st:St)=>upU (f43 (l:=[e]) (by show 1<_;omega) (st:=st))
 rw[enS_one h1 h2]at h43
 have h44:=fun(st:St)=>upU (f44 (x:=x) (s:=(x.cues.getD i default).num) (by omega) (st:=st))
 have hix:ix (fun c:Cu=>c.num == (x.cues.getD i default).num) x.cues 0=i:=by
  obtain⟨p1,p2⟩:=plc_own h hi
  rw[plcV,if_pos p1]at p2;exact p2
 rw[hix]at h44
 have hcn:=fun(st:St)=>upU (r_cln (k:=45) (e:=45) (es:=5) (b:=40) (f:=Mov.v) (l:=(x.cues.getD i default).moves) (st:=st) (fun _ _=>rfl) (fun _=>rfl) (fun _=>rfl) (by omega) (by decide))
 have h48:=fun(y:Lst) (st:St)=>upU (f48 (y:=y) (v:=0) (st:=st))
 have hg:∀d,x.cues.getD i d=x.cues.getD i default:=fun d=>by rw[List.getD_eq_getElem?_getD,List.getD_eq_getElem?_getD,List.getElem?_eq_getElem hi];rfl
 have hi1:(i:Int)<x.cues.length:=by omega
 have hcm:CmpK keyM (keyN e.1) (cmM e.1) (x.cues.getD i default).moves:=cmpM m2 h1
 have hb:=bs_tab (show Asc keyM (x.cues.getD i default).moves from m3) hcm
 have hf:bsF (cmM e.1) (x.cues.getD i default).moves=true:=by
  rw[hb.2.2.1,List.any_eq_true]
  rw[←any_movF,List.any_eq_true]at i2
  obtain⟨q,hq,hq2⟩:=i2
  exact⟨q,hq,by have:=of_decide_eq_true hq2;unfold keyM;rw[this];simp⟩
 have hR:=(hb.2.2.2.1 hf).1
 have hgR:=getD_get hR
 have hmem:=List.mem_of_getElem? hgR
 have hpr:((x.cues.getD i default).moves.getD (bsR (cmM e.1) (x.cues.getD i default).moves) default).prm=e.1:=by
  have h3:cmM e.1 ((x.cues.getD i default).moves.getD (bsR (cmM e.1) (x.cues.getD i default).moves) default)=0:=by
   have hf2:=hf
   unfold bsF at hf2
   rw[Bool.and_eq_true]at hf2
   simpa using hf2.2
  exact keyN_inj (m2 _ hmem) h1 ((hcm _ hmem).2.1 h3)
 have h46:=fun(g:List (Nat×Obj)) (mem:List (Nat×List V))=>r46u (hx.b _ hc) (lst_cue h _ hc) h1 hf (id:=6) (st:=⟨7,mem,[(6,⟨45,5,(x.cues.getD i default).moves.map Mov.v,true,false⟩),(3,⟨42,4,[],false,false⟩)],⟨[],g,[]⟩⟩) (a:=⟨45,5,(x.cues.getD i default).moves.map Mov.v,true,false⟩) rfl rfl
 have hins:∀m0:Mov,m0.prm=e.1→(x.cues.getD i default).moves.set (bsR (cmM e.1) (x.cues.getD i default).moves) m0=insT keyM m0 (x.cues.getD i default).moves:=fun m0 hm0 =>
  put_hit (show Asc keyM (x.cues.getD i default).moves from m3) (by show CmpK keyM (keyN m0.prm) _ _;rw[hm0];exact hcm) hf
 clear hb hcm
 generalize hRR:bsR (cmM e.1) (x.cues.getD i default).moves=R at *
 generalize hm0:(x.cues.getD i default).moves.getD R default=m0 at *
 have hins:=hins ⟨m0.prm,e.2,m0.part⟩ hpr
 have hok:InsOk x i ⟨m0.prm,e.2,m0.part⟩:=⟨hi,by show prmC 1 m0.prm=0;rw[hpr];exact h1,⟨h2,(cue_fld h _ hc _ hmem).2⟩,(show m0.part≤_ from(cue_part (lst_cue h _ hc)).2 m0 hmem),by rw[←hins,List.length_set];exact m1⟩
 have hy:=ins_ok h hx hok
 refine⟨⟨m0.prm,e.2,m0.part⟩,hpr,rfl,hok,fun st=>?_⟩
 have hky:k<(insS x i ⟨m0.prm,e.2,m0.part⟩).cues.length:=by show k<(x.cues.set _ _).length;rw[List.length_set];exact hk
 have h49:=fun(st:St)=>upU (f49 hy.1 hy.2 hky (l:=[]) (Nat.zero_le _) rfl (fun q hq=>by cases hq) (st:=st))
 have hc2:∀y:Lst,k<y.cues.length→({ y with cues:=y.cues.set k { y.cues.getD k default with moves:=mrg (y.cues.getD k default).moves [] } }:Lst)=y:=fun y hy=>by
  rw[show mrg (y.cues.getD k default).moves []=(y.cues.getD k default).moves from rfl]
  congr 1
  apply List.ext_getElem?
  intro j
  rw[List.getElem?_set]
  split
  ·rename_i e;subst e
   rw[List.getD_eq_getElem?_getD,List.getElem?_eq_getElem hy];rfl
  ·rfl
 have hl128:¬128<(mrg ((insS x i ⟨m0.prm,e.2,m0.part⟩).cues.getD k default).moves []).length:=by
  have:=(lst_mov hy.1 _ (cue_mem hky)).1
  show ¬128<((insS x i _).cues.getD k default).moves.length
  omega
 simp only[List.map_nil,if_neg hl128,hc2 _ hky]at h49
 clear hl128 hc2 hky hy
 have h47:=fun(mem:List (Nat×List V))=>r47u (x:=x) (c:=insC (x.cues.getD i default) ⟨m0.prm,e.2,m0.part⟩) (i:=i) (by omega) hi (id:=6) (st:=⟨7,mem,[(6,⟨45,5,(insT keyM ⟨m0.prm,e.2,m0.part⟩ (x.cues.getD i default).moves).map Mov.v,true,false⟩),(3,⟨42,4,[],false,false⟩)],⟨[],st.x.gl,[]⟩⟩) (a:=⟨45,5,(insT keyM ⟨m0.prm,e.2,m0.part⟩ (x.cues.getD i default).moves).map Mov.v,true,false⟩) rfl rfl (by show 6<7;omega)
 have hR1:(R:Int)<(x.cues.getD i default).moves.length:=by omega
 rw[show({ x with cues:=x.cues.set i (insC (x.cues.getD i default) ⟨m0.prm,e.2,m0.part⟩) }:Lst)=insS x i ⟨m0.prm,e.2,m0.part⟩ from rfl]at h47
 generalize insS x i ⟨m0.prm,e.2,m0.part⟩=Y at *
 simp only[ownC,insC,frzS,←hins]at h47
 simp only[ownC]at h46
 have h46:=h46 st.x.gl
 simp only[Option.map_some,oriV]at h20
 have h48:=h48 Y
 rw[if_pos rfl]at h48
 generalize (x.cues.getD k default).num=s at *
 generalize x.cues.getD i default=c at *
 simp only[List.map_set,List.length_set]at h47
 rw[run_shut F21 rfl rfl (by simp)]
 push_cast[Lst.v,Prm.v,Cu.v,Mov.v]at h20 h42 h43 h44 hcn h46 h47 h49 h48
 push_cast[Lst.v,Cu.v,Mov.v,h20,h42,h43,h44,hcn,hg,hi,hi1,consO_n1,consO_n2,dn_no,Option.map_none,Option.getD_none,h46,h47,h49,h48,hR,hR1,hgR,stoB,V.cells,V.recell,runL_of B21_0.eq_1]
end Go.Proofs.YtdnpaifeoinjoaaGreatDoor

namespace Go.Proofs.YtdnpaifeoinjoaaGreatDoor
open Go.Sha
set_option maxRecDepth 100000
theorem f15 {x:Lst}(hx:x.ok):∃b,∀st,run Tryz.prog HH 15 [x.v] st=some (.ret (.bool (b&&lstP x == 0&&decide (x.cues.length≤8))),st):=by
 obtain⟨b,h26⟩:=f26 hx
 refine⟨b,fun st=>?_⟩
 have h27:=fun(st:St)=>f27 (x:=x) hx (st:=st)
 rw[←lst_eq]at h27
 have ha:=hx.a
 rw[run_shut F15 rfl rfl (by simp)]
 push_cast[Lst.v]at h26 h27
 have e:decide ((x.cues.length:Int)≤8)=decide (x.cues.length≤8):=by rw[decide_eq_decide];omega
 cases b with
 |true =>
  by_cases h:lstP x=0
  ·push_cast[Lst.v,h26,h27,h,e]
  ·have e0:(lstP x == 0)=false:=by simpa using h
   push_cast[Lst.v,h26,h27,h,e0]
 |false=>push_cast[Lst.v,h26]
end Go.Proofs.YtdnpaifeoinjoaaGreatDoor

namespace Go.Proofs.YtdnpaifeoinjoaaGreatDoor
open Go.Sha
set_option maxRecDepth 100000
variable {g:List (Nat×Obj)}{n:Nat}{x:Lst}
theorem upd_ex (h:lstP x=0)(hx:x.ok){k:Nat}(hk:k<x.cues.length){e:Prm×Val}(h1:prmC 1 e.1=0)(h2:valC e.2=0):(∀st,run Tryz.prog HU 21 [x.v,.str (x.cues.getD k default).num,.sl [entV e]] st=some (.ret (.tup [(default:Lst).v,.int .i64 5]),st)) ∨
  ∃i m,m.prm=e.1∧m.val=e.2∧InsOk x i m∧(∀i',oriI x.cues e.1 k=some i'→i'=i)∧(oriI x.cues e.1 k=none→i=k)∧∀st,run Tryz.prog HU 21 [x.v,.str (x.cues.getD k default).num,.sl [entV e]] st=some (.ret (.tup [(insS x i m).v,.int .i64 0]),st):=by
 cases ho:oriI x.cues e.1 k with
 |some i =>
  obtain⟨m,m1,m2,m3,m4⟩:=f21s h hx hk h1 h2 ho
  exact .inr ⟨i,m,m1,m2,m3,(fun i' e=>by cases e;rfl),(fun e=>by cases e),m4⟩
 |none =>
  have h21:=fun st=>f21n h hx hk h1 h2 ho (st:=st)
  by_cases hZ:128<(mrg (x.cues.getD k default).moves [toM e]).length
  ·rw[if_pos hZ]at h21;exact .inl h21
  ·rw[if_neg hZ]at h21
   have hp:=(cue_part (lst_cue h _ (cue_mem hk))).1
   exact .inr ⟨k,toM e,rfl,rfl,⟨hk,h1,⟨h2,by show ¬((1:Int)<1∨4<(1:Int));omega⟩,by show(1:Int)≤_;omega,Nat.le_of_not_lt hZ⟩,(fun i' e=>by cases e),fun _=>rfl,h21⟩
theorem num_inj (h:lstP x=0){i j:Nat}(hi:i<x.cues.length)(hj:j<x.cues.length)(e:(x.cues.getD i default).num=(x.cues.getD j default).num):i=j:=by
 have ha:=lst_asc h
 have ge:∀k (hk:k<x.cues.length),x.cues.getD k default=x.cues[k]:=fun k hk=>by rw[List.getD_eq_getElem?_getD,List.getElem?_eq_getElem hk];rfl
 rw[ge i hi,ge j hj]at e
 rcases Nat.lt_trichotomy i j with h|h|h
 ·have:=List.pairwise_iff_getElem.1 ha i j hi hj h;rw[e]at this;omega
 ·exact h
 ·have:=List.pairwise_iff_getElem.1 ha j i hj hi h;rw[e]at this;omega
theorem ins_num {i:Nat}{m:Mov}(hi:InsOk x i m)(j:Nat):((insS x i m).cues.getD j default).num=(x.cues.getD j default).num:=by
 rw[ins_cue hi];split
 ·rename_i e;subst e;rfl
 ·rfl
theorem f10k (h:lstP x=0)(hx:x.ok){k:Nat}(hk:k<x.cues.length){st:St}:run Tryz.prog HU 10 [x.v,.str (x.cues.getD k default).num] st=some (.ret (.tup [.sl ((entL x k).map entV),.int .i64 0]),st):=by
 obtain⟨p1,p2⟩:=plc_own h hk
 have:=upU (f10 hx h (s:=(x.cues.getD k default).num) (st:=st) (hx.b _ (cue_mem hk)).a)
 rw[p1,p2,if_pos rfl,Int.toNat_natCast]at this
 exact this
def st5 (g:List (Nat×Obj))(w:V):St:=⟨5,[],[(3,⟨42,4,[w],false,false⟩),(2,⟨42,4,[w],false,false⟩)],⟨[],g,[]⟩⟩
@[push_cast]theorem st5_eq {w:V}:st5 g w=⟨5,[],[(3,⟨42,4,[w],false,false⟩),(2,⟨42,4,[w],false,false⟩)],⟨[],g,[]⟩⟩:=idq rfl
theorem L5_0 (h:lstP x=0)(hx:x.ok){k:Nat}(hk:k<x.cues.length){p:Prm}{i:Nat}{m:Mov}(hi:InsOk x i m)(hp:m.prm=p)(ho:∀i',oriI x.cues p k=some i'→i'=i){s fr:List UInt8}{sm:Bool}{w:V}(hwb:V.bd 5 w=true)(hf:oriV (oriF x.cues p k)=.tup [.str fr,.bool sm,.int .i64 0]):∀r j,x.cues.drop j=r →
  runL Tryz.prog HU [1,3,5,7,8,10,79,80,81] 5 B5_0 [(1,.str s),(3,.ep x.v 0),(5,.ep (entV (p,m.val)) 0),(7,.str fr),(8,.bool sm),(10,.ep (insS x i m).v 0),(79,.sl (x.cues.map Cu.v)),(80,.int .i64 x.cues.length),(81,.int .i64 j)] (st5 g w)
   = some (.exit 0,[(1,.str s),(3,.ep x.v 0),(5,.ep (entV (p,m.val)) 0)],st5 g w):=by
 have h64:=(lst_parts h).2.2.1
 have hy:=ins_ok h hx hi
 have hyl:(insS x i m).cues.length=x.cues.length:=List.length_set ..
 have hpr:prmC 1 p=0:=hp▸hi.rng
 refine drop_ind (fun j hj=>?_) (fun c r j hj hxc hd ih=>?_)
 all_goals rw[runL_of B5_0.eq_1]
 ·have h1:¬(j:Int)<x.cues.length:=by omega
  push_cast[h1,Lst.v,Prm.v,Val.v,entV]
 ·have h1:(j:Int)<x.cues.length:=by omega
  have hw:=iw1 (j:=j) (by omega)
  have hcj:x.cues.getD j default=c:=hxc default
  have h20:=fun(st:St)=>f20 h hx hj hpr (st:=st)
  have h10:=fun(st:St)=>f10k h hx hj (st:=st)
  have h10y:=fun(st:St)=>f10k hy.1 hy.2 (k:=j) (by rw[hyl];exact hj) (st:=st)
  rw[ins_num hi]at h10y
  have h22:=fun(st:St)=>upU (f22 (l:=entL x j) (p:=p) (st:=st) (by have:=ent_len h (k:=j);omega))
  have h22y:=fun(st:St)=>upU (f22 (l:=entL (insS x i m) j) (p:=p) (st:=st) (by have:=ent_len hy.1 (k:=j);omega))
  rw[rv_ent hj]at h22
  rw[rv_ent (by rw[hyl];exact hj)]at h22y
  rw[oriF_I]at h20
  rw[hcj]at h20 h10 h10y
  have hold:=fun(hs:(movF (x.cues.getD i default).moves p).isSome=true) (hn:¬oriI x.cues p j=some i)=>by
   have:=valF_old h hi (by rw[hp];exact hs) (j:=j) (by rw[hp];exact hn)
   rw[hp]at this;exact this
  have hnew:=fun(hn:oriI x.cues p j=some i)=>by
   have:=valF_new h hi (j:=j) (by rw[hp];exact hn)
   rw[hp]at this;exact this
  rw[oriF_I]at hf
  generalize insS x i m=Y at *
  generalize entL x j=Lx at *
  generalize entL Y j=Ly at *
  generalize hu:valF x.cues p j=u at *
  generalize hv:valF Y.cues p j=v at *
  obtain⟨ua,ub⟩:=u
  obtain⟨va,vb⟩:=v
  cases hk':oriI x.cues p k with
  |none =>
   rw[hk']at hf
   cases hf
   cases hq:oriI x.cues p j with
   |none =>
    rw[hq]at h20
    simp only[Option.map_none,oriV]at h20
    push_cast[Lst.v,Prm.v,Val.v,entV]at h20 h10 h10y h22 h22y
    push_cast[h1,hw,hwb,hxc,h20,h10,h10y,h22,h22y,Lst.v,Cu.v,Prm.v,Val.v,entV]at ih ⊢
    exact ih
   |some o =>
    rw[hq]at h20
    simp only[Option.map_some,oriV]at h20
    push_cast[Lst.v,Prm.v,Val.v,entV]at h20 h10 h10y h22 h22y
    push_cast[h1,hw,hwb,hxc,h20,h10,h10y,h22,h22y,Lst.v,Cu.v,Prm.v,Val.v,entV]at ih ⊢
    exact ih
  |some i' =>
   obtain rfl:=ho i' hk'
   rw[hk']at hf
   cases hf
   have hs:=(oriI_some hk').2
   cases hq:oriI x.cues p j with
   |none =>
    have huv:=hold hs (by rw[hq];simp)
    cases huv
    rw[hq]at h20
    simp only[Option.map_none,oriV]at h20
    push_cast[Lst.v,Prm.v,Val.v,entV]at h20 h10 h10y h22 h22y
    push_cast[h1,hw,hwb,hxc,h20,h10,h10y,h22,h22y,beq_self_eq_true,Lst.v,Cu.v,Prm.v,Val.v,entV]at ih ⊢
    exact ih
   |some o =>
    rw[hq]at h20
    simp only[Option.map_some,oriV]at h20
    by_cases hoi:o=i'
    ·subst hoi
     have hm:=hnew hq
     have e1:m.val.pal=va:=by rw[←hm]
     have e2:m.val.lev=vb:=by rw[←hm]
     push_cast[Lst.v,Prm.v,Val.v,entV]at h20 h10 h10y h22 h22y
     push_cast[h1,hw,hwb,hxc,h20,h10,h10y,h22,h22y,e1,e2,beq_self_eq_true,Lst.v,Cu.v,Prm.v,Val.v,entV]at ih ⊢
     exact ih
    ·have huv:=hold hs (by rw[hq];intro e;cases e;exact hoi rfl)
     cases huv
     have hol:o<x.cues.length:=by have:=(oriI_some hq).1;omega
     have hne:¬(x.cues.getD o default).num=(x.cues.getD i' default).num:=fun e=>hoi (num_inj h hol hi.lt e)
     have hnb:((x.cues.getD o default).num == (x.cues.getD i' default).num)=false:=by simpa using hne
     push_cast[Lst.v,Prm.v,Val.v,entV]at h20 h10 h10y h22 h22y
     push_cast[h1,hw,hwb,hxc,h20,h10,h10y,h22,h22y,hne,hnb,beq_self_eq_true,Lst.v,Cu.v,Prm.v,Val.v,entV]at ih ⊢
     exact ih
def st6 (g:List (Nat×Obj))(w:V):St:=⟨8,[],[(6,⟨42,4,[w],false,false⟩),(3,⟨42,4,[w],false,false⟩),(2,⟨42,4,[w],false,false⟩)],⟨[],g,[]⟩⟩
@[push_cast]theorem st6_eq {w:V}:st6 g w=⟨8,[],[(6,⟨42,4,[w],false,false⟩),(3,⟨42,4,[w],false,false⟩),(2,⟨42,4,[w],false,false⟩)],⟨[],g,[]⟩⟩:=idq rfl
theorem L5_1 (h:lstP x=0)(hx:x.ok){k:Nat}(hk:k<x.cues.length){d:Lst}(hd0:lstP d=0)(hdx:d.ok)(hdl:d.cues.length=x.cues.length)(hdn:∀j,(d.cues.getD j default).num=(x.cues.getD j default).num)(hv:∀j,j<k→∀q,valF d.cues q j=valF x.cues q j){w:V}(hwb:V.bd 8 w=true){T:List Cu}(hT:T=x.cues.take k):∀r j,T.drop j=r →
  runL Tryz.prog HU [3,23,186,187,188] 8 B5_1 [(3,.ep x.v 0),(23,.ep d.v 0),(186,.sl (T.map Cu.v)),(187,.int .i64 T.length),(188,.int .i64 j)] (st6 g w)=some (.exit 2,[],st6 g w):=by
 have h64:=(lst_parts h).2.2.1
 have hTl:T.length=k:=by rw[hT,List.length_take];omega
 refine drop_ind (fun j hj=>?_) (fun c r j hj hxc hd ih=>?_)
 all_goals rw[runL_of B5_1.eq_1]
 ·have h1:¬(j:Int)<T.length:=by omega
  push_cast[h1,hwb,Lst.v]
 ·have h1:(j:Int)<T.length:=by omega
  have hw:=iw1 (j:=j) (by omega)
  have hjx:j<x.cues.length:=by omega
  have hcj:x.cues.getD j default=c:=by
   have:=hxc default
   rw[hT,List.getD_eq_getElem?_getD,List.getElem?_take,if_pos (by omega)]at this
   rw[List.getD_eq_getElem?_getD];exact this
  have h10:=fun(st:St)=>f10k h hx hjx (st:=st)
  have h10y:=fun(st:St)=>f10k hd0 hdx (k:=j) (by omega) (st:=st)
  rw[hdn]at h10y
  rw[hcj]at h10 h10y
  have h24:=fun(st:St)=>upU (f24 (A:=entL x j) (B:=entL d j) (by have:=ent_len h (k:=j);omega) (by have:=ent_len hd0 (k:=j);omega) (fun e _=>by rw[rv_ent hjx,rv_ent (by omega),hv j (by omega)]) (st:=st))
  generalize entL x j=Lx at *
  generalize entL d j=Ly at *
  push_cast[Lst.v]at h10 h10y
  push_cast[h1,hw,hwb,hxc,h10,h10y,h24,Lst.v,Cu.v]at ih ⊢
  exact ih
theorem blk_ori {k:Nat}(hk:k<x.cues.length){p:Prm}{i:Nat}(ho:oriI (blkL x k).cues p k=some i):i=k:=by
 have hb:((blkL x k).cues.getD k default).block=true:=by rw[blk_cue hk,if_pos rfl]
 cases k with
 |zero=>exact Nat.le_zero.1 (oriI_some ho).1
 |succ k =>
  rw[oriI]at ho
  split at ho
  ·cases ho;rfl
  ·first|(cases ho;done)|(rw[if_pos hb]at ho;cases ho)
theorem ori_parts {l:List Cu}{p:Prm}{k:Nat}:∃fr sm,oriV (oriF l p k)=.tup [.str fr,.bool sm,.int .i64 0]:=by
 cases oriF l p k with
 |none=>exact⟨_,_,rfl⟩
 |some s=>exact⟨_,_,rfl⟩
theorem l5 {x:Lst}(hx:x.ok){s:List UInt8}{e:Prm×Val}{st:St}:run Tryz.prog HU 5 [x.v,.str s,entV e] st=some (.ret (.bool true),st):=by
 obtain⟨b,h15⟩:=f15 hx
 have h15:=fun st:St=>upU (h15 st)
 have h14:=fun(st:St)=>f14u (st:=st)
 have h18:=fun(st:St)=>upU (f18 (x:=x) (s:=s) hx.a (st:=st))
 have h19:=fun(st:St)=>upU (f19 (e:=e) (st:=st))
 rw[run_shut F5 rfl rfl (by simp)]
 by_cases h:b=true∧lstP x=0∧x.cues.length≤8
 ·obtain⟨rfl,hP,h8⟩:=h
  have e1:(true&&lstP x == 0&&decide (x.cues.length≤8))=true:=by simp[hP,h8]
  rw[e1]at h15
  rcases ix_rng (p:=fun c:Cu=>c.num == s) (l:=x.cues) (j:=0) with hi|hi
  ·rw[hi]at h18
   push_cast[Lst.v,entV]at h15 h18 h19
   push_cast[Lst.v,entV,h14,h15,h18]
  ·obtain⟨k,hk0⟩:∃k:Nat,ix (fun c:Cu=>c.num == s) x.cues 0=((0+k:Nat):Int):=⟨(ix (fun c:Cu=>c.num == s) x.cues 0).toNat,by omega⟩
   obtain⟨c,hc1,hc2⟩:=ix_holds hk0
   have hk:=(List.getElem?_eq_some_iff.1 hc1).1
   have hs:(x.cues.getD k default).num=s:=by rw[List.getD_eq_getElem?_getD,hc1];simpa using hc2
   rw[Nat.zero_add]at hk0
   rw[hk0]at h18
   have hk1:¬(k:Int)<0:=by omega
   by_cases hE:entC e=0
   ·rw[hE]at h19
    by_cases hpal:e.2.pal<0
    ·push_cast[Lst.v,entV]at h15 h18 h19
     push_cast[Lst.v,entV,h14,h15,h18,h19,hk1,hpal]
    have h1:prmC 1 e.1=0:=by
     unfold entC at hE;split at hE
     ·rename_i a;exact absurd hE a
     ·rename_i a;exact Classical.not_not.1 a
    have h2:valC e.2=0:=by
     unfold entC at hE;rw[if_neg (by simp[h1])]at hE;exact hE
    have h20:=fun(st:St)=>f20 hP hx hk h1 (st:=st)
    obtain⟨fr,sm,hfr⟩:=ori_parts (l:=x.cues) (p:=e.1) (k:=k)
    have h23:=fun(st:St)=>upU (f23 hP hx h8 hk (st:=st))
    have hU:=upd_ex hP hx hk h1 h2
    have h64:=(lst_parts hP).2.2.1
    rw[hfr]at h20
    rcases hU with h21|⟨i,m,m1,m2,m3,m4,m5,h21⟩
    ·rw[hs]at h20 h21
     push_cast[Lst.v,entV,Prm.v]at h15 h18 h19 h20 h21
     push_cast[Lst.v,entV,Prm.v,h14,h15,h18,h19,hk1,hpal,h20,h21]
    have hL0:=L5_0 (g:=st.x.gl) (w:=entV e) (s:=s) hP hx hk m3 m1 m4 rfl hfr _ 0 rfl
    rw[m2]at hL0
    by_cases hm:128<(blkM x k).length
    ·rw[hs]at h20 h21 h23
     generalize insS x i m=Y at *
     push_cast[Lst.v,entV,Prm.v,hm]at h15 h18 h19 h20 h21 h23 hL0
     push_cast[Lst.v,entV,Prm.v,h14,h15,h18,h19,hk1,hpal,h20,h21,h23,hL0]
    ·rw[if_neg hm]at h23
     obtain⟨y1,y2⟩:=blk_ok hP hx hk (Nat.le_of_not_lt hm)
     have hbk:k<(blkL x k).cues.length:=by rw[blk_len];exact hk
     have hbn:((blkL x k).cues.getD k default).num=(x.cues.getD k default).num:=by rw[blk_cue hk,if_pos rfl]
     have hU2:=upd_ex y1 y2 hbk h1 h2
     rw[hbn]at hU2
     rcases hU2 with h21b|⟨i',m',n1,n2,n3,n4,n5,h21b⟩
     ·rw[hs]at h20 h21 h23 h21b
      generalize insS x i m=Y at *
      generalize blkL x k=B at *
      push_cast[Lst.v,entV,Prm.v]at h15 h18 h19 h20 h21 h23 hL0 h21b
      push_cast[Lst.v,entV,Prm.v,h14,h15,h18,h19,hk1,hpal,h20,h21,h23,hL0,h21b]
     ·have hik:i'=k:=by
       cases ho:oriI (blkL x k).cues e.1 k with
       |none=>exact n5 ho
       |some i''=>rw[←n4 _ ho];exact blk_ori hk ho
      subst hik
      obtain⟨d1,d2⟩:=ins_ok y1 y2 n3
      have hL1:=L5_1 (g:=st.x.gl) (w:=entV e) hP hx hk d1 d2 ((List.length_set ..).trans blk_len) (fun j=>by
       rw[ins_num n3,blk_cue hk];split
       ·rename_i e;rw[e]
       ·rfl) (fun j hj q=>valF_upto fun i hi=>by rw[ins_cue n3,if_neg (by omega),blk_cue hk,if_neg (by omega)]) rfl rfl _ 0 rfl
      rw[hs]at h20 h21 h23 h21b
      generalize insS x i m=Y at *
      generalize insS (blkL x i') i' m'=Z at *
      generalize blkL x i'=B at *
      have hki:(i':Int)≤x.cues.length:=by omega
      have hkn:i'≤x.cues.length:=by omega
      push_cast[Lst.v,entV,Prm.v]at h15 h18 h19 h20 h21 h23 hL0 h21b hL1
      push_cast[Lst.v,entV,Prm.v,h14,h15,h18,h19,hk1,hpal,h20,h21,h23,hL0,h21b,hL1,hki,hkn]
   ·push_cast[Lst.v,entV]at h15 h18 h19
    push_cast[Lst.v,entV,h14,h15,h18,h19,hk1,hE]
 ·have e1:(b&&lstP x == 0&&decide (x.cues.length≤8))=false:=by rw[Bool.eq_false_iff];intro e;simp at e;exact h ⟨e.1.1,e.1.2,e.2⟩
  rw[e1]at h15
  push_cast[Lst.v]at h15
  push_cast[Lst.v,entV,h14,h15]
end Go.Proofs.YtdnpaifeoinjoaaGreatDoor

namespace Go.Proofs.YtdnpaifeoinjoaaGreatDoor
open Go.ChangeShapes Go.WideShapes Go.ChangeAt Go.RowKit Go.Sha
theorem sound:ESound Tryz.prog HU:=HU_ok
theorem law5 {x:Lst}(h:x.Dk){s:List UInt8}{e:Ent}{st:St}:run Tryz.prog HU 5 [x.v,.str s,e.v] st=some (.ret (.bool true),st):=l5 h.ok (e:=(e.prm,e.val))
theorem sk1:(laidOutB Tryz.prog)=true:=by kernel_rfl
theorem sk2:(mapsRowed Tryz.prog)=true:=by kernel_rfl
theorem sk6:(Tryz.prog.stops == [])=true:=by kernel_rfl
theorem sk8:(Tryz.prog.stopKnobs == [])=true:=by kernel_rfl
theorem sk22:(Rows.topUpdatesReachRow.plainKeys == Tryz.prog.plainKeys)=true:=by kernel_rfl
theorem sk24:(Tryz.prog.stopsHeard)=true:=by kernel_rfl
theorem sk25:(Tryz.prog.mayEnter)=true:=by kernel_rfl
theorem sk26:(Rows.topUpdatesReachRow.lifted == Tryz.prog.liftsFinal)=true:=by kernel_rfl
theorem sk27:(Tryz.prog.make == some Rows.topUpdatesReachRow.make)=true:=by kernel_rfl
theorem sk15:(Rows.topUpdatesReachRow.mapsOut == Tryz.prog.mapsAmong Tryz.f5.resultTypes.toList)=true:=by kernel_rfl
theorem sown:ownKnob Tryz.prog.godebug=none:=by kernel_rfl
theorem smain:Tryz.prog.mainIs=some (Rows.topUpdatesReachCard.stood.harness.1,Rows.topUpdatesReachCard.stood.harness.2.toList):=by kernel_rfl
theorem slooks:Rows.topUpdatesReachCard.stood.looks=Tryz.prog.looks []:=by kernel_rfl
end Go.Proofs.YtdnpaifeoinjoaaGreatDoor

