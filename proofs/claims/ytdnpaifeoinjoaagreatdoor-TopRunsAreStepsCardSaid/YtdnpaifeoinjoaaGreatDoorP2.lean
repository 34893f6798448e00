/- Marked looks and steps, by the program. The contracts of this seat's table hold: slices. The compiled code of functions of this seat, printed by a program, and that it is the translation's: checked by .. -/
import Derived.Test.YtdnpaifeoinjoaaGreatDoorP1
import Derived.Test.YtdnpaifeoinjoaaGreatDoorPShbYB
import Derived.Test.YtdnpaifeoinjoaaGreatDoorProg
import Derived.KernelRfl
import Derived.Shelf.Small.Bits
import Derived.Shelf.Strconv.Atoi
import Derived.Shelf.Strconv.Itoa0
import Derived.Shelf.Strconv.Itoa1
import Derived.Shelf.LaysM
import Derived.Shelf.Strconv.Itoa2
import Derived.Shelf.Strconv.Itoa3
import Derived.Shelf.Strconv.AtoiErrFast
import Derived.Shelf.Strconv.ParseIntEmpty
import Derived.Shelf.Strconv.AtoiFail
import Derived.Shelf.Strconv.Clone
import Derived.Shelf.Strconv.SyntaxError
import Derived.Shelf.LaysC
import Derived.Shelf.Strconv.ToError
import Derived.Shelf.Strconv.Lower
import Derived.Shelf.Strconv.ParseUint10
import Derived.Shelf.Strconv.ParseUint10Empty
import Derived.Shelf.Strconv.ParseUint10Any
import Derived.Shelf.Strconv.ParseInt10
import Derived.Shelf.Strconv.AtoiLong
import Derived.Shelf.Strconv.AtoiInnerAll
import Derived.Shelf.Strconv.RangeError
import Derived.Shelf.Strconv.ToErrorRange
import Derived.Shelf.Strconv.AtoiAll
import Derived.Shelf.Strings.Search1
import Derived.Shelf.Strings.Search2
import Derived.Shelf.Strings.Cut
import Derived.Shelf.Strings.Shaped
import Derived.Shelf.GgClosure.StringsIndexFunc
import Derived.Ground.GgwProg
import Derived.Shelf.GgClosure.StringsIndexFuncTop
import Derived.Shelf.Strings.Prefix
import Derived.Shelf.SlGeneric
import Derived.Ground.SlsfProg
import Derived.Shelf.SlSortCmp.NoneTotal
import Derived.Test.YtdnpaifeoinjoaaGreatDoorPShbXE
import Derived.Lib.AtoiAllCases
import Derived.Laws.RangeAny
import Derived.Test.YtdnpaifeoinjoaaGreatDoorPShbEK
import Derived.Test.YtdnpaifeoinjoaaGreatDoorPShbXP
import Derived.Test.YtdnpaifeoinjoaaGreatDoorCards
import Derived.Test.YtdnpaifeoinjoaaGreatDoorPShbAC
import Derived.SizedLaws
import Derived.WalkKit
import Derived.ProofKit
import Derived.OpenShut
import Derived.ChangeMaps5
import Derived.LaidLaws
import Derived.LaidHandle
import Derived.Lay
import Derived.SevenTiedAt
set_option linter.unusedSimpArgs false
set_option linter.unusedVariables false
namespace Go.Proofs.YtdnpaifeoinjoaaGreatDoor
open Go.Sha
set_option maxRecDepth 100000
variable {g:List (Nat×Obj)}{n:Nat}{x:Lst}
def stL (g:List (Nat×Obj))(n:Nat)(a:List (List (Prm×Val))):St:=⟨n+1,[],[(n,⟨34,1,a.map entS,false,false⟩)],⟨[],g,[]⟩⟩
@[push_cast]theorem stL_eq {a:List (List (Prm×Val))}:stL g n a=⟨n+1,[],[(n,⟨34,1,a.map entS,false,false⟩)],⟨[],g,[]⟩⟩:=idq rfl
theorem L72 (h:lstP x=0):∀r j,x.cues.drop j=r→j≤x.cues.length→∀a:List (List (Prm×Val)),a=(List.range j).map (entL x) →
  runL Tryz.prog HH [1,5,14,15] (n+1) B72_0 [(1,.ep x.v 0),(5,.osl n a.length),(14,.int .i64 x.cues.length),(15,.int .i64 j)] (stL g n a)
   = some (.exit 0,[(5,.osl n (lkL x).length)],stL g n (lkL x)):=by
 have h64:=(lst_parts h).2.2.1
 refine drop_ind (fun j hj hjl a ha=>?_) (fun q r j hj hx hd ih hjl a ha=>?_)
 all_goals rw[runL_of B72_0.eq_1]
 ·have h1:¬(j:Int)<x.cues.length:=by omega
  have e:a=lkL x:=by rw[ha,lkL,show j=x.cues.length by omega]
  rw[e]
  push_cast[h1]
 ·have h1:(j:Int)<x.cues.length:=by omega
  have hw:=iw1 (j:=j) (by omega)
  have hal:a.length=j:=by rw[ha];simp
  have e1:=fun(st:St)=>f33 (x:=x) (k:=j) (st:=st) h hj
  have hro:roomV (a.length+1) 24=true:=roomV_lit (by omega) (by omega)
  have ih:=ih (by omega) (a++[entL x j]) (by rw[ha,List.range_succ,List.map_append];rfl)
  generalize lkL x=Z at *
  generalize entL x=F at *
  push_cast[Lst.v]at ih e1
  push_cast[h1,hw,e1,hro,Lst.v,List.map_append,List.map_cons,List.map_nil,List.append_assoc,List.singleton_append,List.length_append,List.length_cons,List.length_nil]at ih ⊢
  exact ih
theorem f72 (h:lstP x=0)(hx:x.ok){st:St}:run Tryz.prog HH 72 [x.v] st=some (.ret (.tup [.sl ((lkL x).map entS),.int .i64 0]),st):=by
 have e1:=fun(st:St)=>f113 (x:=x) hx (st:=st)
 rw[h]at e1
 have hL:=L72 (g:=st.x.gl) (n:=1) h _ 0 rfl (Nat.zero_le _) [] rfl
 generalize lkL x=Z at *
 rw[run_shut F72 rfl rfl (by simp)]
 push_cast[Lst.v,List.map_nil,List.length_nil]at hL e1
 push_cast[Lst.v,e1,hL]
theorem f74 {c:Cu}{s:List UInt8}{st:St}:run Tryz.prog HH 74 [c.v,.ep (.agg [.str s]) 0] st=some (.ret (.bool (c.num == s)),st):=by
 rw[run_shut F74 rfl rfl (by simp)]
 push_cast[Cu.v]
 all_goals first|with_reducible rfl|exact dn_eq (by omega) (by with_reducible rfl)|((repeat' split)<;>(try simp_all)<;>(try (with_reducible refine dn_eq ?_ ?_<;>first|trivial|omega|rfl))<;>(try omega))
theorem f73m {l:List Cu}{s:List UInt8}(hl:l.length<140737488355328){st:St}:run Tryz.prog HH 73 [.sl (l.map Cu.v),.fn (.func 74) [] [.ep (.agg [.str s]) 0]] st=some (.ret (.int .i64 (ix (fun x=>x.num == s) l 0)),st) :=
 IxF (f:=Cu.v) (n:=some 9) (fun _=>rfl) (fun _=>rfl) F73 rfl (by simp) hl (fun q _ _=>f74) (fun _ _=>rfl) (fun _=>rfl)
theorem f35 (h:lstP x=0)(hx:x.ok){k:Nat}(hk:k<x.cues.length){st:St}:run Tryz.prog HH 35 [x.v,.str (x.cues.getD k default).num] st=some (.ret (.tup [.agg [.sl (x.cues.map Cu.v),.sl ((lkL x).map entS)],.int .i64 k,.int .i64 0]),st):=by
 have h64:=(lst_parts h).2.2.1
 obtain⟨p1,p2⟩:=plc_own h hk
 have hc:x.cues.getD k default∈x.cues:=by rw[List.getD_eq_getElem?_getD,List.getElem?_eq_getElem hk];exact List.getElem_mem hk
 have h10:=fun(st:St)=>f10 hx h (s:=(x.cues.getD k default).num) (st:=st) (hx.b _ hc).a
 rw[p1,p2,if_pos rfl,Int.toNat_natCast]at h10
 have h72:=fun(st:St)=>f72 (x:=x) h hx (st:=st)
 have h73:=fun(st:St)=>f73m (l:=x.cues) (s:=(x.cues.getD k default).num) (st:=st) (by omega)
 have e:ix (fun c:Cu=>c.num == (x.cues.getD k default).num) x.cues 0=k:=by rw[plcV,if_pos p1]at p2;exact p2
 rw[e]at h73
 generalize (x.cues.getD k default).num=s at *
 generalize entL x k=M at *
 generalize lkL x=Z at *
 rw[run_shut F35 rfl rfl (by simp)]
 push_cast[Lst.v,entV]at h10 h72 h73
 push_cast[Lst.v,h10,h72,h73]
def MkOk (x:Lst)(Mk:Nat→List (Prm×Val)):Prop:=∀k,k<x.cues.length→(Mk k).map Prod.fst=ftpL x∧∀st,run Tryz.prog HH 36 [.agg [.sl (x.cues.map Cu.v),.sl ((lkL x).map entS)],.int .i64 k] st=some (.ret (.sl ((Mk k).map entV)),st)
theorem mk_ex (h:lstP x=0)(hx:x.ok):∃Mk,MkOk x Mk:=by
 have h1:∀k,∃M:List (Prm×Val),k<x.cues.length→M.map Prod.fst=ftpL x∧∀st,run Tryz.prog HH 36 [.agg [.sl (x.cues.map Cu.v),.sl ((lkL x).map entS)],.int .i64 k] st=some (.ret (.sl (M.map entV)),st):=fun k=>by
  by_cases hk:k<x.cues.length
  ·obtain⟨M,hM⟩:=f36 h hx hk
   exact⟨M,fun _=>hM⟩
  ·exact⟨[],fun h=>absurd h hk⟩
 obtain⟨Mk,hMk⟩:=Classical.axiomOfChoice h1
 exact⟨Mk,fun k hk=>hMk k hk⟩
theorem f17 (h:lstP x=0)(hx:x.ok){Mk:Nat→List (Prm×Val)}(hM:MkOk x Mk){k:Nat}(hk:k<x.cues.length){st:St}:run Tryz.prog HH 17 [x.v,.str (x.cues.getD k default).num] st=some (.ret (.tup [.sl ((Mk k).map entV),.int .i64 0]),st):=by
 have h35:=fun(st:St)=>f35 (st:=st) h hx hk
 have h36:=(hM k hk).2
 generalize (x.cues.getD k default).num=s at *
 generalize Mk k=M at *
 generalize lkL x=Z at *
 rw[run_shut F17 rfl rfl (by simp)]
 push_cast[Lst.v]at h35
 push_cast[Lst.v,h35,h36]
def stpR (z:Bool)(B:List (Prm×Val)):List (Prm×Val)→Nat→List (Prm×Val)
 |[],_=>[]
 |e::r,i=>if e.2=(if z then(B.getD i default).2 else⟨-1,0⟩) then stpR z B r (i+1) else e::stpR z B r (i+1)
theorem L16 {k:Nat}{N B:List (Prm×Val)}(hN:N.length≤8192)(hB:0<k→N.length=B.length){vB:V}(hv:0<k→vB=.sl (B.map entV))(hvb:∀m,V.bd m vB=true):∀r j,N.drop j=r→∀a:List (Prm×Val),a.length≤j →
  runL Tryz.prog HH [7,9,10,32,33,34] (n+1) B16_0 [(7,.int .i64 k),(9,.osl n a.length),(10,vB),(32,.sl (N.map entV)),(33,.int .i64 N.length),(34,.int .i64 j)] (stLk g n a)
   = some (.exit 0,[(9,.osl n (a++stpR (decide (0<k)) B r j).length)],stLk g n (a++stpR (decide (0<k)) B r j)):=by
 refine drop_ind (fun j hj a ha=>?_) (fun e r j hj hx hd ih a ha=>?_)
 all_goals rw[runL_of B16_0.eq_1]
 ·have h1:¬(j:Int)<N.length:=by omega
  push_cast[h1,stpR,List.append_nil]
 ·have h1:(j:Int)<N.length:=by omega
  have hw:=iw1 (j:=j) (by omega)
  have hro:roomV (a.length+1) 32=true:=roomV_lit (by omega) (by omega)
  rw[stpR]
  by_cases hk:0<k
  ·have hb:=hB hk
   obtain rfl:=hv hk
   have hk1:(0:Int)<(k:Int):=by omega
   have hjb:j<B.length:=by omega
   have hg:∀d,B.getD j d=B.getD j default:=fun d=>by rw[List.getD_eq_getElem?_getD,List.getD_eq_getElem?_getD,List.getElem?_eq_getElem hjb];rfl
   rw[decide_eq_true hk]at ih ⊢
   simp only[if_true]
   generalize B.getD j default=y at *
   obtain⟨yp,ya,yb⟩:=y
   obtain⟨ep,ea,eb⟩:=e
   by_cases hq:(⟨ea,eb⟩:Val)=⟨ya,yb⟩
   ·have ih:=ih a (by omega)
    cases hq
    rw[if_pos rfl]
    generalize stpR true B r (j+1)=Q at *
    push_cast[h1,hw,hx,hg,hjb,hk1,beq_self_eq_true]at ih ⊢
    exact dn_eq (by omega) ih
   ·have ih:=ih (a++[(ep,⟨ea,eb⟩)]) (by simp;omega)
    rw[if_neg hq]
    have hqb:(ea == ya&&eb == yb)=false:=by rw[Bool.eq_false_iff];intro e;simp at e;exact hq (by rw[e.1,e.2])
    generalize stpR true B r (j+1)=Q at *
    push_cast[h1,hw,hx,hg,hjb,hk1,hro,hqb,List.map_append,List.map_cons,List.map_nil,List.append_assoc,List.singleton_append]at ih ⊢
    exact dn_eq (by omega) ih
  ·have hk1:¬(0:Int)<(k:Int):=by omega
   rw[decide_eq_false hk]at ih ⊢
   simp only[Bool.false_eq_true,if_false]
   obtain⟨ep,ea,eb⟩:=e
   by_cases hq:(⟨ea,eb⟩:Val)=⟨-1,0⟩
   ·have ih:=ih a (by omega)
    cases hq
    rw[if_pos rfl]
    generalize stpR false B r (j+1)=Q at *
    push_cast[h1,hw,hx,hk1,hvb,beq_self_eq_true]at ih ⊢
    exact ih
   ·have ih:=ih (a++[(ep,⟨ea,eb⟩)]) (by simp;omega)
    rw[if_neg hq]
    have hqb:(ea == -1&&eb == 0)=false:=by rw[Bool.eq_false_iff];intro e;simp at e;exact hq (by rw[e.1,e.2])
    generalize stpR false B r (j+1)=Q at *
    push_cast[h1,hw,hx,hk1,hvb,hro,hqb,List.map_append,List.map_cons,List.map_nil,List.append_assoc,List.singleton_append]at ih ⊢
    exact ih
def stpK (Mk:Nat→List (Prm×Val))(k:Nat):List (Prm×Val):=stpR (decide (0<k)) (Mk (k-1)) (Mk k) 0
theorem f16 (h:lstP x=0)(hx:x.ok){Mk:Nat→List (Prm×Val)}(hM:MkOk x Mk){k:Nat}(hk:k<x.cues.length){st:St}:run Tryz.prog HH 16 [x.v,.str (x.cues.getD k default).num] st=some (.ret (.tup [.sl ((stpK Mk k).map entV),.int .i64 0]),st):=by
 have h64:=(lst_parts h).2.2.1
 have h35:=fun(st:St)=>f35 (st:=st) h hx hk
 obtain⟨hf,h36⟩:=hM k hk
 have hle:=ftpL_len h
 have hNl:(Mk k).length=(ftpL x).length:=by rw[←hf,List.length_map]
 rw[stpK]
 generalize (x.cues.getD k default).num=s at *
 by_cases hk0:0<k
 ·obtain⟨hf2,h36b⟩:=hM (k-1) (by omega)
  have hBl:(Mk (k-1)).length=(ftpL x).length:=by rw[←hf2,List.length_map]
  obtain⟨p,hp⟩:∃p,p=k-1:=⟨_,rfl⟩
  rw[←hp]at hBl h36b ⊢
  have hL:=L16 (g:=st.x.gl) (n:=2) (k:=k) (N:=Mk k) (B:=Mk p) (vB:=.sl ((Mk p).map entV)) (by omega) (fun _=>by omega) (fun _=>rfl) (fun m=>by simp[V.bd,bdL_map',V.bdL]) _ 0 rfl [] (Nat.le_refl _)
  rw[List.drop_zero,List.nil_append,decide_eq_true hk0]at hL
  rw[decide_eq_true hk0]
  generalize stpR true (Mk p) (Mk k) 0=Q at *
  generalize Mk k=N at *
  generalize Mk p=B at *
  generalize lkL x=Z at *
  have hp0:(0:Int)<(k:Int):=by omega
  have hp1:(k:Int)-1=(p:Int):=by omega
  have hwp:IntKind.i64.wrap (p:Int)=(p:Int):=iwrap (by omega) (by omega)
  rw[run_shut F16 rfl rfl (by simp)]
  push_cast[Lst.v,List.map_nil,List.length_nil]at h35 hL
  push_cast[Lst.v,h35,h36,h36b,hp0,hp1,hwp,hL]
 ·have hL:=L16 (g:=st.x.gl) (n:=2) (k:=k) (N:=Mk k) (B:=Mk (k-1)) (vB:=.nils) (by omega) (fun h=>absurd h hk0) (fun h=>absurd h hk0) (fun m=>rfl) _ 0 rfl [] (Nat.le_refl _)
  rw[List.drop_zero,List.nil_append,decide_eq_false hk0]at hL
  rw[decide_eq_false hk0]
  generalize stpR false (Mk (k-1)) (Mk k) 0=Q at *
  generalize Mk k=N at *
  generalize lkL x=Z at *
  have hp0:¬(0:Int)<(k:Int):=by omega
  rw[run_shut F16 rfl rfl (by simp)]
  push_cast[Lst.v,List.map_nil,List.length_nil]at h35 hL
  push_cast[Lst.v,h35,h36,hp0,hL]
end Go.Proofs.YtdnpaifeoinjoaaGreatDoor

namespace Go.Proofs.YtdnpaifeoinjoaaGreatDoor
open Go.Sha Go.Shelf Go.RowKit
set_option maxRecDepth 100000
theorem basT:BasT Tryz.prog:=⟨by kernel_rfl,Tryz.underlying0,Tryz.isAgg0,Tryz.sizeOf0,Tryz.zeroValue0,Tryz.underlying3,Tryz.isAgg3,Tryz.sizeOf3,Tryz.zeroValue3,Tryz.underlying4,Tryz.isAgg4,Tryz.sizeOf4,Tryz.zeroValue4,Tryz.underlying9,Tryz.isAgg9,Tryz.sizeOf9,Tryz.zeroValue9,Tryz.underlying20,Tryz.isAgg20,Tryz.sizeOf20,Tryz.zeroValue20⟩
def rnM:Ren:=⟨fun x=>if x=29 then 108 else 109,fun x=>if x=24 then 27 else if x=9 then 45 else x,fun x=>x⟩
theorem slM:SlB Tryz.prog 24 9 5 40 rnM:=slT basT rfl rfl rfl Tryz.underlying27 Tryz.isAgg27 Tryz.sizeOf27 Tryz.zeroValue27 Tryz.isAgg45 Tryz.sizeOf45 Tryz.zeroValue45 (by kernel_rfl) (by kernel_rfl) (by kernel_rfl)
theorem bearsI:Bears Tryz.prog 66 (Body2.n22 rnM):=⟨"slices.Insert[[]luminaire/api.Move,luminaire/api.Move]",by decide,by kernel_rfl⟩
theorem ovM:OvL Tryz.prog 108 27 4:=fun args w=>by
 rw[run_callFunc_extern Tryz.func108 (by kernel_rfl) (by kernel_rfl) (by kernel_rfl) (e:=Extern.SlicesOverlaps.overlaps #[27,27] #[4]) (by kernel_rfl)]
def rnG:Ren:=⟨fun x=>if x=4 then 97 else x,fun x=>if x=22 then 34 else if x=25 then 42 else x,fun x=>x⟩
theorem bearsG:Bears Tryz.prog 97 (Body8.n4 rnG):=⟨"slices.Grow[[]luminaire/api.Entry,luminaire/api.Entry]",by decide,by kernel_rfl⟩
theorem infoG:(Tryz.prog.info? 42).map (fun i=>(i.zero,i.size,i.bytes))=some (some (.agg #[.int .i64 0,.int .i64 0,.int .i64 0,.int .i64 0]),4,32):=by kernel_rfl
end Go.Proofs.YtdnpaifeoinjoaaGreatDoor

namespace Go.Proofs.YtdnpaifeoinjoaaGreatDoor
open Go.Sha
set_option maxRecDepth 10000
theorem F136:compF Tryz.prog 136=some ⟨13,[.tmp 4,.tmp 5,.tmp 6],(.g [.s 4 (.mv (.w [])),.s 5 (.mv (.w [])),.k 6 false] (.g [.m 7 0,.m 8 1,.g' 9 156 7 8,.j 10 0 9,.j 11 1 9,.j 12 2 9,.m 4 10,.m 5 11,.m 6 12] (.ret [4,5,6])))⟩:=by kernel_rfl
theorem F140:compF Tryz.prog 140=some ⟨8,[.tmp 4],(.g [.k 4 false] (.g [.m 5 0,.m 6 1,.g' 7 159 5 6,.m 4 7] (.ret [4])))⟩:=by kernel_rfl
theorem F157:compF Tryz.prog 157=some ⟨9,[.tmp 4],(.g [.k 4 false] (.g [.m 5 0,.m 6 1,.g' 7 167 5 6,.v 8 .geq 7 0,.m 4 8] (.ret [4])))⟩:=by kernel_rfl
theorem F156:compF Tryz.prog 156=some ⟨23,[.tmp 4,.tmp 5,.tmp 6],(.g [.s 4 (.mv (.w [])),.s 5 (.mv (.w [])),.k 6 false] (.join [0] (.g [.m 8 0,.m 9 1,.g' 10 166 8 9,.m 7 10] (.g [.m 11 7,.v 12 .geq 11 0] (.i 12 (.q (.dreg 12 [.m 13 0,.m 14 7,.s 15 (.slices (.t 13) none (some (.t 14))),.m 16 0,.m 17 7,.m 18 1,.s 19 (.lens (.t 18)),.b 20 .add 17 19,.s 21 (.slices (.t 16) (some (.t 20)) none),.m 4 15,.m 5 21,.k 6 true]) (.ret [4,5,6])) .skip))) (.g [.m 22 0,.m 4 22,.s 5 (.mv (.w [])),.k 6 false] (.ret [4,5,6]))))⟩:=by kernel_rfl
theorem F159:compF Tryz.prog 159=some ⟨21,[.tmp 4],(.g [.k 4 false] (.join [4] (.reg [.m 5 0,.s 6 (.lens (.t 5)),.m 7 1,.s 8 (.lens (.t 7)),.b 9 .geq 6 8,.m 10 9,.my 11 0 10,.my 12 0 10,.y 13 (.lens (.t 12)) 10,.my 14 1 10,.y 15 (.lens (.t 14)) 10,.by' 16 .sub 13 15 10,.y 17 (.slices (.t 11) (some (.t 16)) none) 10,.my 18 1 10,.by' 19 .eql 17 18 10,.e 20 10 19,.m 4 20]) (.ret [4])))⟩:=by kernel_rfl
theorem F167:compF Tryz.prog 167=some ⟨8,[.tmp 4],(.g [.c 4 0] (.g [.m 5 0,.m 6 1,.s 7 (.f 174 [.t 5,.t 6,(.c (.bool true))]),.m 4 7] (.ret [4])))⟩:=by kernel_rfl
end Go.Proofs.YtdnpaifeoinjoaaGreatDoor

namespace Go.Proofs
open Go.Shelf
def Tryz.laysC172_ren:Go.Shelf.Ren:=⟨fun|172=>178|244=>179|245=>180|247=>181|279=>182|280=>183|281=>184|282=>185|287=>186|316=>187|171=>189|205=>188|321=>190|322=>191|243=>192|246=>193|283=>194|284=>195|285=>196|286=>197|129=>154|317=>198|318=>199|319=>200|320=>201|337=>202|338=>203|n=>n,fun|9=>9|3=>3|75=>208|76=>209|4=>4|5=>5|167=>212|37=>171|0=>0|85=>213|2=>2|168=>215|53=>101|175=>218|46=>151|210=>222|127=>226|145=>229|143=>227|21=>21|171=>231|173=>233|212=>236|51=>184|20=>20|213=>237|232=>238|233=>239|80=>240|n=>n,fun|15=>1|16=>2|17=>3|18=>4|19=>5|n=>n⟩
theorem Tryz.laysC172:Go.Proofs.LaysC.n172 Tryz.prog Tryz.laysC172_ren:={
 mixed:=by kernel_rfl
 f129:=Tryz.func154.trans (congrArg some (by kernel_rfl))
 f171:=Tryz.func189.trans (congrArg some (by kernel_rfl))
 f172:=Tryz.func178.trans (congrArg some (by kernel_rfl))
 f205:=Tryz.func188.trans (congrArg some (by kernel_rfl))
 f243:=Tryz.func192.trans (congrArg some (by kernel_rfl))
 f244:=Tryz.func179.trans (congrArg some (by kernel_rfl))
 f245:=Tryz.func180.trans (congrArg some (by kernel_rfl))
 f246:=Tryz.func193.trans (congrArg some (by kernel_rfl))
 f247:=Tryz.func181.trans (congrArg some (by kernel_rfl))
 f279:=Tryz.func182.trans (congrArg some (by kernel_rfl))
 f280:=Tryz.func183.trans (congrArg some (by kernel_rfl))
 f281:=Tryz.func184.trans (congrArg some (by kernel_rfl))
 f282:=Tryz.func185.trans (congrArg some (by kernel_rfl))
 f283:=Tryz.func194.trans (congrArg some (by kernel_rfl))
 f284:=Tryz.func195.trans (congrArg some (by kernel_rfl))
 f285:=Tryz.func196.trans (congrArg some (by kernel_rfl))
 f286:=Tryz.func197.trans (congrArg some (by kernel_rfl))
 f287:=Tryz.func186.trans (congrArg some (by kernel_rfl))
 f316:=Tryz.func187.trans (congrArg some (by kernel_rfl))
 f317:=Tryz.func198.trans (congrArg some (by kernel_rfl))
 f318:=Tryz.func199.trans (congrArg some (by kernel_rfl))
 f319:=Tryz.func200.trans (congrArg some (by kernel_rfl))
 f320:=Tryz.func201.trans (congrArg some (by kernel_rfl))
 f321:=Tryz.func190.trans (congrArg some (by kernel_rfl))
 f322:=Tryz.func191.trans (congrArg some (by kernel_rfl))
 f337:=Tryz.func202.trans (congrArg some (by kernel_rfl))
 f338:=Tryz.func203.trans (congrArg some (by kernel_rfl))
 t0:=Tryz.underlying0
 a0:=Tryz.isAgg0
 z0:=Tryz.sizeOf0
 v0:=Tryz.zeroValue0
 t2:=Tryz.underlying2
 a2:=Tryz.isAgg2
 z2:=Tryz.sizeOf2
 v2:=Tryz.zeroValue2
 t3:=Tryz.underlying3
 a3:=Tryz.isAgg3
 z3:=Tryz.sizeOf3
 v3:=Tryz.zeroValue3
 t4:=Tryz.underlying4
 a4:=Tryz.isAgg4
 z4:=Tryz.sizeOf4
 v4:=Tryz.zeroValue4
 t5:=Tryz.underlying5
 a5:=Tryz.isAgg5
 z5:=Tryz.sizeOf5
 v5:=Tryz.zeroValue5
 t9:=Tryz.underlying9
 a9:=Tryz.isAgg9
 z9:=Tryz.sizeOf9
 v9:=Tryz.zeroValue9
 t20:=Tryz.underlying20
 a20:=Tryz.isAgg20
 z20:=Tryz.sizeOf20
 v20:=Tryz.zeroValue20
 t21:=Tryz.underlying21
 a21:=Tryz.isAgg21
 z21:=Tryz.sizeOf21
 v21:=Tryz.zeroValue21
 t37:=Tryz.underlying171
 a37:=Tryz.isAgg171
 z37:=Tryz.sizeOf171
 v37:=Tryz.zeroValue171
 t46:=Tryz.underlying151
 a46:=Tryz.isAgg151
 z46:=Tryz.sizeOf151
 v46:=Tryz.zeroValue151
 t51:=Tryz.underlying184
 a51:=Tryz.isAgg184
 z51:=Tryz.sizeOf184
 v51:=Tryz.zeroValue184
 t53:=Tryz.underlying101
 a53:=Tryz.isAgg101
 z53:=Tryz.sizeOf101
 v53:=Tryz.zeroValue101
 t75:=Tryz.underlying208
 a75:=Tryz.isAgg208
 z75:=Tryz.sizeOf208
 v75:=Tryz.zeroValue208
 t76:=Tryz.underlying209
 a76:=Tryz.isAgg209
 z76:=Tryz.sizeOf209
 v76:=Tryz.zeroValue209
 t85:=Tryz.underlying213
 a85:=Tryz.isAgg213
 z85:=Tryz.sizeOf213
 v85:=Tryz.zeroValue213
 t127:=Tryz.underlying226
 a127:=Tryz.isAgg226
 z127:=Tryz.sizeOf226
 v127:=Tryz.zeroValue226
 t143:=Tryz.underlying227
 a143:=Tryz.isAgg227
 z143:=Tryz.sizeOf227
 v143:=Tryz.zeroValue227
 t145:=Tryz.underlying229
 a145:=Tryz.isAgg229
 z145:=Tryz.sizeOf229
 v145:=Tryz.zeroValue229
 t167:=Tryz.underlying212
 a167:=Tryz.isAgg212
 z167:=Tryz.sizeOf212
 v167:=Tryz.zeroValue212
 t168:=Tryz.underlying215
 a168:=Tryz.isAgg215
 z168:=Tryz.sizeOf215
 v168:=Tryz.zeroValue215
 t171:=Tryz.underlying231
 a171:=Tryz.isAgg231
 z171:=Tryz.sizeOf231
 v171:=Tryz.zeroValue231
 t173:=Tryz.underlying233
 a173:=Tryz.isAgg233
 z173:=Tryz.sizeOf233
 v173:=Tryz.zeroValue233
 t175:=Tryz.underlying218
 a175:=Tryz.isAgg218
 z175:=Tryz.sizeOf218
 v175:=Tryz.zeroValue218
 t210:=Tryz.underlying222
 a210:=Tryz.isAgg222
 z210:=Tryz.sizeOf222
 v210:=Tryz.zeroValue222
 t212:=Tryz.underlying236
 a212:=Tryz.isAgg236
 z212:=Tryz.sizeOf236
 v212:=Tryz.zeroValue236
 t213:=Tryz.underlying237
 a213:=Tryz.isAgg237
 z213:=Tryz.sizeOf237
 t232:=Tryz.underlying238
 a232:=Tryz.isAgg238
 z232:=Tryz.sizeOf238
 v232:=Tryz.zeroValue238
 t233:=Tryz.underlying239
 a233:=Tryz.isAgg239
 z233:=Tryz.sizeOf239
 v233:=Tryz.zeroValue239
 g15:=by kernel_rfl
 g16:=by kernel_rfl
 g17:=by kernel_rfl
 g18:=by kernel_rfl
 g19:=by kernel_rfl
 t80:=Tryz.underlying240
 a80:=Tryz.isAgg240
 z80:=Tryz.sizeOf240
 v80:=Tryz.zeroValue240
 i0:=by kernel_rfl
 i2:=by kernel_rfl
 i3:=by kernel_rfl
 i4:=by kernel_rfl
 i5:=by kernel_rfl
 i9:=by kernel_rfl
 i20:=by kernel_rfl
 i21:=by kernel_rfl
 i37:=by kernel_rfl
 i46:=by kernel_rfl
 i51:=by kernel_rfl
 i53:=by kernel_rfl
 i75:=by kernel_rfl
 i76:=by kernel_rfl
 i80:=by kernel_rfl
 i85:=by kernel_rfl
 i127:=by kernel_rfl
 i143:=by kernel_rfl
 i145:=by kernel_rfl
 i167:=by kernel_rfl
 i168:=by kernel_rfl
 i171:=by kernel_rfl
 i173:=by kernel_rfl
 i175:=by kernel_rfl
 i210:=by kernel_rfl
 i212:=by kernel_rfl
 i232:=by kernel_rfl
 i233:=by kernel_rfl
 m15:=by kernel_rfl
 m16:=by kernel_rfl
 m17:=by kernel_rfl
 m18:=by kernel_rfl
 m19:=by kernel_rfl
 c0:=by kernel_rfl
 c2:=by kernel_rfl
 c3:=by kernel_rfl
 c4:=by kernel_rfl
 c5:=by kernel_rfl
 c9:=by kernel_rfl
 c20:=by kernel_rfl
 c21:=by kernel_rfl
 c37:=by kernel_rfl
 c46:=by kernel_rfl
 c51:=by kernel_rfl
 c53:=by kernel_rfl
 c75:=by kernel_rfl
 c76:=by kernel_rfl
 c80:=by kernel_rfl
 c85:=by kernel_rfl
 c127:=by kernel_rfl
 c143:=by kernel_rfl
 c145:=by kernel_rfl
 c167:=by kernel_rfl
 c168:=by kernel_rfl
 c171:=by kernel_rfl
 c173:=by kernel_rfl
 c175:=by kernel_rfl
 c210:=by kernel_rfl
 c212:=by kernel_rfl
 c213:=by kernel_rfl
 c232:=by kernel_rfl
 c233:=by kernel_rfl }
open Go.RowKit in
theorem Tryz.strconv_Atoi_ok (s:ByteArray)(hmax:s.size≤9223372036854775806)(v:Int)(h:Lib.atoiAll s.data.toList=.ok v)(w:World) :
  Calls Tryz.prog 178 #[.string s] w fun e w'=>e=.returned (.tuple #[.int .i64 v,.nilIface])∧(w'=w∨∃t,w'=Lib.bytesWorld w 5 t):=Any.strconv_Atoi_ok Tryz.laysC172 s hmax v h w
def Tryz.lays219_ren:Go.Shelf.Ren:=⟨fun|219=>166|217=>170|225=>171|224=>172|267=>173|266=>176|314=>177|n=>n,fun|9=>9|3=>3|4=>4|5=>5|46=>151|146=>205|51=>184|n=>n,fun|1=>0|n=>n⟩
theorem Tryz.lays219:Go.Proofs.Lays.n219 Tryz.prog Tryz.lays219_ren:={
 mixed:=by kernel_rfl
 f217:=Tryz.func170.trans (congrArg some (by kernel_rfl))
 f219:=Tryz.func166.trans (congrArg some (by kernel_rfl))
 f224:=Tryz.func172.trans (congrArg some (by kernel_rfl))
 f225:=Tryz.func171.trans (congrArg some (by kernel_rfl))
 f266:=Tryz.func176.trans (congrArg some (by kernel_rfl))
 f267:=Tryz.func173.trans (congrArg some (by kernel_rfl))
 f314:=Tryz.func177.trans (congrArg some (by kernel_rfl))
 t3:=Tryz.underlying3
 a3:=Tryz.isAgg3
 z3:=Tryz.sizeOf3
 v3:=Tryz.zeroValue3
 t4:=Tryz.underlying4
 a4:=Tryz.isAgg4
 z4:=Tryz.sizeOf4
 v4:=Tryz.zeroValue4
 t5:=Tryz.underlying5
 a5:=Tryz.isAgg5
 z5:=Tryz.sizeOf5
 v5:=Tryz.zeroValue5
 t9:=Tryz.underlying9
 a9:=Tryz.isAgg9
 z9:=Tryz.sizeOf9
 v9:=Tryz.zeroValue9
 t46:=Tryz.underlying151
 a46:=Tryz.isAgg151
 z46:=Tryz.sizeOf151
 v46:=Tryz.zeroValue151
 t51:=Tryz.underlying184
 a51:=Tryz.isAgg184
 z51:=Tryz.sizeOf184
 v51:=Tryz.zeroValue184
 t146:=Tryz.underlying205
 a146:=Tryz.isAgg205
 z146:=Tryz.sizeOf205
 v146:=Tryz.zeroValue205
 g1:=by kernel_rfl }
open Go.RowKit Go.Lib in
theorem Tryz.stringslite_Index_one (s:ByteArray)(c:UInt8)(w:World) :
  Calls Tryz.prog 166 #[.string s,.string ⟨#[c]⟩] w fun e w'=>e=.returned (.int .i64 (Lib.indexByte s.data.toList c))∧w'=w:=Any.stringslite_Index_one Tryz.lays219 s c w
def Tryz.lays315_ren:Go.Shelf.Ren:=⟨fun|315=>174|n=>n,fun|9=>9|40=>188|4=>4|3=>3|0=>0|21=>21|n=>n,fun|n=>n⟩
theorem Tryz.lays315:Go.Proofs.Lays.n315 Tryz.prog Tryz.lays315_ren:={
 mixed:=by kernel_rfl
 f315:=Tryz.func174.trans (congrArg some (by kernel_rfl))
 t0:=Tryz.underlying0
 a0:=Tryz.isAgg0
 z0:=Tryz.sizeOf0
 v0:=Tryz.zeroValue0
 t3:=Tryz.underlying3
 a3:=Tryz.isAgg3
 z3:=Tryz.sizeOf3
 v3:=Tryz.zeroValue3
 t4:=Tryz.underlying4
 a4:=Tryz.isAgg4
 z4:=Tryz.sizeOf4
 v4:=Tryz.zeroValue4
 t9:=Tryz.underlying9
 a9:=Tryz.isAgg9
 z9:=Tryz.sizeOf9
 v9:=Tryz.zeroValue9
 t21:=Tryz.underlying21
 a21:=Tryz.isAgg21
 z21:=Tryz.sizeOf21
 v21:=Tryz.zeroValue21
 t40:=Tryz.underlying188
 a40:=Tryz.isAgg188
 z40:=Tryz.sizeOf188
 v40:=Tryz.zeroValue188 }
open Go.RowKit Go.Lib in
theorem Tryz.strings_indexFunc (g:Nat)(lb:Array Value)(eg:∀args w,(callFunc g args).run Tryz.prog w=.ok (.enter g args) w)(p:Nat→Bool)(truth:Bool)(s:ByteArray)(w:World)(hp:PredAt Tryz.prog g lb encR p w) :
  Calls Tryz.prog 174 #[.string s,.func (.func g) #[] lb,.bool truth] w fun e w'=>e=.returned (.int .i64 (Lib.idxFunc p truth s))∧Below w.heap.size w w':=Any.strings_indexFunc Tryz.lays315 g lb eg p truth s w hp
def Tryz.laysSort_ren:Go.Shelf.Ren:=⟨fun|6=>112|15=>132|14=>131|28=>153|29=>154|20=>145|21=>146|22=>147|23=>148|24=>149|25=>150|26=>151|27=>152|46=>160|47=>161|48=>162|49=>163|50=>164|57=>168|n=>n,fun|22=>115|24=>38|25=>126|3=>3|39=>151|0=>0|53=>184|55=>101|4=>4|46=>178|45=>177|50=>111|5=>5|9=>9|66=>189|70=>193|76=>198|77=>199|n=>n,fun|n=>n⟩
theorem Tryz.laysSort:Go.Proofs.SlLaysF0.n6 Tryz.prog Tryz.laysSort_ren:={
 mixed:=by kernel_rfl
 f6:=⟨Tryz.f112.name,by decide,Tryz.func112.trans (congrArg some (by kernel_rfl))⟩
 f14:=⟨Tryz.f131.name,by decide,Tryz.func131.trans (congrArg some (by kernel_rfl))⟩
 f15:=Tryz.func132.trans (congrArg some (by kernel_rfl))
 f20:=⟨Tryz.f145.name,by decide,Tryz.func145.trans (congrArg some (by kernel_rfl))⟩
 f21:=⟨Tryz.f146.name,by decide,Tryz.func146.trans (congrArg some (by kernel_rfl))⟩
 f22:=⟨Tryz.f147.name,by decide,Tryz.func147.trans (congrArg some (by kernel_rfl))⟩
 f23:=⟨Tryz.f148.name,by decide,Tryz.func148.trans (congrArg some (by kernel_rfl))⟩
 f24:=⟨Tryz.f149.name,by decide,Tryz.func149.trans (congrArg some (by kernel_rfl))⟩
 f25:=⟨Tryz.f150.name,by decide,Tryz.func150.trans (congrArg some (by kernel_rfl))⟩
 f26:=⟨Tryz.f151.name,by decide,Tryz.func151.trans (congrArg some (by kernel_rfl))⟩
 f27:=⟨Tryz.f152.name,by decide,Tryz.func152.trans (congrArg some (by kernel_rfl))⟩
 f28:=Tryz.func153.trans (congrArg some (by kernel_rfl))
 f29:=Tryz.func154.trans (congrArg some (by kernel_rfl))
 f46:=⟨Tryz.f160.name,by decide,Tryz.func160.trans (congrArg some (by kernel_rfl))⟩
 f47:=Tryz.func161.trans (congrArg some (by kernel_rfl))
 f48:=Tryz.func162.trans (congrArg some (by kernel_rfl))
 f49:=⟨Tryz.f163.name,by decide,Tryz.func163.trans (congrArg some (by kernel_rfl))⟩
 f50:=⟨Tryz.f164.name,by decide,Tryz.func164.trans (congrArg some (by kernel_rfl))⟩
 f57:=⟨Tryz.f168.name,by decide,Tryz.func168.trans (congrArg some (by kernel_rfl))⟩
 t0:=Tryz.underlying0
 a0:=Tryz.isAgg0
 z0:=Tryz.sizeOf0
 v0:=Tryz.zeroValue0
 t3:=Tryz.underlying3
 a3:=Tryz.isAgg3
 z3:=Tryz.sizeOf3
 v3:=Tryz.zeroValue3
 t4:=Tryz.underlying4
 a4:=Tryz.isAgg4
 z4:=Tryz.sizeOf4
 v4:=Tryz.zeroValue4
 t5:=Tryz.underlying5
 a5:=Tryz.isAgg5
 z5:=Tryz.sizeOf5
 v5:=Tryz.zeroValue5
 t9:=Tryz.underlying9
 a9:=Tryz.isAgg9
 z9:=Tryz.sizeOf9
 v9:=Tryz.zeroValue9
 t22:=Tryz.underlying115
 a22:=Tryz.isAgg115
 z22:=Tryz.sizeOf115
 v22:=Tryz.zeroValue115
 t25:=Tryz.underlying126
 a25:=Tryz.isAgg126
 z25:=Tryz.sizeOf126
 v25:=Tryz.zeroValue126
 t39:=Tryz.underlying151
 a39:=Tryz.isAgg151
 z39:=Tryz.sizeOf151
 v39:=Tryz.zeroValue151
 t45:=Tryz.underlying177
 a45:=Tryz.isAgg177
 z45:=Tryz.sizeOf177
 v45:=Tryz.zeroValue177
 t46:=Tryz.underlying178
 a46:=Tryz.isAgg178
 z46:=Tryz.sizeOf178
 v46:=Tryz.zeroValue178
 t50:=Tryz.underlying111
 a50:=Tryz.isAgg111
 z50:=Tryz.sizeOf111
 v50:=Tryz.zeroValue111
 t53:=Tryz.underlying184
 a53:=Tryz.isAgg184
 z53:=Tryz.sizeOf184
 v53:=Tryz.zeroValue184
 t55:=Tryz.underlying101
 a55:=Tryz.isAgg101
 z55:=Tryz.sizeOf101
 v55:=Tryz.zeroValue101
 t66:=Tryz.underlying189
 a66:=Tryz.isAgg189
 z66:=Tryz.sizeOf189
 v66:=Tryz.zeroValue189
 t70:=Tryz.underlying193
 a70:=Tryz.isAgg193
 z70:=Tryz.sizeOf193
 v70:=Tryz.zeroValue193
 t76:=Tryz.underlying198
 a76:=Tryz.isAgg198
 z76:=Tryz.sizeOf198
 v76:=Tryz.zeroValue198
 t77:=Tryz.underlying199
 a77:=Tryz.isAgg199
 z77:=Tryz.sizeOf199
 v77:=Tryz.zeroValue199 }
open Go.RowKit Go.Sort in
theorem Tryz.sort_none (p:Option Addr)(cap:Nat)(fv:Value)(w:World):Calls Tryz.prog 112 #[.slice p 0 cap,fv] w fun e w'=>e=.returned (.tuple #[])∧w'=w:=AnyF.slices_SortFunc_none Tryz.laysSort p cap fv w
open Go.RowKit Go.Sort in
theorem Tryz.sort_total {α:Type}[Inhabited α](aE:∀w,(isAgg 38).run Tryz.prog w=.ok true w)(zE:∀w,(Go.sizeOf 38).run Tryz.prog w=.ok 2 w)(enc:α→List Value)(hk:∀x,(enc x).length=2)(h1:∀x,∀v∈enc x,v.oneCell'=true)(cf:α→α→Int)(hO:SWO (ltOf cf))(hT:∀x y,(ltOf cf) x y=false→(ltOf cf) y x=false→x=y)(g:Nat)(eg:∀args w,(callFunc g args).run Tryz.prog w=.ok (.enter g args) w)(blk off cap:Nat)(d:Array α)(w:World)
  (hcmp:CmpLays Tryz.prog g #[] enc 2 cf blk off d.size w) (hH:HoldsK enc 2 w blk off d) (hblk:blk<w.heap.size) (hsz:d.size<4611686018427387904) :
  Calls Tryz.prog 112 #[.slice (some ⟨blk,off,none⟩) d.size cap,.func (.func g) #[] #[]] w fun e w'=>e=.returned (.tuple #[])∧∃n os,w'=sortWorldK enc 2 w blk off n (d.toList.mergeSort fun x y=>!(ltOf cf) y x).toArray os:=AnyQ.slices_SortFunc_total Tryz.laysSort 2 aE zE enc hk h1 cf hO g #[] blk off cap d w eg hcmp hH hblk hsz hT
end Go.Proofs

namespace Go.Proofs.YtdnpaifeoinjoaaGreatDoor
open Go.Sha Go.RowKit
set_option maxRecDepth 100000
variable {g:List (Nat×Obj)}{n:Nat}
def othR (r:Nat):Bool:=decide (r<48)||decide (57<r)
def q166:List V→Option VRes
 |[.str s,.str [c]]=>some (.ret (.int .i64 (Lib.indexByte s c)))
 |_=>none
def q174:List V→Option VRes
 |[.str s,.fn (.func 158) [] [],.bool true]=>some (.ret (.int .i64 (Lib.idxFunc othR true ⟨s.toArray⟩)))
 |_=>none
def HL0:EvF:=⟨[],fun f args st=>(bif Nat.beq f 166 then q166 args else bif Nat.beq f 174 then q174 args else none).map fun r=>(r,st)⟩
@[push_cast]theorem HL0_raw:HL0.raw=[]:=idq rfl
theorem k166 {s:List UInt8}{c:UInt8}{st:St}:run Tryz.prog HL0 166 [.str s,.str [c]] st=some (.ret (.int .i64 (Lib.indexByte s c)),st):=run_H rfl
theorem k174 {s:List UInt8}{st:St}:run Tryz.prog HL0 174 [.str s,.fn (.func 158) [] [],.bool true] st=some (.ret (.int .i64 (Lib.idxFunc othR true ⟨s.toArray⟩)),st):=run_H rfl
theorem idx_tw {c:UInt8}:∀{s:List UInt8},Lib.indexByte s c=if s.contains c=true then((s.takeWhile (· != c)).length:Int) else -1
 |[]=>rfl
 |b::s=>by
  have ih:=idx_tw (c:=c) (s:=s)
  rw[Lib.indexByte,ih]
  by_cases h:b=c
  ·subst h;simp
  ·have h2:(b == c)=false:=by simpa using h
   have h3:(b != c)=true:=by simpa using h
   rw[h2,List.takeWhile_cons,if_pos h3,List.contains_cons,show(c == b)=false by simpa using fun e=>h e.symm,Bool.false_or,List.length_cons]
   cases s.contains c
   ·rfl
   ·simp only[if_true]
    rw[if_neg (by simp),if_neg (by simp)];omega
theorem drop_tw {p:UInt8→Bool}{s:List UInt8}:s.drop ((s.takeWhile p).length+1)=(s.dropWhile p).drop 1:=by rw[←List.drop_drop,drop_w]
theorem tw_none {c:UInt8}:∀{s:List UInt8},s.contains c=false→s.takeWhile (· != c)=s∧s.dropWhile (· != c)=[]
 |[],_=>⟨rfl,rfl⟩
 |b::r,h=>by
  have hb:(b != c)=true:=by simp at h ⊢;exact fun e=>h.1 e.symm
  have hr:r.contains c=false:=by simp at h ⊢;exact h.2
  have:=tw_none hr
  simp only[List.takeWhile_cons,List.dropWhile_cons,hb,if_true]
  exact⟨by rw[this.1],this.2⟩
theorem k156 {s:List UInt8}{c:UInt8}(hl:s.length<140737488355328){st:St}:run Tryz.prog HL0 156 [.str s,.str [c]] st=some (.ret (.tup [.str (s.takeWhile (· != c)),.str ((s.dropWhile (· != c)).drop 1),.bool (s.contains c)]),st):=by
 have hi:=idx_tw (c:=c) (s:=s)
 have hle:=(List.takeWhile_sublist (· != c) (l:=s)).length_le
 rw[run_shut F156 rfl rfl rfl]
 cases h:s.contains c with
 |true =>
  have hlt:(s.takeWhile (· != c)).length<s.length:=by
   rcases Nat.lt_or_ge (s.takeWhile (· != c)).length s.length with h2|h2
   ·exact h2
   ·have e:s.takeWhile (· != c)=s:=(List.takeWhile_sublist _).eq_of_length (by omega)
    have:=List.all_takeWhile (p:=(· != c)) (l:=s)
    rw[e,List.all_eq_true]at this
    have:=this c (by simpa using h)
    simp at this
  rw[h,if_pos rfl]at hi
  have hd:=drop_tw (p:=(· != c)) (s:=s)
  have ht:=take_w (p:=(· != c)) (s:=s)
  generalize s.takeWhile (· != c)=a at *
  have hw:IntKind.i64.wrap ((a.length:Int)+1)=((a.length+1:Nat):Int):=iwrap (by omega) (by omega)
  push_cast[k166,hi,hw,ht]
  exact dn_eq (by omega) (by rw[List.take_length,show((a.length:Int)+1).toNat=a.length+1 by omega,hd])
 |false =>
  rw[h,if_neg (by simp)]at hi
  obtain⟨e1,e2⟩:=tw_none h
  rw[e1,e2]
  push_cast[k166,hi]
theorem k136 {s:List UInt8}{c:UInt8}(hl:s.length<140737488355328){st:St}:run Tryz.prog HL0 136 [.str s,.str [c]] st=some (.ret (.tup [.str (s.takeWhile (· != c)),.str ((s.dropWhile (· != c)).drop 1),.bool (s.contains c)]),st):=by
 have h:=fun(st:St)=>k156 (c:=c) (st:=st) hl
 rw[run_shut F136 rfl rfl rfl]
 push_cast[h]
theorem k140 {s t:List UInt8}(hl:s.length<140737488355328)(ht:t.length≤s.length+1000){st:St}:run Tryz.prog HL0 140 [.str s,.str t] st=some (.ret (.bool (t.isSuffixOf s)),st):=by
 have h:∀st,run Tryz.prog HL0 159 [.str s,.str t] st=some (.ret (.bool (t.isSuffixOf s)),st):=fun st=>by
  rw[run_shut F159 rfl rfl rfl]
  by_cases h:t.length≤s.length
  ·have h1:(t.length:Int)≤s.length:=by omega
   have hw:IntKind.i64.wrap ((s.length:Int)-t.length)=((s.length-t.length:Nat):Int):=by rw[iwrap (by omega) (by omega)];omega
   have e:t.isSuffixOf s=(s.drop (s.length-t.length) == t):=by
    rw[Bool.eq_iff_iff,List.isSuffixOf_iff_suffix,List.suffix_iff_eq_drop,beq_iff_eq]
    exact⟨fun h=>h.symm,fun h=>h.symm⟩
   have h2:((s.length-t.length:Nat):Int)≤s.length:=by omega
   generalize s.length-t.length=k at *
   push_cast[h1,hw,h2,List.take_length,e]
  ·have h1:¬(t.length:Int)≤s.length:=by omega
   have e:t.isSuffixOf s=false:=by
    rw[←Bool.not_eq_true,List.isSuffixOf_iff_suffix]
    exact fun h2=>h h2.length_le
   push_cast[h1,e]
 rw[run_shut F140 rfl rfl rfl]
 push_cast[h]
theorem oth_from (s:ByteArray):∀(f pos:Nat),s.size≤pos+f→(decide (Lib.idxFuncFrom othR true s f pos<0))=(s.data.toList.drop pos).all isD
 |0,pos,h=>by
  rw[List.drop_eq_nil_of_le (by rw[Array.length_toList];exact h)];rfl
 |f+1,pos,h=>by
  unfold Lib.idxFuncFrom
  by_cases hp:pos<s.size
  ·have hp':pos<s.data.toList.length:=by rw[Array.length_toList];exact hp
   have hb:s.data.toList[pos]'hp'=s[pos]'hp:=rfl
   rw[if_pos hp,List.drop_eq_getElem_cons hp',List.all_cons,hb]
   by_cases ha:(s[pos]'hp).toNat<128
   ·rw[decode_ascii s pos hp ha]
    have ih:=oth_from s f (pos+1) (by omega)
    cases hd:isD (s[pos]'hp) with
    |true =>
     have:¬othR (s[pos]'hp).toNat=true:=by
      simp only[isD,Bool.and_eq_true,decide_eq_true_eq]at hd
      simp only[othR,Bool.or_eq_true,decide_eq_true_eq];omega
     rw[if_neg this,ih];rfl
    |false =>
     have:othR (s[pos]'hp).toNat=true:=by
      simp only[isD,Bool.and_eq_false_iff,decide_eq_false_iff_not]at hd
      simp only[othR,Bool.or_eq_true,decide_eq_true_eq];omega
     rw[if_pos this]
     simp
   ·obtain⟨h1,h2⟩:=decode_high s pos hp (by omega)
    have:othR (Utf8.decode s pos).1=true:=by
     simp only[othR,Bool.or_eq_true,decide_eq_true_eq];omega
    have hd:isD (s[pos]'hp)=false:=by
     simp only[isD,Bool.and_eq_false_iff,decide_eq_false_iff_not];omega
    rw[if_pos this,hd]
    simp
  ·rw[if_neg hp,List.drop_eq_nil_of_le (by rw[Array.length_toList];exact Nat.le_of_not_lt hp)];rfl
theorem oth_idx (s:List UInt8):decide (Lib.idxFunc othR true ⟨s.toArray⟩<0)=s.all isD:=by
 have:=oth_from ⟨s.toArray⟩ s.length 0 (by simp[ByteArray.size])
 simpa [Lib.idxFunc,ByteArray.size] using this
theorem k157 {s:List UInt8}{st:St}:run Tryz.prog HL0 157 [.str s,.fn (.func 158) [] []] st=some (.ret (.bool (s.any (!isD ·))),st):=by
 have h:∀st,run Tryz.prog HL0 167 [.str s,.fn (.func 158) [] []] st=some (.ret (.int .i64 (Lib.idxFunc othR true ⟨s.toArray⟩)),st):=fun st=>by
  rw[run_shut F167 rfl rfl rfl]
  push_cast[k174]
 have e:decide (0≤Lib.idxFunc othR true ⟨s.toArray⟩)=s.any (!isD ·):=by
  have:=oth_idx s
  have h2:decide (0≤Lib.idxFunc othR true ⟨s.toArray⟩)=!(decide (Lib.idxFunc othR true ⟨s.toArray⟩<0)):=by
   rw[Bool.eq_iff_iff];simp
  rw[h2,this,List.not_all_eq_any_not]
 rw[run_shut F157 rfl rfl rfl]
 push_cast[h,e]
theorem callable166:Callable Tryz.prog 166:=⟨_,Tryz.func166,by kernel_rfl,by kernel_rfl⟩
theorem callable174:Callable Tryz.prog 174:=⟨_,Tryz.func174,by kernel_rfl,by kernel_rfl⟩
theorem callable178:Callable Tryz.prog 178:=⟨_,Tryz.func178,by kernel_rfl,by kernel_rfl⟩
theorem v166 (s:List UInt8)(c:UInt8)(st:St):VRet Tryz.prog 166 [.str s,.str [c]] st (.int .i64 (Lib.indexByte s c)) st:=by
 refine VRet_of_below callable166 (fun w A vs hw ha=>?_)
 obtain⟨hl,ha⟩:=ha
 match vs,hl with
 |[u,v],_ =>
 have e1:=(ha 0 u _ rfl rfl).str_inv
 have e2:=(ha 1 v _ rfl rfl).str_inv
 subst e1;subst e2
 refine(Tryz.stringslite_Index_one ⟨s.toArray⟩ c w).mono fun e w' ⟨he,hb⟩=>?_
 subst he;subst hb
 exact⟨_,rfl,fun w' A'=>.int _ _,Below.refl _ _⟩
theorem pred280 (w:World):PredAt Tryz.prog 158 #[] encR othR w:=fun W r _=>by
 unfold FnGives
 by_cases h1:r<48<;>by_cases h2:57<r
 all_goals
  have z1:(r:Int)<48↔r<48:=by omega
  have z2:(57:Int)<(r:Int)↔57<r:=by omega
  go_enter Tryz.func158,Tryz.ntmps158
  go_wp2
  all_goals first|(exfalso;omega)|(go_ret;exact⟨by simp[othR,h1,h2],0,rfl⟩)
theorem v174 (s:List UInt8)(st:St):VRet Tryz.prog 174 [.str s,.fn (.func 158) [] [],.bool true] st (.int .i64 (Lib.idxFunc othR true ⟨s.toArray⟩)) st:=by
 refine VRet_of_below callable174 (fun w A vs hw ha=>?_)
 obtain⟨hl,ha⟩:=ha
 match vs,hl with
 |[v0,v1,v2],_ =>
 have e0:=(ha 0 v0 _ rfl rfl).str_inv
 have r1:=ha 1 v1 _ rfl rfl
 have e2:=(ha 2 v2 _ rfl rfl).bool_inv
 have e1:v1=.func (.func 158) #[] #[]:=by
  cases r1 with
  |fn _ vs us _ _ e1 e2 _ _ =>
   have h1:vs=[]:=List.eq_nil_of_length_eq_zero e1
   have h2:us=[]:=List.eq_nil_of_length_eq_zero e2
   rw[h1,h2]
 subst e0;subst e1;subst e2
 refine(Tryz.strings_indexFunc 158 #[] (enters_of Tryz.func158 (by kernel_rfl) rfl) othR true ⟨s.toArray⟩ w (pred280 w)).mono fun e w' ⟨he,hb⟩=>?_
 subst he
 exact⟨_,rfl,fun w' A'=>.int _ _,hb⟩
theorem HL0_ok:ESound Tryz.prog HL0:=fun f args st r s h=>by
 obtain⟨z,hz,e⟩:=Option.map_eq_some_iff.1 h
 cases e
 by_cases h1:f=166
 ·subst h1
  rw[show Nat.beq 166 166=true from rfl,cond_true]at hz
  unfold q166 at hz
  split at hz<;>cases hz
  exact v166 _ _ _
 rw[show Nat.beq f 166=false from Bool.eq_false_iff.2 fun e=>h1 (Nat.eq_of_beq_eq_true e),cond_false]at hz
 by_cases h3:f=174
 ·subst h3
  rw[show Nat.beq 174 174=true from rfl,cond_true]at hz
  unfold q174 at hz
  split at hz<;>cases hz
  exact v174 _ _
 rw[show Nat.beq f 174=false from Bool.eq_false_iff.2 fun e=>h3 (Nat.eq_of_beq_eq_true e),cond_false]at hz
 cases hz
end Go.Proofs.YtdnpaifeoinjoaaGreatDoor

namespace Go.Proofs.YtdnpaifeoinjoaaGreatDoor
open Go.Sha Go.RowKit
set_option maxRecDepth 100000
theorem parse_digs:∀(s:List UInt8) (acc:Nat),s.all isD=true→acc<18446744073709551616→Lib.parseUint10 acc s=if s.foldl (fun n b=>10*n+(b.toNat-48)) acc<18446744073709551616 then .ok (s.foldl (fun n b=>10*n+(b.toNat-48)) acc) else .range
 |[],acc,_,h=>by simp[Lib.parseUint10,h]
 |b::s,acc,h,ha=>by
  have mono:∀(s:List UInt8) (n:Nat),n≤s.foldl (fun n b=>10*n+(b.toNat-48)) n:=by
   intro s
   induction s with
   |nil=>intro n;exact Nat.le_refl _
   |cons c s ih=>intro n;rw[List.foldl_cons];refine Nat.le_trans ?_ (ih _);omega
  simp only[List.all_cons,Bool.and_eq_true]at h
  obtain⟨hb,hs⟩:=h
  have hb':48≤b.toNat∧b.toNat≤57:=by
   simp only[isD,Bool.and_eq_true,decide_eq_true_eq]at hb;omega
  rw[Lib.parseUint10,if_pos hb',List.foldl_cons]
  have hm:=mono s (10*acc+(b.toNat-48))
  by_cases h1:1844674407370955162≤acc
  ·rw[if_pos h1,if_neg (by omega)]
  ·rw[if_neg h1]
   by_cases h2:18446744073709551616≤acc*10+(b.toNat-48)
   ·rw[if_pos h2,if_neg (by omega)]
   ·rw[if_neg h2,parse_digs s _ hs (by omega),Nat.mul_comm]
theorem atoi_digs {s:List UInt8}(h0:s≠[])(h:s.all isD=true):Lib.atoiAll s=if natOf s<9223372036854775808 then .ok (natOf s:Int) else .range:=by
 cases s with
 |nil=>exact absurd rfl h0
 |cons b s =>
  have hb:isD b=true:=by simp only[List.all_cons,Bool.and_eq_true]at h;exact h.1
  have hb':48≤b.toNat∧b.toNat≤57:=by
   simp only[isD,Bool.and_eq_true,decide_eq_true_eq]at hb;omega
  rw[Lib.atoiAll_plain b s (by omega) (by omega),Lib.parseMag,if_neg (by simp),parse_digs (b::s) 0 h (by omega)]
  show Lib.signless (if natOf (b::s)<18446744073709551616 then .ok (natOf (b::s)) else .range)=_
  by_cases h1:natOf (b::s)<18446744073709551616
  ·rw[if_pos h1]
   unfold Lib.signless
   by_cases h2:natOf (b::s)<9223372036854775808
   ·rw[if_pos h2];simp only;rw[if_neg (by omega)]
   ·rw[if_neg h2];simp only;rw[if_pos (by omega)]
  ·rw[if_neg h1,if_neg (by omega)];rfl
theorem natOf_lt:∀{s:List UInt8}{n:Nat},s.all isD=true→s.foldl (fun n b=>10*n+(b.toNat-48)) n<(n+1)*10 ^ s.length
 |[],n,_=>by simp
 |b::s,n,h=>by
  simp only[List.all_cons,Bool.and_eq_true]at h
  have hb:b.toNat≤57:=by have:=h.1;simp only[isD,Bool.and_eq_true,decide_eq_true_eq]at this;omega
  have ih:=natOf_lt (s:=s) (n:=10*n+(b.toNat-48)) h.2
  rw[List.foldl_cons,List.length_cons,Nat.pow_succ]
  refine Nat.lt_of_lt_of_le ih ?_
  rw[show(n+1)*(10 ^ s.length*10)=((n+1)*10)*10 ^ s.length by rw[Nat.mul_comm (10 ^ s.length),Nat.mul_assoc]]
  exact Nat.mul_le_mul_right _ (by omega)
theorem v178 (s:List UInt8)(st:St)(h0:s≠[])(h:s.all isD=true)(hl:s.length≤18):VRet Tryz.prog 178 [.str s] st (.tup [.int .i64 (natOf s),.nili]) st:=by
 have hn:natOf s<9223372036854775808:=by
  have h1:=natOf_lt (n:=0) h
  have h2:10 ^ s.length≤10 ^ 18:=Nat.pow_le_pow_right (by omega) hl
  unfold natOf;omega
 refine VRet_of_below callable178 (fun w A vs hw ha=>?_)
 obtain⟨u,rfl,h1⟩:=ha.one
 have e1:=h1.str_inv
 subst e1
 have hat:=atoi_digs h0 h
 rw[if_pos hn]at hat
 refine(Tryz.strconv_Atoi_ok ⟨s.toArray⟩ (by simp[ByteArray.size];omega) (natOf s:Int) (by simpa using hat) w).mono fun e w' ⟨he,hb⟩=>?_
 subst he
 refine⟨_,rfl,fun w' A'=>?_,?_⟩
 ·refine .tup [.int .i64 (natOf s),.nilIface] [.int .i64 (natOf s),.nili] rfl (fun i v c h1 h2=>?_)
  match i,h1,h2 with
  |0,h1,h2=>simp at h1 h2;subst h1 h2;exact .int _ _
  |1,h1,h2=>simp at h1 h2;subst h1 h2;exact .nili
 ·rcases hb with rfl|⟨t,rfl⟩
  ·exact Below.refl _ _
  ·exact Lib.bytesWorld_below w 5 t
theorem callable112:Callable Tryz.prog 112:=⟨_,Tryz.func112,by kernel_rfl,by kernel_rfl⟩
open Go.Sort in
def PB:Type:={ p:Prm // 0≤p.chan∧p.chan≤999∧0≤p.attr∧p.attr≤14 }
instance:Inhabited PB:=⟨⟨⟨0,0⟩,by decide⟩⟩
def encP (p:PB):List Value:=[.int .i64 p.1.chan,.int .i64 p.1.attr]
def cmpB (p q:PB):Int:=if p.1.chan≠q.1.chan then p.1.chan-q.1.chan else p.1.attr-q.1.attr
open Go.Sort Go.Proofs in
theorem lt_B {x y:PB}:ltOf cmpB x y=decide (x.1.chan<y.1.chan∨x.1.chan=y.1.chan∧x.1.attr<y.1.attr):=by
 unfold ltOf cmpB
 split
 ·rename_i h;rw[Bool.eq_iff_iff];simp only[decide_eq_true_eq];omega
 ·rename_i h;rw[Bool.eq_iff_iff];simp only[decide_eq_true_eq];omega
open Go.Sort Go.Proofs in
theorem swo_B:SWO (ltOf cmpB) where
 irrefl x:=by rw[lt_B];simp
 trans x y z h1 h2:=by rw[lt_B]at *;simp only[decide_eq_true_eq]at *;omega
 ntrans x y z h1 h2:=by rw[lt_B]at *;simp only[decide_eq_false_iff_not]at *;omega
open Go.Sort Go.Proofs in
theorem tot_B (x y:PB)(h1:ltOf cmpB x y=false)(h2:ltOf cmpB y x=false):x=y:=by
 rw[lt_B]at h1 h2
 simp only[decide_eq_false_iff_not]at h1 h2
 obtain⟨⟨a,b⟩,hx⟩:=x
 obtain⟨⟨c,d⟩,hy⟩:=y
 simp only at h1 h2
 have e1:a=c:=by omega
 have e2:b=d:=by omega
 subst e1;subst e2;rfl
theorem pb_list:∀{xs:List V},xs.all okPV=true→∃l:List PB,xs=l.map fun p=>p.1.v
 |[],_=>⟨[],rfl⟩
 |x::r,h=>by
  simp only[List.all_cons,Bool.and_eq_true]at h
  obtain⟨l,rfl⟩:=pb_list h.2
  have h1:=h.1
  unfold okPV at h1
  split at h1
  ·rename_i c a
   simp only[Bool.and_eq_true,decide_eq_true_eq]at h1
   exact⟨⟨⟨c,a⟩,by dsimp only;omega⟩::l,rfl⟩
  ·cases h1
open Go.Sort Go.Proofs in
theorem v81g {G:Nat}(eg:∀args w,(callFunc G args).run Tryz.prog w=.ok (.enter G args) w)(hc:∀(x y:PB) (W:World),Calls Tryz.prog G #[.agg (encP x).toArray,.agg (encP y).toArray] W fun e w'=>e=.returned (.int .i64 (cmpB x y))∧∃q os',w'=Go.Sort.grow (W.drewN q) os'){st:St}{id:Nat}{r:Arr}(hid:Sha.look st.arr id=some r)(hes:r.es=2)(hw:r.wr=true)(hbig:r.xs.length≤100000000)(hok:r.xs.all okPV=true) :
  VCalls Tryz.prog 112 [.osl id r.xs.length,.fn (.func G) [] []] st fun x s=>x=.ret (.tup [])∧s=⟨st.nx,st.mem,updA st.arr id { r with xs:=r.xs.mergeSort leV },st.x⟩:=by
 obtain⟨l,hl⟩:=pb_list hok
 have hlen:l.length=r.xs.length:=by rw[hl,List.length_map]
 have h:=VCalls_sort (P:=Tryz.prog) (F:=112) callable112 (k:=2) (by omega) (enc:=encP) (fun _=>rfl) (fun x v hv=>by
   simp[encP]at hv;rcases hv with rfl|rfl<;>rfl) (f:=fun p:PB=>p.1.v) (fun _=>rfl) (fun {w A x j v c} hc hr=>by
   match j,hc with
   |0,hc=>cases hc;cases hr;rfl
   |1,hc=>cases hc;cases hr;rfl
   |j+2,hc=>simp[Prm.v,V.cells]at hc) (fun {w A x j v c} hv hc=>by
   match j,hv,hc with
   |0,hv,hc=>cases hv;cases hc;exact .int _ _
   |1,hv,hc=>cases hv;cases hc;exact .int _ _
   |j+2,hv,hc=>simp[encP]at hv) (cf:=cmpB) (g:=G)
  (fun p cap fv w=>Tryz.sort_none p cap fv w)
  (fun blk off cap d w h1 h2 h3 h4=>Tryz.sort_total Tryz.isAgg38 Tryz.sizeOf38 encP (fun _=>rfl) (fun x v hv=>by
   simp[encP]at hv;rcases hv with rfl|rfl<;>rfl) cmpB swo_B tot_B G eg blk off cap d w h1 h2 h3 h4)
  hc (st:=st) (l:=l) hid hl hes hw (by omega)
 rw[hlen]at h
 have e:(l.mergeSort fun x y=>!ltOf cmpB y x).map (fun p:PB=>p.1.v)=r.xs.mergeSort leV:=by
  rw[hl]
  refine List.map_mergeSort (fun a _ b _=>?_)
  rw[lt_B]
  simp only[Prm.v,leV]
  rw[Bool.eq_iff_iff]
  simp
 rw[e]at h
 exact h
end Go.Proofs.YtdnpaifeoinjoaaGreatDoor

namespace Go.Proofs.YtdnpaifeoinjoaaGreatDoor
open Go.Sha Go.RowKit
set_option maxRecDepth 100000
theorem clos229 (x y:PB)(W:World):Calls Tryz.prog 82 #[.agg (encP x).toArray,.agg (encP y).toArray] W fun e w'=>e=.returned (.int .i64 (cmpB x y))∧∃q os',w'=Go.Sort.grow (W.drewN q) os':=by
 obtain⟨⟨a,b⟩,hx⟩:=x
 obtain⟨⟨c,d⟩,hy⟩:=y
 simp only at hx hy
 have w1:IntKind.i64.wrap (a-c)=a-c:=iwrap (by omega) (by omega)
 have w2:IntKind.i64.wrap (b-d)=b-d:=iwrap (by omega) (by omega)
 simp only[encP,cmpB]
 by_cases h:a=c
 ·rw[if_neg (by simp[h])]
  subst h
  go_enter Tryz.func82,Tryz.ntmps82
  go_wp2
  go_ret
  exact⟨rfl,0,_,by rw[Go.Sort.alloc_eq_grow,Go.Sort.alloc_eq_grow,Go.Sort.grow_grow];rfl⟩
 ·rw[if_pos h]
  go_enter Tryz.func82,Tryz.ntmps82
  go_wp2
  go_ret
  exact⟨rfl,0,_,by rw[Go.Sort.alloc_eq_grow,Go.Sort.alloc_eq_grow,Go.Sort.grow_grow];rfl⟩
theorem v81F {st:St}{id:Nat}{r:Arr}(hid:Sha.look st.arr id=some r)(hes:r.es=2)(hw:r.wr=true)(hbig:r.xs.length≤100000000)(hok:r.xs.all okPV=true) :
  VCalls Tryz.prog 112 [.osl id r.xs.length,.fn (.func 82) [] []] st fun x s=>x=.ret (.tup [])∧s=⟨st.nx,st.mem,updA st.arr id { r with xs:=r.xs.mergeSort leV },st.x⟩ :=
 v81g (enters_of Tryz.func82 (by kernel_rfl) rfl) clos229 hid hes hw hbig hok
theorem HSF_ok:ESound Tryz.prog HSF:=fun f args st r s h=>by
 simp only[HSF]at h
 by_cases h1:f=112
 ·subst h1
  rw[show Nat.beq 112 112=true from rfl,cond_true]at h
  unfold hSortF at h
  split at h
  ·rename_i id n
   unfold hSortA at h
   split at h
   ·rename_i r0 hr
    split at h
    ·rename_i hc
     cases h
     obtain⟨c1,c2,c3,c4,c5⟩:=hc
     subst c1
     exact v81F hr c3 c4 c2 c5
    ·cases h
   ·cases h
  ·cases h
 ·rw[show Nat.beq f 112=false from Bool.eq_false_iff.2 fun e=>h1 (Nat.eq_of_beq_eq_true e)]at h;cases h
end Go.Proofs.YtdnpaifeoinjoaaGreatDoor

namespace Go.Proofs.YtdnpaifeoinjoaaGreatDoor
open Go.Sha
set_option maxRecDepth 100000
theorem HH_ok:ESound Tryz.prog HH:=fun f args st r s h=>by
 simp only[HH]at h
 cases hm:memL f [45,66,75,93,97,112,143] with
 |true =>
  rw[hm,cond_true]at h
  simp only[hSl]at h
  by_cases h1:f=45
  ·subst h1
   exact cln_ok (e:=45) (es:=5) (b:=40) (by kernel_rfl) h
  rw[show Nat.beq f 45=false from Bool.eq_false_iff.2 fun e=>h1 (Nat.eq_of_beq_eq_true e),cond_false]at h
  by_cases h1:f=66
  ·subst h1
   exact ins_ok slM bearsI ovM rfl (by decide) h
  rw[show Nat.beq f 66=false from Bool.eq_false_iff.2 fun e=>h1 (Nat.eq_of_beq_eq_true e),cond_false]at h
  by_cases h1:f=112
  ·subst h1
   rw[show Nat.beq 112 112=true from rfl,cond_true]at h
   unfold hSort at h
   split at h
   ·rename_i id n
    unfold hSortA at h
    split at h
    ·rename_i r0 hr
     split at h
     ·rename_i hc
      cases h
      obtain⟨c1,c2,c3,c4,c5⟩:=hc
      subst c1
      exact v81F hr c3 c4 c2 c5
     ·cases h
    ·cases h
   ·cases h
  rw[show Nat.beq f 112=false from Bool.eq_false_iff.2 fun e=>h1 (Nat.eq_of_beq_eq_true e),cond_false]at h
  by_cases h1:f=75
  ·subst h1
   exact cln_ok (e:=42) (es:=4) (b:=32) (by kernel_rfl) h
  rw[show Nat.beq f 75=false from Bool.eq_false_iff.2 fun e=>h1 (Nat.eq_of_beq_eq_true e),cond_false]at h
  by_cases h1:f=93
  ·subst h1
   exact cln_ok (e:=30) (es:=9) (b:=120) (by kernel_rfl) h
  rw[show Nat.beq f 93=false from Bool.eq_false_iff.2 fun e=>h1 (Nat.eq_of_beq_eq_true e),cond_false]at h
  by_cases h1:f=143
  ·subst h1
   exact cln_ok (e:=161) (es:=6) (b:=48) (by kernel_rfl) h
  rw[show Nat.beq f 143=false from Bool.eq_false_iff.2 fun e=>h1 (Nat.eq_of_beq_eq_true e),cond_false]at h
  by_cases h1:f=97
  ·subst h1
   exact grw_ok basT (ρ:=rnG) rfl rfl rfl rfl rfl rfl bearsG rfl (by decide) Tryz.underlying34 Tryz.isAgg34 Tryz.sizeOf34 Tryz.zeroValue34 infoG rfl h
  rw[show Nat.beq f 97=false from Bool.eq_false_iff.2 fun e=>h1 (Nat.eq_of_beq_eq_true e),cond_false]at h
  cases h
 |false =>
 rw[hm,cond_false]at h
 obtain⟨z,hz,e⟩:=Option.map_eq_some_iff.1 h
 cases e
 by_cases h1:f=136
 ·subst h1
  rw[show Nat.beq 136 136=true from rfl,cond_true]at hz
  unfold hCut at hz
  split at hz
  ·split at hz
   ·rename_i hl;cases hz;exact run_sound mixed HL0_ok _ _ _ _ _ (k136 hl)
   ·cases hz
  ·cases hz
 rw[show Nat.beq f 136=false from Bool.eq_false_iff.2 fun e=>h1 (Nat.eq_of_beq_eq_true e),cond_false]at hz
 by_cases h1:f=140
 ·subst h1
  rw[show Nat.beq 140 140=true from rfl,cond_true]at hz
  unfold hSuf at hz
  split at hz
  ·split at hz
   ·rename_i hl;cases hz;exact run_sound mixed HL0_ok _ _ _ _ _ (k140 hl.1 hl.2)
   ·cases hz
  ·cases hz
 rw[show Nat.beq f 140=false from Bool.eq_false_iff.2 fun e=>h1 (Nat.eq_of_beq_eq_true e),cond_false]at hz
 by_cases h1:f=157
 ·subst h1
  rw[show Nat.beq 157 157=true from rfl,cond_true]at hz
  unfold hAny at hz
  split at hz
  ·cases hz;exact run_sound mixed HL0_ok _ _ _ _ _ k157
  ·cases hz
 rw[show Nat.beq f 157=false from Bool.eq_false_iff.2 fun e=>h1 (Nat.eq_of_beq_eq_true e),cond_false]at hz
 by_cases h1:f=178
 ·subst h1
  rw[show Nat.beq 178 178=true from rfl,cond_true]at hz
  unfold hAtoi at hz
  split at hz
  ·split at hz
   ·rename_i hl;cases hz;exact v178 _ _ hl.1 hl.2.1 hl.2.2
   ·cases hz
  ·cases hz
 rw[show Nat.beq f 178=false from Bool.eq_false_iff.2 fun e=>h1 (Nat.eq_of_beq_eq_true e),cond_false]at hz
 by_cases h1:f=69
 ·subst h1
  rw[show Nat.beq 69 69=true from rfl,cond_true]at hz
  unfold hVal at hz
  split at hz
  ·rename_i x y cs a c d
   split at hz
   ·rename_i l hl
    split at hz
    ·rename_i hc
     simp only[Bool.and_eq_true,decide_eq_true_eq,List.all_eq_true]at hc
     obtain⟨⟨⟨⟨c1,c2⟩,c3⟩,c4⟩,c5⟩:=hc
     cases hz
     have ea:a=(a.toNat:Int):=by omega
     have:=v69 x y l a.toNat ⟨c,d⟩ st (by omega) c3 c4 (fun z hz=>(c5 z hz).1) (fun z hz=>by have:=(c5 z hz).2;omega)
     rw[←ea,←rdL_map rdCu_v hl]at this
     exact this
    ·cases hz
   ·cases hz
  ·cases hz
 rw[show Nat.beq f 69=false from Bool.eq_false_iff.2 fun e=>h1 (Nat.eq_of_beq_eq_true e),cond_false]at hz
 by_cases h1:f=68
 ·subst h1
  rw[show Nat.beq 68 68=true from rfl,cond_true]at hz
  unfold hFtp at hz
  split at hz
  ·rename_i x y cs
   split at hz
   ·rename_i l hl
    split at hz
    ·rename_i hc
     cases hz
     have:=v68 HSF_ok (x:=⟨x,y,l⟩) hc (st:=st)
     simp only[Lst.v]at this
     rw[←rdL_map rdCu_v hl]at this
     exact this
    ·cases hz
   ·cases hz
  ·cases hz
 rw[show Nat.beq f 68=false from Bool.eq_false_iff.2 fun e=>h1 (Nat.eq_of_beq_eq_true e),cond_false]at hz
 cases hz
end Go.Proofs.YtdnpaifeoinjoaaGreatDoor

namespace Go.Proofs.YtdnpaifeoinjoaaGreatDoor
open Go.RowKit Go.Shelf
attribute [local go_sem] Oper.semAt_some
theorem lt_cell {W:World}{k i:Nat}{v:Value}(h:W.cell? ⟨k,i,none⟩=some v):k<W.heap.size:=by
 unfold World.cell? at h
 rcases Nat.lt_or_ge k W.heap.size with h1|h1
 ·exact h1
 ·simp[Array.getElem?_eq_none h1]at h
set_option maxRecDepth 100000 in
set_option maxHeartbeats 4000000 in
theorem origin_calls (w : World)(b off len cap a : Nat)(s0 s1 s7 : Nat → ByteArray)(a2 a3 : Nat → Option Addr)(n2 k2 n3 k3 : Nat → Nat)(b5 : Nat → Bool)(i6 i8 : Nat → Int)(bl : Nat → Bool)(v0 v1 : Value)(num : ByteArray)(c d : Int)(hcd : 1 ≤ c ∧ c ≤ 999 ∧ 0 ≤ d ∧ d ≤ 14)(m1 m2 : Nat → Int)(ok : Nat → Bool)(hlen : len * 144 ≤ 140737488351232)(hb : b < w.heap.size)(ha : a < len)
    (hc : ∀ j, j < len → Box9 (fun x => .string (s0 x)) (fun x => .string (s1 x)) (fun x => .slice (a2 x) (n2 x) (k2 x)) (fun x => .slice (a3 x) (n3 x) (k3 x)) bl (fun x => .bool (b5 x)) (fun x => .int .i64 (i6 x)) (fun x => .string (s7 x)) (fun x => .int .i64 (i8 x)) w b (off + j * 9) j)
    (hmove : ∀ x W, Below w.heap.size w W → Calls Tryz.prog 41 #[.agg #[.string (s0 x), .string (s1 x), .slice (a2 x) (n2 x) (k2 x), .slice (a3 x) (n3 x) (k3 x), .bool (bl x), .bool (b5 x), .int .i64 (i6 x), .string (s7 x), .int .i64 (i8 x)], .agg #[.int .i64 c, .int .i64 d]] W fun e W' => e = .returned (.tuple #[.agg #[.int .i64 (m1 x), .int .i64 (m2 x)], .bool (ok x)]) ∧ Below W.heap.size W W')
    (hplace : ∀ W, Below w.heap.size w W → Calls Tryz.prog 32 #[.agg #[v0, v1, .slice (some ⟨b, off, none⟩) len cap], .string num] W fun e W' => e = .returned (.tuple #[.int .i64 a, .int .i64 0]) ∧ Below W.heap.size W W') :
    Calls Tryz.prog 20 #[.agg #[v0, v1, .slice (some ⟨b, off, none⟩) len cap], .string num, .agg #[.int .i64 c, .int .i64 d]] w fun e W' =>
      ((∃ k, k ≤ a + 1 ∧ (∀ x ∈ dnL a k, ok x = false) ∧ (k = a + 1 ∨ 0 < k ∧ bl (a + 1 - k) = true) ∧ (∀ j, 0 < j → j < k → bl (a + 1 - j) = false) ∧ e = .returned (.tuple #[.string ⟨#[]⟩, .bool false, .int .i64 0])) ∨
       (∃ k, k < a + 1 ∧ (∀ x ∈ dnL a k, ok x = false) ∧ ok (a - k) = true ∧ (∀ j, 0 < j → j ≤ k → bl (a + 1 - j) = false) ∧ e = .returned (.tuple #[.string (s0 (a - k)), .bool true, .int .i64 0]))) ∧ Below w.heap.size w W' := by
  have c1 : ¬ c < 1 := by omega
  have c2 : ¬ 999 < c := by omega
  have c3 : ¬ d < 0 := by omega
  have c4 : ¬ 15 ≤ d := by omega
  refine (callsIn_wide (n := 3)).1 ?_
  refine callsIn_of_wp_marks Tryz.func20 rfl trivial ?_ rfl
  simp only [Tryz.ntmps20, List.size_toArray, List.length_cons, List.length_nil, Nat.reduceAdd, Nat.reduceSub, Array.replicate_succ, Array.replicate_zero, List.push_toArray, List.append_toArray, List.nil_append, List.cons_append]
  have h5 : (((((w.alloc (.cells #[v0, v1, .slice (some ⟨b, off, none⟩) len cap] 24)).alloc (.cells #[.int .i64 c, .int .i64 d] 38)).alloc (.cells #[.string ⟨#[]⟩] 9)).alloc (.cells #[.bool false] 4)).alloc (.cells #[.int .i64 0] 31)).heap.size = w.heap.size + 1 + 1 + 1 + 1 + 1 := by simp
  have g0 : (((((w.alloc (.cells #[v0, v1, .slice (some ⟨b, off, none⟩) len cap] 24)).alloc (.cells #[.int .i64 c, .int .i64 d] 38)).alloc (.cells #[.string ⟨#[]⟩] 9)).alloc (.cells #[.bool false] 4)).alloc (.cells #[.int .i64 0] 31)).heap[w.heap.size]? = some (.cells #[v0, v1, .slice (some ⟨b, off, none⟩) len cap] 24) := by
    show (((((w.heap.push _).push _).push _).push _).push _)[_]? = _
    simp only [Array.getElem?_push, Array.size_push]
    rw [if_neg (by omega), if_neg (by omega), if_neg (by omega), if_neg (by omega), if_pos trivial]
  obtain ⟨g1, g2, g3, g4⟩ := heap5 w (.cells #[v0, v1, .slice (some ⟨b, off, none⟩) len cap] 24) (.cells #[.int .i64 c, .int .i64 d] 38) (.cells #[.string ⟨#[]⟩] 9) (.cells #[.bool false] 4) (.cells #[.int .i64 0] 31)
  gi_wp2_with (first | (refine ⟨trivial, ?_⟩; gi_at_call 32; refine (callsIn_wide.2 (hplace _ ((((((Below.refl _ w).alloc (Nat.le_refl _) _).alloc (by simp) _).alloc (by simp; omega) _).alloc (by simp; omega) _).alloc (by simp; omega) _))).mono ?_; rintro e w' ⟨rfl, hBp⟩; have qa : w'.cell? ⟨w.heap.size, 0, none⟩ = some v0 := (hBp.cell (p := ⟨w.heap.size, 0, none⟩) (by simp <;> omega)).trans (cell_at g0); have qb : w'.cell? ⟨w.heap.size, 1, none⟩ = some v1 := (hBp.cell (p := ⟨w.heap.size, 1, none⟩) (by simp <;> omega)).trans (cell_at g0); have qc : w'.cell? ⟨w.heap.size, 2, none⟩ = some (.slice (some ⟨b, off, none⟩) len cap) := (hBp.cell (p := ⟨w.heap.size, 2, none⟩) (by simp <;> omega)).trans (cell_at g0); have q3 : w'.cell? ⟨w.heap.size + 1, 0, none⟩ = some (.int .i64 c) := (hBp.cell (p := ⟨w.heap.size + 1, 0, none⟩) (by simp <;> omega)).trans (cell_at g1); have q4 : w'.cell? ⟨w.heap.size + 1, 1, none⟩ = some (.int .i64 d) := (hBp.cell (p := ⟨w.heap.size + 1, 1, none⟩) (by simp <;> omega)).trans (cell_at g1); have q5 : w'.cell? ⟨w.heap.size + 1 + 1, 0, none⟩ = some (.string ⟨#[]⟩) := (hBp.cell (p := ⟨w.heap.size + 1 + 1, 0, none⟩) (by simp <;> omega)).trans (cell_at g2); have q5f : w'.frozen? ⟨w.heap.size + 1 + 1, 0, none⟩ = false := (froz_below hBp (p := ⟨w.heap.size + 1 + 1, 0, none⟩) (by simp <;> omega)).trans (froz_at g2); have q6 : w'.cell? ⟨w.heap.size + 1 + 1 + 1, 0, none⟩ = some (.bool false) := (hBp.cell (p := ⟨w.heap.size + 1 + 1 + 1, 0, none⟩) (by simp <;> omega)).trans (cell_at g3); have q6f : w'.frozen? ⟨w.heap.size + 1 + 1 + 1, 0, none⟩ = false := (froz_below hBp (p := ⟨w.heap.size + 1 + 1 + 1, 0, none⟩) (by simp <;> omega)).trans (froz_at g3); have q7 : w'.cell? ⟨w.heap.size + 1 + 1 + 1 + 1, 0, none⟩ = some (.int .i64 0) := (hBp.cell (p := ⟨w.heap.size + 1 + 1 + 1 + 1, 0, none⟩) (by simp <;> omega)).trans (cell_at g4); have q7f : w'.frozen? ⟨w.heap.size + 1 + 1 + 1 + 1, 0, none⟩ = false := (froz_below hBp (p := ⟨w.heap.size + 1 + 1 + 1 + 1, 0, none⟩) (by simp <;> omega)).trans (froz_at g4)) | (refine ⟨trivial, ?_⟩; gi_at_call 40; refine (back_in Fence.wide _ trivial rfl _ _ _ _ _).mono ?_; rintro e w'' ⟨rfl, rfl⟩))
  have z1 : decide (c < 1) = false := by simpa using c1
  have z2 : decide (999 < c) = false := by simpa using c2
  have z3 : decide (d < 0) = false := by simpa using c3
  have z4 : decide (15 ≤ d) = false := by simpa using c4
  simp only [z1, z2, z3, z4, Bool.or_false]
  have hs1 : w.heap.size + 1 + 1 + 1 + 1 + 1 ≤ w'.heap.size := by have := hBp.size; rw [h5] at this; exact this
  have hBw : Below w.heap.size w w' := ((((((Below.refl _ w).alloc (Nat.le_refl _) _).alloc (by simp) _).alloc (by simp; omega) _).alloc (by simp; omega) _).alloc (by simp; omega) _).trans (hBp.mono (by rw [h5]; omega))
  have hB1 : Below w'.heap.size w' ((w'.alloc (.cells #[v0, v1, .slice (some ⟨b, off, none⟩) len cap] 24)).alloc (.cells #[.int .i64 a] 3)) := ((Below.refl _ w').alloc (Nat.le_refl _) _).alloc (by simp) _
  have hs0 : ((w'.alloc (.cells #[v0, v1, .slice (some ⟨b, off, none⟩) len cap] 24)).alloc (.cells #[.int .i64 a] 3)).heap.size = w'.heap.size + 1 + 1 := by simp
  have e1 : ((w'.alloc (.cells #[v0, v1, .slice (some ⟨b, off, none⟩) len cap] 24)).alloc (.cells #[.int .i64 a] 3)).heap[w'.heap.size]? = some (.cells #[v0, v1, .slice (some ⟨b, off, none⟩) len cap] 24) := by
    show ((w'.heap.push _).push _)[_]? = _
    simp only [Array.getElem?_push, Array.size_push]
    rw [if_neg (by omega), if_pos trivial]
  have e2 : ((w'.alloc (.cells #[v0, v1, .slice (some ⟨b, off, none⟩) len cap] 24)).alloc (.cells #[.int .i64 a] 3)).heap[w'.heap.size + 1]? = some (.cells #[.int .i64 a] 3) := by
    show ((w'.heap.push _).push _)[_]? = _
    simp only [Array.getElem?_push, Array.size_push]
    rw [if_pos trivial]
  generalize hW0 : ((w'.alloc (.cells #[v0, v1, .slice (some ⟨b, off, none⟩) len cap] 24)).alloc (.cells #[.int .i64 a] 3)) = W0 at *
  have hB0 : Below w.heap.size w W0 := hBw.trans (hB1.mono (by omega))
  have f0 : W0.cell? ⟨w'.heap.size + 1, 0, none⟩ = some (.int .i64 a) := cell_at e2
  have f1 : W0.cell? ⟨w'.heap.size, 2, none⟩ = some (.slice (some ⟨b, off, none⟩) len cap) := cell_at e1
  have f3 := (hB1.cell (p := ⟨w.heap.size + 1, 0, none⟩) (by show w.heap.size + 1 < _; omega)).trans q3
  have f4 := (hB1.cell (p := ⟨w.heap.size + 1, 1, none⟩) (by show w.heap.size + 1 < _; omega)).trans q4
  have f5 := (hB1.cell (p := ⟨w.heap.size + 1 + 1, 0, none⟩) (by show w.heap.size + 1 + 1 < _; omega)).trans q5
  have f5f := (froz_below hB1 (p := ⟨w.heap.size + 1 + 1, 0, none⟩) (by show w.heap.size + 1 + 1 < _; omega)).trans q5f
  have f6 := (hB1.cell (p := ⟨w.heap.size + 1 + 1 + 1, 0, none⟩) (by show w.heap.size + 1 + 1 + 1 < _; omega)).trans q6
  have f6f := (froz_below hB1 (p := ⟨w.heap.size + 1 + 1 + 1, 0, none⟩) (by show w.heap.size + 1 + 1 + 1 < _; omega)).trans q6f
  have f7 := (hB1.cell (p := ⟨w.heap.size + 1 + 1 + 1 + 1, 0, none⟩) (by show w.heap.size + 1 + 1 + 1 + 1 < _; omega)).trans q7
  have f7f := (froz_below hB1 (p := ⟨w.heap.size + 1 + 1 + 1 + 1, 0, none⟩) (by show w.heap.size + 1 + 1 + 1 + 1 < _; omega)).trans q7f
  have hc0 : ∀ j, j < len → Box9 (fun x => .string (s0 x)) (fun x => .string (s1 x)) (fun x => .slice (a2 x) (n2 x) (k2 x)) (fun x => .slice (a3 x) (n3 x) (k3 x)) bl (fun x => .bool (b5 x)) (fun x => .int .i64 (i6 x)) (fun x => .string (s7 x)) (fun x => .int .i64 (i8 x)) W0 b (off + j * 9) j := fun j hj => by
    obtain ⟨d0, d1, d2, d3, d4, d5, d6, d7, d8⟩ := hc j hj
    exact ⟨(hB0.cell (p := ⟨b, _, none⟩) hb).trans d0, (hB0.cell (p := ⟨b, _, none⟩) hb).trans d1, (hB0.cell (p := ⟨b, _, none⟩) hb).trans d2, (hB0.cell (p := ⟨b, _, none⟩) hb).trans d3, (hB0.cell (p := ⟨b, _, none⟩) hb).trans d4, (hB0.cell (p := ⟨b, _, none⟩) hb).trans d5, (hB0.cell (p := ⟨b, _, none⟩) hb).trans d6, (hB0.cell (p := ⟨b, _, none⟩) hb).trans d7, (hB0.cell (p := ⟨b, _, none⟩) hb).trans d8⟩
  refine wpIn_rangeFunc_ownH rfl (by decide) (gf := 79) (lb := #[.pointer (some ⟨w'.heap.size + 1, 0, none⟩), .pointer (some ⟨w'.heap.size, 0, none⟩)]) rfl trivial (enters_of Tryz.func79 (by kernel_rfl) rfl)
    (back_stops Fence.wide _ trivial rfl (by decide) (w'.heap.size + 1) w'.heap.size W0.heap.size b off len cap a (fun x => .string (s0 x)) (fun x => .string (s1 x)) (fun x => .slice (a2 x) (n2 x) (k2 x)) (fun x => .slice (a3 x) (n3 x) (k3 x)) (fun x => .bool (b5 x)) (fun x => .int .i64 (i6 x)) (fun x => .string (s7 x)) (fun x => .int .i64 (i8 x)) bl hlen (by omega) ha W0 (Nat.le_refl _) f0 (by omega) f1 (by omega) hc0)
    belowK_t (belowK_b (Nat.le_refl _)) (Below.refl _ _) (fun _ => rfl)
    (fun pre W => (∀ x ∈ pre, ok x = false) ∧ Below W0.heap.size W0 W)
    (fun c pre W => (c = .ret ∧ ∃ ini last, pre = ini ++ [last] ∧ (∀ x ∈ ini, ok x = false) ∧ ok last = true ∧ W.cell? ⟨w.heap.size + 1 + 1, 0, none⟩ = some (.string (s0 last)) ∧ W.cell? ⟨w.heap.size + 1 + 1 + 1, 0, none⟩ = some (.bool true) ∧ W.cell? ⟨w.heap.size + 1 + 1 + 1 + 1, 0, none⟩ = some (.int .i64 0)) ∧ Below w.heap.size w W)
    (OwnFrom.and (Own.from (fun s A B row hs hg hr => hs) _) (ownFrom_below (Nat.le_refl _) (Nat.le_refl _)))
    (fun c => OwnFrom.and (Own.from (fun s A B row hs hg hr => by obtain ⟨hc, ini, last, e1, e2, e3, e4, e5, e6⟩ := hs; exact ⟨hc, ini, last, e1, e2, e3, cell_kept e4 hg hr, cell_kept e5 hg hr, cell_kept e6 hg hr⟩) _) (ownFrom_below (Nat.le_refl _) (by omega)))
    ⟨by simp, Below.refl _ _⟩
    (fun x a' W => ∃ Bx, w'.heap.size + 1 + 1 ≤ Bx ∧ Box9 (fun x => .string (s0 x)) (fun x => .string (s1 x)) (fun x => .slice (a2 x) (n2 x) (k2 x)) (fun x => .slice (a3 x) (n3 x) (k3 x)) bl (fun x => .bool (b5 x)) (fun x => .int .i64 (i6 x)) (fun x => .string (s7 x)) (fun x => .int .i64 (i8 x)) W Bx 0 x ∧ a' = { tmps := #[.agg #[v0, v1, .slice (some ⟨b, off, none⟩) len cap], .string num, .agg #[.int .i64 c, .int .i64 d], .pointer (some ⟨w.heap.size, 0, none⟩), undef, .pointer (some ⟨w.heap.size + 1, 0, none⟩), .pointer (some ⟨w.heap.size + 1 + 1, 0, none⟩), .pointer (some ⟨w.heap.size + 1 + 1 + 1, 0, none⟩), .pointer (some ⟨w.heap.size + 1 + 1 + 1 + 1, 0, none⟩), .int .i64 a, .int .i64 0, .pointer (some ⟨Bx, 0, none⟩), undef, undef, .tuple #[.int .i64 a, .int .i64 0], .agg #[v0, v1, .slice (some ⟨b, off, none⟩) len cap], .string num, .tuple #[.int .i64 a, .int .i64 0], .int .i64 a, .int .i64 0, .int .i64 0, .bool false, undef, .pointer (some ⟨w.heap.size + 1, 0, none⟩), .int .i64 c, .bool false, .bool false, .pointer (some ⟨w.heap.size + 1, 0, none⟩), .int .i64 c, .bool false, .bool false, .bool false, .pointer (some ⟨w.heap.size + 1, 1, none⟩), .int .i64 d, .bool false, .bool false, .bool false, .pointer (some ⟨w.heap.size + 1, 1, none⟩), .int .i64 d, .bool false, .bool false, .agg #[v0, v1, .slice (some ⟨b, off, none⟩) len cap], .int .i64 a, .func (.func 79) #[] #[.pointer (some ⟨w'.heap.size + 1, 0, none⟩), .pointer (some ⟨w'.heap.size, 0, none⟩)], .agg #[.string (s0 x), .string (s1 x), .slice (a2 x) (n2 x) (k2 x), .slice (a3 x) (n3 x) (k3 x), .bool (bl x), .bool (b5 x), .int .i64 (i6 x), .string (s7 x), .int .i64 (i8 x)], undef, undef, undef, undef, undef, undef, undef, undef, undef], defers := [] })
    (fun x a' => Own.from (fun s A B row hs hg hr => by
      obtain ⟨Bx, h1, ⟨d0, d1, d2, d3, d4, d5, d6, d7, d8⟩, h3⟩ := hs
      exact ⟨Bx, h1, ⟨cell_kept d0 hg hr, cell_kept d1 hg hr, cell_kept d2 hg hr, cell_kept d3 hg hr, cell_kept d4 hg hr, cell_kept d5 hg hr, cell_kept d6 hg hr, cell_kept d7 hg hr, cell_kept d8 hg hr⟩, h3⟩) _) ?assign ?body ?done ?stop
  case assign =>
    rintro l pre x W K hi hK
    gi_wp2
    refine hK _ _ ((KeepsOthers.alloc _ _).from _) ((Below.refl _ W).alloc hi.2.size _) ⟨hi.1, hi.2.alloc hi.2.size _⟩ ⟨W.heap.size, by have := hi.2.size; omega, ?_, rfl⟩
    have hn := World.alloc_heap_new W (.cells #[.string (s0 x), .string (s1 x), .slice (a2 x) (n2 x) (k2 x), .slice (a3 x) (n3 x) (k3 x), .bool (bl x), .bool (b5 x), .int .i64 (i6 x), .string (s7 x), .int .i64 (i8 x)] 30)
    exact ⟨cell_at hn, cell_at hn, cell_at hn, cell_at hn, cell_at hn, cell_at hn, cell_at hn, cell_at hn, cell_at hn⟩
  case body =>
    rintro l pre x a' W hl ⟨r, hr⟩ ⟨hp, hB⟩ ⟨Bx, hBx, ⟨d0, d1, d2, d3, d4, d5, d6, d7, d8⟩, rfl⟩ hlt
    simp only [Nat.zero_add] at d1 d2 d3 d4 d5 d6 d7 d8
    have hBw2 : Below w.heap.size w W := hB0.trans (hB.mono (by omega))
    have q3 := (hB.cell (p := ⟨w.heap.size + 1, 0, none⟩) (by show w.heap.size + 1 < _; omega)).trans f3
    have q4 := (hB.cell (p := ⟨w.heap.size + 1, 1, none⟩) (by show w.heap.size + 1 < _; omega)).trans f4
    gi_wp2_with (refine ⟨trivial, ?_⟩; gi_at_call 41; refine (CallsIn.inRound l (callsIn_wide.2 (hmove x W hBw2))).mono ?_; rintro e w'' ⟨rfl, hBm⟩; have hs3 := hB.size; have hs4 := hBm.size; have hB3 : Below W0.heap.size W0 w'' := hB.trans (hBm.mono hs3); have r5 : ∀ o, (w''.alloc o).cell? ⟨w.heap.size + 1 + 1, 0, none⟩ = some _ := fun o => ((hB3.alloc (by omega) o).cell (p := ⟨w.heap.size + 1 + 1, 0, none⟩) (by show w.heap.size + 1 + 1 < _; omega)).trans f5; have r5f : ∀ o, (w''.alloc o).frozen? ⟨w.heap.size + 1 + 1, 0, none⟩ = false := fun o => (froz_below (hB3.alloc (by omega) o) (p := ⟨w.heap.size + 1 + 1, 0, none⟩) (by show w.heap.size + 1 + 1 < _; omega)).trans f5f; have r6 : ∀ o, (w''.alloc o).cell? ⟨w.heap.size + 1 + 1 + 1, 0, none⟩ = some _ := fun o => ((hB3.alloc (by omega) o).cell (p := ⟨w.heap.size + 1 + 1 + 1, 0, none⟩) (by show w.heap.size + 1 + 1 + 1 < _; omega)).trans f6; have r6f : ∀ o, (w''.alloc o).frozen? ⟨w.heap.size + 1 + 1 + 1, 0, none⟩ = false := fun o => (froz_below (hB3.alloc (by omega) o) (p := ⟨w.heap.size + 1 + 1 + 1, 0, none⟩) (by show w.heap.size + 1 + 1 + 1 < _; omega)).trans f6f; have r7 : ∀ o, (w''.alloc o).cell? ⟨w.heap.size + 1 + 1 + 1 + 1, 0, none⟩ = some _ := fun o => ((hB3.alloc (by omega) o).cell (p := ⟨w.heap.size + 1 + 1 + 1 + 1, 0, none⟩) (by show w.heap.size + 1 + 1 + 1 + 1 < _; omega)).trans f7; have r7f : ∀ o, (w''.alloc o).frozen? ⟨w.heap.size + 1 + 1 + 1 + 1, 0, none⟩ = false := fun o => (froz_below (hB3.alloc (by omega) o) (p := ⟨w.heap.size + 1 + 1 + 1 + 1, 0, none⟩) (by show w.heap.size + 1 + 1 + 1 + 1 < _; omega)).trans f7f; have d0' : ∀ o, (w''.alloc o).cell? ⟨Bx, 0, none⟩ = some (.string (s0 x)) := fun o => (((hBm.alloc hs4 o).cell (p := ⟨Bx, 0, none⟩) (lt_cell d0))).trans d0)
    all_goals first
      | (have hx : ok x = false := by first | assumption | simpa using (by assumption : ¬ ok x = true)
         exact ⟨((keeps_below hBm).trans (KeepsOthers.alloc _ _)).from _, (hBm.mono hs3).alloc (by omega) _, ⟨fun y hy => (List.mem_append.1 hy).elim (hp y) (fun e => by rw [List.mem_singleton.1 e]; exact hx), hB3.alloc (by omega) _⟩⟩)
      | skip
    have hx : ok x = true := by first | assumption | simpa using (by assumption : ¬ ok x = false)
    refine ⟨((keeps_below hBm).trans ((KeepsOthers.alloc _ _).trans ((KeepsOthers.setCell _ _ _).trans ((KeepsOthers.setCell _ _ _).trans (KeepsOthers.setCell _ _ _))))).from _, ⟨rfl, pre, x, rfl, hp, hx, ?_, ?_, ?_⟩, ?_⟩
    · exact (World.cell?_setCell_other _ _ _ _ (by simp)).trans ((World.cell?_setCell_other _ _ _ _ (by simp)).trans (World.cell?_setCell_same' _ _ _ (by rw [r5]; rfl)))
    · exact (World.cell?_setCell_other _ _ _ _ (by simp)).trans (World.cell?_setCell_same' _ _ _ (by rw [World.cell?_setCell_other _ _ _ _ (by simp), r6]; rfl))
    · exact World.cell?_setCell_same' _ _ _ (by rw [World.cell?_setCell_other _ _ _ _ (by simp), World.cell?_setCell_other _ _ _ _ (by simp), r7]; rfl)
    · exact ((((hBw2.trans (hBm.mono hBw2.size)).alloc (by omega) _).setCell (p := ⟨w.heap.size + 1 + 1, 0, none⟩) (by show _ ≤ w.heap.size + 1 + 1; omega) _).setCell (p := ⟨w.heap.size + 1 + 1 + 1, 0, none⟩) (by show _ ≤ w.heap.size + 1 + 1 + 1; omega) _).setCell (p := ⟨w.heap.size + 1 + 1 + 1 + 1, 0, none⟩) (by show _ ≤ w.heap.size + 1 + 1 + 1 + 1; omega) _
  case done =>
    rintro D ys W hD ⟨k, h1, rfl, h2, h3⟩ ⟨hp, hB⟩ hK
    have hs3 := hB.size
    have r5 := (hB.cell (p := ⟨w.heap.size + 1 + 1, 0, none⟩) (by show w.heap.size + 1 + 1 < _; omega)).trans f5
    have r5f := (froz_below hB (p := ⟨w.heap.size + 1 + 1, 0, none⟩) (by show w.heap.size + 1 + 1 < _; omega)).trans f5f
    have r6 := (hB.cell (p := ⟨w.heap.size + 1 + 1 + 1, 0, none⟩) (by show w.heap.size + 1 + 1 + 1 < _; omega)).trans f6
    have r6f := (froz_below hB (p := ⟨w.heap.size + 1 + 1 + 1, 0, none⟩) (by show w.heap.size + 1 + 1 + 1 < _; omega)).trans f6f
    have r7 := (hB.cell (p := ⟨w.heap.size + 1 + 1 + 1 + 1, 0, none⟩) (by show w.heap.size + 1 + 1 + 1 + 1 < _; omega)).trans f7
    have r7f := (froz_below hB (p := ⟨w.heap.size + 1 + 1 + 1 + 1, 0, none⟩) (by show w.heap.size + 1 + 1 + 1 + 1 < _; omega)).trans f7f
    gi_wp2
    have hK1 := (KeepsOthers.setCell W ⟨w.heap.size + 1 + 1, 0, none⟩ (.string ⟨#[]⟩)).same D _ hK rfl
    have hK2 := (KeepsOthers.setCell (W.setCell ⟨w.heap.size + 1 + 1, 0, none⟩ (.string ⟨#[]⟩)) ⟨w.heap.size + 1 + 1 + 1, 0, none⟩ (.bool false)).same D _ hK1 rfl
    have hK' := (KeepsOthers.setCell ((W.setCell ⟨w.heap.size + 1 + 1, 0, none⟩ (.string ⟨#[]⟩)).setCell ⟨w.heap.size + 1 + 1 + 1, 0, none⟩ (.bool false)) ⟨w.heap.size + 1 + 1 + 1 + 1, 0, none⟩ (.int .i64 0)).same D _ hK2 rfl
    refine ⟨by simp, .inl ⟨_, _, rfl, run_takeDeferred hK', ?_⟩⟩
    have k0 : (((W.setCell ⟨w.heap.size + 1 + 1, 0, none⟩ (.string ⟨#[]⟩)).setCell ⟨w.heap.size + 1 + 1 + 1, 0, none⟩ (.bool false)).setCell ⟨w.heap.size + 1 + 1 + 1 + 1, 0, none⟩ (.int .i64 0)).cell? ⟨w.heap.size + 1 + 1, 0, none⟩ = some (.string ⟨#[]⟩) :=
      (World.cell?_setCell_other _ _ _ _ (by simp)).trans ((World.cell?_setCell_other _ _ _ _ (by simp)).trans (World.cell?_setCell_same' _ _ _ (by rw [r5]; rfl)))
    have k1 : (((W.setCell ⟨w.heap.size + 1 + 1, 0, none⟩ (.string ⟨#[]⟩)).setCell ⟨w.heap.size + 1 + 1 + 1, 0, none⟩ (.bool false)).setCell ⟨w.heap.size + 1 + 1 + 1 + 1, 0, none⟩ (.int .i64 0)).cell? ⟨w.heap.size + 1 + 1 + 1, 0, none⟩ = some (.bool false) :=
      (World.cell?_setCell_other _ _ _ _ (by simp)).trans (World.cell?_setCell_same' _ _ _ (by rw [World.cell?_setCell_other _ _ _ _ (by simp), r6]; rfl))
    have k2 : (((W.setCell ⟨w.heap.size + 1 + 1, 0, none⟩ (.string ⟨#[]⟩)).setCell ⟨w.heap.size + 1 + 1 + 1, 0, none⟩ (.bool false)).setCell ⟨w.heap.size + 1 + 1 + 1 + 1, 0, none⟩ (.int .i64 0)).cell? ⟨w.heap.size + 1 + 1 + 1 + 1, 0, none⟩ = some (.int .i64 0) :=
      World.cell?_setCell_same' _ _ _ (by rw [World.cell?_setCell_other _ _ _ _ (by simp), World.cell?_setCell_other _ _ _ _ (by simp), r7]; rfl)
    have hc5 := cell_kept k0 (grownBy_putObj' _ D (.deferred none)) (fun r e => by cases e; exact ⟨_, hK', rfl⟩)
    have hc6 := cell_kept k1 (grownBy_putObj' _ D (.deferred none)) (fun r e => by cases e; exact ⟨_, hK', rfl⟩)
    have hc7 := cell_kept k2 (grownBy_putObj' _ D (.deferred none)) (fun r e => by cases e; exact ⟨_, hK', rfl⟩)
    refine ⟨.tuple #[.string ⟨#[]⟩, .bool false, .int .i64 0], ?_, .inl ⟨k, h1, hp, h2, h3, rfl⟩, ((((hB0.trans (hB.mono (by omega))).setCell (p := ⟨w.heap.size + 1 + 1, 0, none⟩) (by show _ ≤ w.heap.size + 1 + 1; omega) _).setCell (p := ⟨w.heap.size + 1 + 1 + 1, 0, none⟩) (by show _ ≤ w.heap.size + 1 + 1 + 1; omega) _).setCell (p := ⟨w.heap.size + 1 + 1 + 1 + 1, 0, none⟩) (by show _ ≤ w.heap.size + 1 + 1 + 1 + 1; omega) _).trans (belowK_b (w := w) (Nat.le_refl _) _ D _ _ (by omega) hK' rfl rfl)⟩
    simp [results, Tryz.f20, go_sem, hc5, hc6, hc7]
  case stop =>
    rintro D c pre W hD ⟨k, h1, rfl, h2⟩ ⟨⟨rfl, ini, last, e1, e2, e3, e4, e5, e6⟩, hB⟩ hK
    gi_wp2
    obtain ⟨k', rfl⟩ : ∃ k', k = k' + 1 := by
      cases k with
      | zero => simp [dnL] at e1
      | succ k' => exact ⟨k', rfl⟩
    rw [dnL_succ] at e1
    obtain ⟨rfl, e7⟩ := List.append_inj' e1 rfl
    obtain rfl : a - k' = last := by simpa using e7
    refine ⟨by simp, .inl ⟨_, _, rfl, run_takeDeferred hK, ?_⟩⟩
    have hc5 := cell_kept e4 (grownBy_putObj' _ D (.deferred none)) (fun r e => by cases e; exact ⟨_, hK, rfl⟩)
    have hc6 := cell_kept e5 (grownBy_putObj' _ D (.deferred none)) (fun r e => by cases e; exact ⟨_, hK, rfl⟩)
    have hc7 := cell_kept e6 (grownBy_putObj' _ D (.deferred none)) (fun r e => by cases e; exact ⟨_, hK, rfl⟩)
    refine ⟨.tuple #[.string (s0 (a - k')), .bool true, .int .i64 0], ?_, .inr ⟨k', by omega, e2, e3, fun j h3 h4 => h2 j h3 (by omega), rfl⟩, hB.trans (belowK_b (w := w) (Nat.le_refl _) W D _ _ (by omega) hK rfl rfl)⟩
    simp [results, Tryz.f20, go_sem, hc5, hc6, hc7]
end Go.Proofs.YtdnpaifeoinjoaaGreatDoor

namespace Go.Proofs.YtdnpaifeoinjoaaGreatDoor
open Go.Sha Go.RowKit
set_option maxRecDepth 100000
def oriF (l:List Cu)(q:Prm):Nat→Option (List UInt8)
 |0=>if(movF (l.getD 0 default).moves q).isSome then some (l.getD 0 default).num else none
 |a+1=>if(movF (l.getD (a+1) default).moves q).isSome then some (l.getD (a+1) default).num else if(l.getD (a+1) default).block then none else oriF l q a
def oriV:Option (List UInt8)→V
 |none=>.tup [.str [],.bool false,.int .i64 0]
 |some s=>.tup [.str s,.bool true,.int .i64 0]
theorem oriF_at {l:List Cu}{q:Prm}:∀{a k:Nat},k≤a→(∀j,j<k→movF (l.getD (a-j) default).moves q=none∧(l.getD (a-j) default).block=false)→oriF l q a=oriF l q (a-k)
 |a,0,_,_=>rfl
 |0,k+1,h,_=>by omega
 |a+1,k+1,h,hj=>by
  obtain⟨h1,h2⟩:=hj 0 (by omega)
  simp only[Nat.sub_zero]at h1 h2
  rw[oriF,h1,h2]
  simp only[Bool.false_eq_true,if_false,Option.isSome_none]
  rw[oriF_at (a:=a) (k:=k) (by omega) (fun j hjk=>by have:=hj (j+1) (by omega);rwa [show a+1-(j+1)=a-j by omega]at this)]
  congr 1;omega
theorem ori_rep {w:World}{A:Abs}{s:List UInt8}{b:Bool}:Rep w A (.tuple #[.string ⟨s.toArray⟩,.bool b,.int .i64 0]) (.tup [.str s,.bool b,.int .i64 0]):=by
 refine Rep.tup [.string ⟨s.toArray⟩,.bool b,.int .i64 0] _ rfl (fun i v d h4 h5=>?_)
 match i,h4,h5 with
 |0,h4,h5=>simp at h4 h5;subst h4 h5;exact .str _
 |1,h4,h5=>simp at h4 h5;subst h4 h5;exact .bool _
 |2,h4,h5=>simp at h4 h5;subst h4 h5;exact .int _ _
 |n+3,h4,h5=>simp at h4
theorem callable20:Callable Tryz.prog 20:=⟨_,Tryz.func20,by kernel_rfl,by kernel_rfl⟩
theorem v20 {x:Lst}(hx:x.ok)(hP:lstP x=0){q:Prm}(hq1:prmC 1 q=0){s:List UInt8}(hsl:s.length<140737488355328)(hp:plcE x s=0)(st:St) :
  VRet Tryz.prog 20 [x.v,.str s,q.v] st (oriV (oriF x.cues q (plcV x s).toNat)) st:=by
 have h64:=(lst_parts hP).2.2.1
 have hm64:=lst_mov hP
 obtain⟨p1,ha⟩:=plc_at hp
 have hpV:plcV x s=(((plcV x s).toNat:Nat):Int):=by omega
 have hV32:VRet Tryz.prog 32 [x.v,.str s] st0 (.tup [.int .i64 (((plcV x s).toNat:Nat):Int),.int .i64 0]) st0:=by
  have:=run_sound mixed HH_ok _ _ _ _ _ (f32 (st:=st0) hx hsl)
  rw[hp]at this
  rw[←hpV]
  exact this
 have hq:okP q=true:=okP_of (prm_rng hq1)
 have hm:∀c∈x.cues,okMs c.moves=true:=fun c hc=>okMs_of (hm64 c hc).2.1 (hm64 c hc).2.2
 have hml:∀c∈x.cues,c.moves.length<140737488355328:=fun c hc=>by have:=(hm64 c hc).1;omega
 have hrng:=prm_rng hq1
 generalize (plcV x s).toNat=a at *
 obtain⟨nm,pr,l⟩:=x
 simp only[Lst.v]at *
 refine VRet_of_below callable20 (fun w A vs hw hv=>?_)
 obtain⟨u0,u1,u2,rfl,r0,r1,r2⟩:∃u0 u1 u2,vs=[u0,u1,u2]∧Rep w A u0 (.agg [.int .i64 nm,.int .i64 pr,.sl (l.map Cu.v)])∧Rep w A u1 (.str s)∧Rep w A u2 (.agg [.int .i64 q.chan,.int .i64 q.attr]):=by
  obtain⟨hlen,hr⟩:=hv
  match vs,hlen,hr with
  |[u0,u1,u2],_,hr=>exact⟨u0,u1,u2,rfl,hr 0 _ _ rfl rfl,hr 1 _ _ rfl rfl,hr 2 _ _ rfl rfl⟩
 obtain rfl:=r1.str_inv
 obtain rfl:=prm_inv r2
 obtain⟨us,rfl,hus,_,hur⟩:=r0.agg_inv
 obtain⟨t0,t1,t2,rfl⟩:∃t0 t1 t2,us=[t0,t1,t2]:=by
  match us,hus with
  |[t0,t1,t2],_=>exact⟨t0,t1,t2,rfl⟩
 have hne:l≠[]:=by intro e;rw[e]at ha;simp at ha
 obtain⟨b,o,cap,cell,rfl,hc⟩:=cues_at (hur 2 _ _ rfl rfl) hne
 have hget:∀j,j<l.length→l[j]?=some (l.getD j default):=fun j hj=>by rw[List.getD_eq_getElem?_getD,List.getElem?_eq_getElem hj];rfl
 have hb:b<w.heap.size:=hw.Clt _ _ (hc a _ (hget a ha) 0 _ rfl).1
 have hs:∀j,∃a2:Option Addr,∃n2 k2:Nat,∃a3:Option Addr,∃n3 k3:Nat,(j<l.length→w.cell? ⟨b,o+j*9+2,none⟩=some (.slice a2 n2 k2)∧w.cell? ⟨b,o+j*9+3,none⟩=some (.slice a3 n3 k3))∧Rep w A (.slice a2 n2 k2) (.sl ((l.getD j default).moves.map Mov.v))∧Rep w A (.slice a3 n3 k3) (.sl ((l.getD j default).parts.map Tim.v)):=fun j=>by
  by_cases hj:j<l.length
  ·obtain⟨_,g2,g3⟩:=hc j _ (hget j hj) 2 _ rfl
   obtain⟨_,g4,g5⟩:=hc j _ (hget j hj) 3 _ rfl
   obtain⟨a2,n2,k2,e2⟩:=rep_sl g3
   obtain⟨a3,n3,k3,e3⟩:=rep_sl g5
   rw[e2]at g2 g3
   rw[e3]at g4 g5
   exact⟨a2,n2,k2,a3,n3,k3,fun _=>⟨by rw[Nat.add_assoc];exact g2,by rw[Nat.add_assoc];exact g4⟩,g3,g5⟩
  ·have e:l.getD j default=default:=by rw[List.getD_eq_getElem?_getD,List.getElem?_eq_none (by omega)];rfl
   rw[e]
   exact⟨none,0,0,none,0,0,fun h=>absurd h hj,.slnil _,.slnil _⟩
 obtain⟨a2,hs⟩:=Classical.axiomOfChoice hs
 obtain⟨n2,hs⟩:=Classical.axiomOfChoice hs
 obtain⟨k2,hs⟩:=Classical.axiomOfChoice hs
 obtain⟨a3,hs⟩:=Classical.axiomOfChoice hs
 obtain⟨n3,hs⟩:=Classical.axiomOfChoice hs
 obtain⟨k3,hs⟩:=Classical.axiomOfChoice hs
 have hok:∀j,okMs (l.getD j default).moves=true∧(l.getD j default).moves.length<140737488355328:=fun j=>by
  by_cases hj:j<l.length
  ·have:=List.mem_of_getElem? (hget j hj)
   exact⟨hm _ this,hml _ this⟩
  ·have e:l.getD j default=default:=by rw[List.getD_eq_getElem?_getD,List.getElem?_eq_none (by omega)];rfl
   rw[e];exact⟨rfl,by decide⟩
 have hmove:∀j W,Below w.heap.size w W→Calls Tryz.prog 41 #[.agg #[.string ⟨(l.getD j default).num.toArray⟩,.string ⟨(l.getD j default).label.toArray⟩,.slice (a2 j) (n2 j) (k2 j),.slice (a3 j) (n3 j) (k3 j),.bool (l.getD j default).block,.bool (l.getD j default).mark,.int .i64 (l.getD j default).follow,.string ⟨(l.getD j default).link.toArray⟩,.int .i64 (l.getD j default).loops],.agg #[.int .i64 q.chan,.int .i64 q.attr]] W fun e W' =>
   e=.returned (.tuple #[.agg #[.int .i64 ((movF (l.getD j default).moves q).getD ⟨-1,0⟩).pal,.int .i64 ((movF (l.getD j default).moves q).getD ⟨-1,0⟩).lev],.bool (movF (l.getD j default).moves q).isSome])∧Below W.heap.size W W':=fun j W hB=>by
  obtain⟨_,g2,g3⟩:=hs j
  have hx:=Ext.below hw hB
  have hwW:=hw.below hB
  have h0:Reps W A [.agg #[.string ⟨(l.getD j default).num.toArray⟩,.string ⟨(l.getD j default).label.toArray⟩,.slice (a2 j) (n2 j) (k2 j),.slice (a3 j) (n3 j) (k3 j),.bool (l.getD j default).block,.bool (l.getD j default).mark,.int .i64 (l.getD j default).follow,.string ⟨(l.getD j default).link.toArray⟩,.int .i64 (l.getD j default).loops],.agg #[.int .i64 q.chan,.int .i64 q.attr]] [(l.getD j default).v,q.v] :=
   ⟨rfl,fun i v c h1 h2=>by
    match i,h1,h2 with
    |0,h1,h2=>simp at h1 h2;subst h1 h2;exact agg9 (g2.mono hx) (g3.mono hx)
    |1,h1,h2=>simp at h1 h2;subst h1 h2;exact prm_rep
    |n+2,h1,h2=>simp at h1⟩
  have h1:=h0.data (B:=abs0 W) (fun b o h=>hwW.Clt b o h) (by simp[V.bdL,Cu.bd,Prm.bd])
  have hV:VRet Tryz.prog 41 [(l.getD j default).v,q.v] st0 (.tup [((movF (l.getD j default).moves q).getD ⟨-1,0⟩).v,.bool (movF (l.getD j default).moves q).isSome]) st0:=run_sound mixed HN0_ok _ _ _ _ _ (f41 (hok j).1 hq (hok j).2)
  refine(calls_of Tryz.func41 (by kernel_rfl) (by kernel_rfl) hV h1).mono fun e W' ⟨⟨v,A',he,hr⟩,hb⟩=>⟨?_,hb⟩
  obtain⟨ws,rfl,hws,hwr⟩:=hr.tup_inv
  obtain⟨y0,y1,rfl⟩:∃y0 y1,ws=[y0,y1]:=by
   match ws,hws with
   |[y0,y1],_=>exact⟨y0,y1,rfl⟩
  obtain rfl:=prm_inv (hwr 0 _ _ rfl rfl)
  obtain rfl:=(hwr 1 _ _ rfl rfl).bool_inv
  exact he
 have hplace:∀W,Below w.heap.size w W→Calls Tryz.prog 32 #[.agg #[t0,t1,.slice (some ⟨b,o,none⟩) l.length cap],.string ⟨s.toArray⟩] W fun e W'=>e=.returned (.tuple #[.int .i64 a,.int .i64 0])∧Below W.heap.size W W':=fun W hB=>by
  have hx:=Ext.below hw hB
  have hwW:=hw.below hB
  have h0:Reps W A [.agg #[t0,t1,.slice (some ⟨b,o,none⟩) l.length cap],.string ⟨s.toArray⟩] [.agg [.int .i64 nm,.int .i64 pr,.sl (l.map Cu.v)],.str s] :=
   ⟨rfl,fun i v c h1 h2=>by
    match i,h1,h2 with
    |0,h1,h2=>simp at h1 h2;subst h1 h2;exact r0.mono hx
    |1,h1,h2=>simp at h1 h2;subst h1 h2;exact .str _
    |n+2,h1,h2=>simp at h1⟩
  have h1:=h0.data (B:=abs0 W) (fun b o h=>hwW.Clt b o h) (by simp[V.bdL,V.bd,bdL_map'])
  refine(calls_of Tryz.func32 (by kernel_rfl) (by kernel_rfl) hV32 h1).mono fun e W' ⟨⟨v,A',he,hr⟩,hb⟩=>⟨?_,hb⟩
  obtain⟨ws,rfl,hws,hwr⟩:=hr.tup_inv
  obtain⟨y0,y1,rfl⟩:∃y0 y1,ws=[y0,y1]:=by
   match ws,hws with
   |[y0,y1],_=>exact⟨y0,y1,rfl⟩
  obtain rfl:=(hwr 0 _ _ rfl rfl).int_inv
  obtain rfl:=(hwr 1 _ _ rfl rfl).int_inv
  exact he
 have hbox:∀j,j<l.length→Box9 (fun x=>.string ⟨(l.getD x default).num.toArray⟩) (fun x=>.string ⟨(l.getD x default).label.toArray⟩) (fun x=>.slice (a2 x) (n2 x) (k2 x)) (fun x=>.slice (a3 x) (n3 x) (k3 x)) (fun x=>(l.getD x default).block) (fun x=>.bool (l.getD x default).mark) (fun x=>.int .i64 (l.getD x default).follow) (fun x=>.string ⟨(l.getD x default).link.toArray⟩) (fun x=>.int .i64 (l.getD x default).loops) w b (o+j*9) j:=fun j hj=>by
  have hg:=hget j hj
  obtain⟨_,e0,d0⟩:=hc j _ hg 0 _ rfl
  obtain⟨_,e1,d1⟩:=hc j _ hg 1 _ rfl
  obtain⟨_,e4,d4⟩:=hc j _ hg 4 _ rfl
  obtain⟨_,e5,d5⟩:=hc j _ hg 5 _ rfl
  obtain⟨_,e6,d6⟩:=hc j _ hg 6 _ rfl
  obtain⟨_,e7,d7⟩:=hc j _ hg 7 _ rfl
  obtain⟨_,e8,d8⟩:=hc j _ hg 8 _ rfl
  rw[d0.str_inv]at e0
  rw[d1.str_inv]at e1
  rw[d4.bool_inv]at e4
  rw[d5.bool_inv]at e5
  rw[d6.int_inv]at e6
  rw[d7.str_inv]at e7
  rw[d8.int_inv]at e8
  obtain⟨e2,e3⟩:=(hs j).1 hj
  simp only[←Nat.add_assoc,Nat.add_zero]at e0 e1 e4 e5 e6 e7 e8
  exact⟨e0,e1,e2,e3,e4,e5,e6,e7,e8⟩
 have hcd:1≤q.chan∧q.chan≤999∧0≤q.attr∧q.attr≤14:=by
  unfold prmC at hq1;split at hq1
  ·cases hq1
  ·omega
 refine(origin_calls w b o l.length cap a (fun x=>⟨(l.getD x default).num.toArray⟩) (fun x=>⟨(l.getD x default).label.toArray⟩) (fun x=>⟨(l.getD x default).link.toArray⟩) a2 a3 n2 k2 n3 k3 (fun x=>(l.getD x default).mark) (fun x=>(l.getD x default).follow) (fun x=>(l.getD x default).loops) (fun x=>(l.getD x default).block) t0 t1 ⟨s.toArray⟩ q.chan q.attr hcd
  (fun x=>((movF (l.getD x default).moves q).getD ⟨-1,0⟩).pal) (fun x=>((movF (l.getD x default).moves q).getD ⟨-1,0⟩).lev) (fun x=>(movF (l.getD x default).moves q).isSome) (by omega) hb ha hbox hmove hplace).mono fun e W' ⟨he,hB⟩=>?_
 have hmem:∀{k j:Nat},j<k→(a-j)∈dnL a k:=fun {k j} hj=>by unfold dnL;exact List.mem_map.2 ⟨j,List.mem_range.2 hj,rfl⟩
 rcases he with⟨k,h1,h2,h3,h4,rfl⟩|⟨k,h1,h2,h3,h4,rfl⟩
 ·refine⟨_,rfl,fun w' A'=>?_,hB⟩
  have hk0:0<k:=by rcases h3 with h3|h3<;>omega
  have hn:∀j,j<k→movF (l.getD (a-j) default).moves q=none:=fun j hj=>by
   have:=h2 _ (hmem hj)
   cases hx:movF (l.getD (a-j) default).moves q with
   |none=>rfl
   |some v=>rw[hx]at this;simp at this
  have e1:=oriF_at (l:=l) (q:=q) (a:=a) (k:=k-1) (by omega) (fun j hj=>⟨hn j (by omega),by have:=h4 (j+1) (by omega) (by omega);rwa [show a+1-(j+1)=a-j by omega]at this⟩)
  have e2:oriF l q (a-(k-1))=none:=by
   have hz:=hn (k-1) (by omega)
   cases hy:a-(k-1) with
   |zero=>rw[oriF];rw[hy]at hz;rw[hz];rfl
   |succ y =>
    rw[hy]at hz
    rw[oriF,hz]
    rcases h3 with h3|⟨_,h3⟩
    ·omega
    ·rw[show a+1-k=y+1 by omega]at h3
     simp only[h3,if_true,Option.isSome_none,Bool.false_eq_true,if_false]
  rw[e1,e2]
  exact ori_rep (s:=[]) (b:=false)
 ·refine⟨_,rfl,fun w' A'=>?_,hB⟩
  have hn:∀j,j<k→movF (l.getD (a-j) default).moves q=none:=fun j hj=>by
   have:=h2 _ (hmem hj)
   cases hx:movF (l.getD (a-j) default).moves q with
   |none=>rfl
   |some v=>rw[hx]at this;simp at this
  have e1:=oriF_at (l:=l) (q:=q) (a:=a) (k:=k) (by omega) (fun j hj=>⟨hn j hj,by have:=h4 (j+1) (by omega) (by omega);rwa [show a+1-(j+1)=a-j by omega]at this⟩)
  rw[e1]
  have e2:oriF l q (a-k)=some (l.getD (a-k) default).num:=by
   cases hy:a-k with
   |zero=>rw[oriF,←hy,if_pos h3]
   |succ y=>rw[oriF,←hy,if_pos h3]
  rw[e2]
  exact ori_rep (s:=(l.getD (a-k) default).num) (b:=true)
def okCu (c:Cu):Bool:=decide (c.num.length<140737488355328)&&decide (c.label.length<140737488355328)&&decide (c.moves.length<140737488355328)&&decide (c.parts.length<140737488355328)&&decide (c.link.length<140737488355328)
def okLst (l:List Cu):Bool:=decide (l.length<140737488355328)&&l.all okCu
theorem okLst_iff {x:Lst}:okLst x.cues=true↔x.ok:=by
 simp only[okLst,okCu,Bool.and_eq_true,decide_eq_true_eq,List.all_eq_true]
 exact⟨fun h=>⟨h.1,fun c hc=>by obtain⟨⟨⟨⟨a,b⟩,c⟩,d⟩,e⟩:=h.2 c hc;exact⟨a,b,c,d,e⟩⟩,fun h=>⟨h.a,fun c hc=>by have:=h.b c hc;exact⟨⟨⟨⟨this.a,this.b⟩,this.c⟩,this.d⟩,this.e⟩⟩⟩
def hOri:List V→Option VRes
 |[.agg [.int .i64 n,.int .i64 p,.sl cs],.str s,.agg [.int .i64 c,.int .i64 d]]=>match rdL rdCu cs with
  |some l=>if okLst l&&decide (s.length<140737488355328)&&decide (lstP ⟨n,p,l⟩=0)&&decide (plcE ⟨n,p,l⟩ s=0)&&decide (prmC 1 ⟨c,d⟩=0) then some (.ret (oriV (oriF l ⟨c,d⟩ (plcV ⟨n,p,l⟩ s).toNat))) else none
  |none=>none
 |_=>none
def flat1:V→Bool
 | .int _ _ | .bool _ | .str _=>true
 |_=>false
def flatT:V→Bool
 | .tup vs=>vs.all flat1
 |v=>flat1 v
theorem flat1_rep {w w':World}{A A':Abs}{v:Value}{r:V}(hf:flat1 r=true)(h:Rep w A v r):Rep w' A' v r:=by
 cases r with
 |int k n=>rw[h.int_inv];exact .int _ _
 |bool b=>rw[h.bool_inv];exact .bool _
 |str s=>rw[h.str_inv];exact .str _
 |_=>simp[flat1]at hf
theorem flatT_rep {w w':World}{A A':Abs}{v:Value}{r:V}(hf:flatT r=true)(h:Rep w A v r):Rep w' A' v r:=by
 by_cases ht:∃vs,r=.tup vs
 ·obtain⟨vs,rfl⟩:=ht
  simp only[flatT,List.all_eq_true]at hf
  obtain⟨us,rfl,hl,hr⟩:=h.tup_inv
  exact .tup _ _ hl fun i v c h1 h2=>flat1_rep (hf c (List.mem_of_getElem? h2)) (hr i v c h1 h2)
 ·refine flat1_rep ?_ h
  cases r with
  |tup vs=>exact absurd ⟨vs,rfl⟩ ht
  |_=>exact hf
theorem VRet_read {f:FuncId}{fn:Func}(hF:Tryz.prog.funcs[f]?=some fn)(hname:(fn.name == "runtime.NumGoroutine")=false)(hbd:fn.body.isNone=false)(hc:Callable Tryz.prog f){args:List V}{st:St}{r:V}(hb:V.bdL 0 (args.map (shutA st))=true)(hr:flatT r=true)
  (h:VRet Tryz.prog f (args.map (shutA st)) st0 r st0):VRet Tryz.prog f args st r st :=
 VRet_of_below hc fun w A vs hs ha=>by
  have h1:Reps w A.shut vs (args.map (shutA st)):=⟨by rw[List.length_map];exact ha.1,fun i v c hv hc=>by
   rw[List.getElem?_map]at hc
   obtain⟨d,hd,rfl⟩:=Option.map_eq_some_iff.1 hc
   exact shutA_rep hs (ha.2 i v d hv hd)⟩
  have h2:=h1.data (B:=abs0 w) (fun b o h=>h.elim (hs.Clt b o) fun⟨id,h⟩=>(hs.ownlt b id h).1) hb
  exact(calls_of hF hname hbd h h2).mono fun e W' ⟨⟨v,A',he,hrr⟩,hB⟩=>⟨v,he,fun w' A'=>flatT_rep hr hrr,hB⟩
noncomputable def hRd (k:FuncId)(args:List V)(st:St):Rt:=match evK Tryz.prog HH 100 30 k (args.map (shutA st)) st0 with
 |some (.ret r,⟨0,[],[],⟨[],[],[]⟩⟩)=>if flatT r&&V.bdL 0 (args.map (shutA st)) then some (.ret r,st) else none
 |_=>none
theorem hRd_ok {f:FuncId}{fn:Func}(hF:Tryz.prog.funcs[f]?=some fn)(hname:(fn.name == "runtime.NumGoroutine")=false)(hbd:fn.body.isNone=false)(hc:Callable Tryz.prog f){args:List V}{st:St}{r:VRes}{s:St}(h:hRd f args st=some (r,s)):VCalls Tryz.prog f args st (fun r' s'=>r'=r∧s'=s):=by
 unfold hRd at h
 split at h
 ·rename_i r0 he
  split at h
  ·rename_i hc0
   cases h
   simp only[Bool.and_eq_true]at hc0
   exact VRet_read hF hname hbd hc hc0.2 hc0.1 (run_sound mixed HH_ok _ _ _ _ _ (evK_run he))
  ·cases h
 ·cases h
def oslI:List V→Option Nat
 |[]=>none
 | .agg cs::r=>match cs.findSome? (fun c=>match c with
  | .osl id _=>some id
  |_=>none) with
  |some id=>some id
  |none=>oslI r
 |_::r=>oslI r
noncomputable def hFzR (k:FuncId)(args:List V)(st:St):Rt:=if V.bdL 0 args then shutR st (evK Tryz.prog HH 100 30 k args (stG st.x.gl)) else none
noncomputable def hFz (k:FuncId)(args:List V)(st:St):Rt:=match oslI args with
 |some id=>match Sha.look st.arr id with
  |some r=>hFzR k (args.map fun a=>(snapA (frzS st id r) a).getD a) (frzS st id r)
  |none=>none
 |none=>none
theorem hFz_ok {k:FuncId}{args:List V}{st:St}{r:VRes}{s:St}(h:hFz k args st=some (r,s)):VCalls Tryz.prog k args st (fun r' s'=>r'=r∧s'=s):=by
 unfold hFz at h
 split at h
 ·split at h
  ·rename_i hl
   refine VCalls_freeze hl ?_
   unfold hFzR at h
   split at h
   ·rename_i hb
    generalize hz:evK Tryz.prog HH 100 30 k _ _=z at h
    cases z with
    |none=>simp only[shutR]at h;cases h
    |some z =>
     obtain⟨r1,s1⟩:=z
     exact VCalls_shut hb (run_sound mixed HH_ok _ _ _ _ _ (evK_run hz)) h
   ·cases h
  ·cases h
 ·cases h
theorem callable46:Callable Tryz.prog 46:=⟨_,Tryz.func46,by kernel_rfl,by kernel_rfl⟩
noncomputable def HG:EvF:=⟨[66,112],fun f args st=>bif Nat.beq f 20 then(hOri args).map fun r=>(r,st) else bif Nat.beq f 46 then hRd 46 args st else bif Nat.beq f 47 then hFz 47 args st else HH f args st⟩
theorem HG_ok:ESound Tryz.prog HG:=fun f args st r s h=>by
 simp only[HG]at h
 by_cases h1:f=20
 ·subst h1
  rw[show Nat.beq 20 20=true from rfl,cond_true]at h
  obtain⟨z,hz,e⟩:=Option.map_eq_some_iff.1 h
  cases e
  unfold hOri at hz
  split at hz
  ·rename_i n p cs t c d
   split at hz
   ·rename_i l hl
    split at hz
    ·rename_i hc
     simp only[Bool.and_eq_true,decide_eq_true_eq]at hc
     obtain⟨⟨⟨⟨c1,c2⟩,c3⟩,c4⟩,c5⟩:=hc
     cases hz
     have:=v20 (x:=⟨n,p,l⟩) (okLst_iff.1 c1) c3 c5 c2 c4 st
     simp only[Lst.v,Prm.v]at this
     rw[←rdL_map rdCu_v hl]at this
     exact this
    ·cases hz
   ·cases hz
  ·cases hz
 rw[show Nat.beq f 20=false from Bool.eq_false_iff.2 fun e=>h1 (Nat.eq_of_beq_eq_true e),cond_false]at h
 by_cases h1:f=46
 ·subst h1
  exact hRd_ok Tryz.func46 (by kernel_rfl) (by kernel_rfl) callable46 h
 rw[show Nat.beq f 46=false from Bool.eq_false_iff.2 fun e=>h1 (Nat.eq_of_beq_eq_true e),cond_false]at h
 by_cases h1:f=47
 ·subst h1
  exact hFz_ok h
 rw[show Nat.beq f 47=false from Bool.eq_false_iff.2 fun e=>h1 (Nat.eq_of_beq_eq_true e),cond_false]at h
 exact HH_ok _ _ _ _ _ h
end Go.Proofs.YtdnpaifeoinjoaaGreatDoor

namespace Go.Proofs.YtdnpaifeoinjoaaGreatDoor
open Go.Sha
set_option maxRecDepth 100000
theorem e14 (g:List (Nat×Obj)):evK Tryz.prog HG 100 30 14 [] (stG g)=some (.ret (.bool true),stG g):=by kernel_rfl
end Go.Proofs.YtdnpaifeoinjoaaGreatDoor

namespace Go.Proofs.YtdnpaifeoinjoaaGreatDoor
open Go.Sha
set_option maxRecDepth 100000
noncomputable def HK:EvF:=⟨[66,112],fun f args st=>bif Nat.beq f 4 then none else bif Nat.beq f 14 then(match args with
 |[]=>some (.ret (.bool true),st)
 |_=>none) else run Tryz.prog HH f args st⟩
@[push_cast]theorem HK_raw:HK.raw=[66,112]:=idq rfl
theorem v14 (st:St):VCalls Tryz.prog 14 [] st (fun r s=>r=.ret (.bool true)∧s=st) :=
 VCalls_shut rfl (run_sound mixed HG_ok _ _ _ _ _ (evK_run (e14 st.x.gl))) rfl
theorem HK_ok:ESound Tryz.prog HK:=fun f args st r s h=>by
 simp only[HK]at h
 by_cases h1:f=4
 ·subst h1;cases h
 rw[show Nat.beq f 4=false from Bool.eq_false_iff.2 fun e=>h1 (Nat.eq_of_beq_eq_true e),cond_false]at h
 by_cases h2:f=14
 ·subst h2
  rw[show Nat.beq 14 14=true from rfl,cond_true]at h
  split at h
  ·cases h;exact v14 st
  ·cases h
 rw[show Nat.beq f 14=false from Bool.eq_false_iff.2 fun e=>h2 (Nat.eq_of_beq_eq_true e),cond_false]at h
 exact run_sound mixed HH_ok _ _ _ _ _ h
theorem up {k:FuncId}{a:List V}{st:St}{r:VRes×St}(h:run Tryz.prog HH k a st=some r)(h1:Nat.beq k 4=false:=by rfl)(h2:Nat.beq k 14=false:=by rfl):run Tryz.prog HK k a st=some r:=run_H (by
 show(bif Nat.beq k 4 then none else bif Nat.beq k 14 then _ else run Tryz.prog HH k a st)=_
 rw[h1,h2,cond_false,cond_false];exact h)
theorem f14 {st:St}:run Tryz.prog HK 14 [] st=some (.ret (.bool true),st):=run_H rfl
end Go.Proofs.YtdnpaifeoinjoaaGreatDoor

namespace Go.Proofs.YtdnpaifeoinjoaaGreatDoor
open Go.Sha
set_option maxRecDepth 100000
theorem f15 {x:Lst}(hx:x.ok):∃b,∀st,run Tryz.prog HH 15 [x.v] st=some (.ret (.bool (b&&lstP x == 0&&decide (x.cues.length≤8))),st):=by
 obtain⟨b,h26⟩:=f26 hx
 refine⟨b,fun st=>?_⟩
 have h27:=fun(st:St)=>f27 (x:=x) hx (st:=st)
 rw[←lst_eq]at h27
 have ha:=hx.a
 rw[run_shut F15 rfl rfl (by simp)]
 push_cast[Lst.v]at h26 h27
 have e:decide ((x.cues.length:Int)≤8)=decide (x.cues.length≤8):=by rw[decide_eq_decide];omega
 cases b with
 |true =>
  by_cases h:lstP x=0
  ·push_cast[Lst.v,h26,h27,h,e]
  ·have e0:(lstP x == 0)=false:=by simpa using h
   push_cast[Lst.v,h26,h27,h,e0]
 |false=>push_cast[Lst.v,h26]
end Go.Proofs.YtdnpaifeoinjoaaGreatDoor

namespace Go.Proofs.YtdnpaifeoinjoaaGreatDoor
open Go.Sha
set_option maxRecDepth 100000
variable {g:List (Nat×Obj)}{n:Nat}{x:Lst}
def esM (m:List (Prm×Val)):List (V×V):=m.map fun e=>(e.1.v,e.2.v)
def lookM (p:Prm):List (Prm×Val)→Option Val
 |[]=>none
 |e::r=>if p=e.1 then some e.2 else lookM p r
def putQ (p:Prm)(v:Val):List (Prm×Val)→List (Prm×Val)
 |[]=>[(p,v)]
 |e::r=>if p=e.1 then(p,v)::r else e::putQ p v r
theorem look_put {p q:Prm}{v:Val}:∀{m:List (Prm×Val)},lookM q (putQ p v m)=if q=p then some v else lookM q m
 |[]=>by simp[putQ,lookM]
 |e::r=>by
  rw[putQ]
  by_cases h:p=e.1
  ·rw[if_pos h,lookM,lookM]
   by_cases h2:q=p
   ·simp[h2]
   ·rw[if_neg h2,if_neg h2,if_neg (fun e=>h2 (e.trans h.symm))]
  ·rw[if_neg h,lookM,lookM,look_put]
   by_cases h2:q=e.1
   ·rw[if_pos h2,if_pos h2,if_neg (fun e2=>h (e2.symm.trans h2))]
   ·rw[if_neg h2,if_neg h2]
theorem find_esM {p:Prm}{v:Val}:∀{m:List (Prm×Val)}{i:Nat},(∃j u,j<m.length∧findV p.v (esM m) i=some (some (i+j,u.v))∧lookM p m=some u∧putQ p v m=m.set j (p,v))∨(findV p.v (esM m) i=some none∧lookM p m=none∧putQ p v m=m++[(p,v)])
 |[],i=>.inr ⟨rfl,rfl,rfl⟩
 |q::r,i=>by
  have e:findV p.v (esM (q::r)) i=match(some (decide (p=q.1)):Option Bool) with
   |some true=>some (some (i,q.2.v))
   |some false=>findV p.v (esM r) (i+1)
   |none=>none:=by rw[←same_prm];rfl
  rw[e]
  by_cases h:p=q.1
  ·exact .inl ⟨0,q.2,by simp,by rw[decide_eq_true h];rfl,by rw[lookM,if_pos h],by rw[putQ,if_pos h];rfl⟩
  ·rw[decide_eq_false h,lookM,putQ,if_neg h,if_neg h]
   rcases find_esM (p:=p) (v:=v) (m:=r) (i:=i+1) with⟨j,u,j1,j2,j3,j4⟩|⟨j2,j3,j4⟩
   ·exact .inl ⟨j+1,u,by simpa using j1,by simp only[j2,show i+1+j=i+(j+1) by omega],j3,by rw[j4];rfl⟩
   ·exact .inr ⟨j2,j3,by rw[j4];rfl⟩
theorem mset_esM {st:St}{i:Nat}{m:List (Prm×Val)}{p:Prm}{v:Val}:msetB st i (esM m) p.v v.v (findV p.v (esM m) 0)=some (.und,⟨st.nx,st.mem,st.arr,⟨updO st.x.obj i (.map (esM (putQ p v m))),st.x.gl,st.x.ty⟩⟩):=by
 rcases find_esM (p:=p) (v:=v) (m:=m) (i:=0) with⟨j,u,j1,j2,j3,j4⟩|⟨j2,j3,j4⟩
 ·rw[j2,j4,Nat.zero_add]
  simp only[msetB,putM,esM,List.map_set]
 ·rw[j2,j4]
  simp[msetB,putM,esM]
theorem look_esM {st:St}{m:List (Prm×Val)}{p:Prm}:lookB st (.agg [.int .i64 0,.int .i64 0]) true (findV p.v (esM m) 0)=some (.tup [((lookM p m).getD ⟨0,0⟩).v,.bool (lookM p m).isSome],st):=by
 rcases find_esM (p:=p) (v:=⟨0,0⟩) (m:=m) (i:=0) with⟨j,u,j1,j2,j3,j4⟩|⟨j2,j3,j4⟩
 ·rw[j2,j3];rfl
 ·rw[j2,j3];rfl
@[push_cast]theorem esM_all {k:Nat}{m:List (Prm×Val)}:((esM m).all fun p=>p.1.bd k&&p.2.bd k)=true:=by simp[esM,V.bd,V.bdL]
@[push_cast]theorem esM_nil:esM []=[]:=idq rfl
def stY (g:List (Nat×Obj))(n:Nat)(m:List (Prm×Val)):St:=⟨n,[],[],⟨[(1,.map (esM m))],g,[]⟩⟩
@[push_cast]theorem stY_eq {m:List (Prm×Val)}:stY g n m=⟨n,[],[],⟨[(1,.map (esM m))],g,[]⟩⟩:=idq rfl
def putS (m S:List (Prm×Val)):List (Prm×Val):=S.foldl (fun m e=>putQ e.1 e.2 m) m
theorem L4_0 {k:Nat}{S N:List (Prm×Val)}{cs:List Cu}(hn:1<n)(hS:S.length<140737488355328):∀r j,S.drop j=r→∀m,
  runL Tryz.prog HK [1,3,8,23,24,25,49,50,51] n B4_0 [(1,.ep x.v 0),(3,.mp 1),(8,.sl (N.map entV)),(23,.sl (cs.map Cu.v)),(24,.int .i64 cs.length),(25,.int .i64 k),(49,.sl (S.map entV)),(50,.int .i64 S.length),(51,.int .i64 j)] (stY g n m)
   = some (.exit 2,[(1,.ep x.v 0),(3,.mp 1),(8,.sl (N.map entV)),(23,.sl (cs.map Cu.v)),(24,.int .i64 cs.length),(25,.int .i64 k)],stY g n (putS m r)):=by
 refine drop_ind (fun j h m=>?_) (fun e r j h hx hd ih m=>?_)
 all_goals rw[runL_of B4_0.eq_1]
 ·have h1:¬(j:Int)<S.length:=by omega
  push_cast[h1,putS,List.foldl_nil,Lst.v,Cu.v]
 ·have h1:(j:Int)<S.length:=by omega
  have hw:=iw1 (j:=j) (by omega)
  have hm:=fun(st:St) (i:Nat)=>mset_esM (st:=st) (i:=i) (m:=m) (p:=e.1) (v:=e.2)
  have ih:=ih (putQ e.1 e.2 m)
  rw[show putS m (e::r)=putS (putQ e.1 e.2 m) r from rfl]
  generalize putS (putQ e.1 e.2 m) r=Z at *
  generalize hq:putQ e.1 e.2 m=Y at *
  have hn1:¬n≤1:=by omega
  have hn2:¬n=1:=by omega
  push_cast[Prm.v,Val.v]at hm
  push_cast[h1,hw,hx,hm,hn,hn1,hn2,Prm.v,Val.v,Lst.v,Cu.v]at ih ⊢
  exact dn_eq rfl ih
theorem L4_1 {k:Nat}{N:List (Prm×Val)}{cs:List Cu}{m:List (Prm×Val)}(hn:1<n)(hN:N.length<140737488355328)(hm0:∀e∈N,(lookM e.1 m).getD ⟨-1,0⟩=e.2):∀r j,N.drop j=r →
  runL Tryz.prog HK [1,3,23,24,25,61,62,63] n B4_1 [(1,.ep x.v 0),(3,.mp 1),(23,.sl (cs.map Cu.v)),(24,.int .i64 cs.length),(25,.int .i64 k),(61,.sl (N.map entV)),(62,.int .i64 N.length),(63,.int .i64 j)] (stY g n m)
   = some (.exit 4,[(1,.ep x.v 0),(3,.mp 1),(23,.sl (cs.map Cu.v)),(24,.int .i64 cs.length),(25,.int .i64 k)],stY g n m):=by
 refine drop_ind (fun j h=>?_) (fun e r j h hx hd ih=>?_)
 all_goals rw[runL_of B4_1.eq_1]
 ·have h1:¬(j:Int)<N.length:=by omega
  push_cast[h1,Lst.v,Cu.v]
 ·have h1:(j:Int)<N.length:=by omega
  have hw:=iw1 (j:=j) (by omega)
  have hl:=fun(st:St)=>look_esM (st:=st) (m:=m) (p:=e.1)
  have he:=hm0 e (mem_at hd)
  have hn1:¬n≤1:=by omega
  have hn2:¬n=1:=by omega
  cases hv:lookM e.1 m with
  |none =>
   rw[hv]at hl he
   simp only[Option.getD_none,Option.isSome_none]at hl he
   obtain⟨ep,ev⟩:=e
   cases he
   push_cast[Prm.v,Val.v]at hl
   push_cast[h1,hw,hx,hl,hn,hn1,hn2,beq_self_eq_true,Prm.v,Val.v,Lst.v,Cu.v]at ih ⊢
   exact dn_eq rfl ih
  |some v =>
   rw[hv]at hl he
   simp only[Option.getD_some,Option.isSome_some]at hl he
   obtain⟨ep,ev⟩:=e
   cases he
   push_cast[Prm.v,Val.v]at hl
   push_cast[h1,hw,hx,hl,hn,hn1,hn2,beq_self_eq_true,Prm.v,Val.v,Lst.v,Cu.v]at ih ⊢
   exact dn_eq rfl ih
theorem look_no {p:Prm}:∀{m:List (Prm×Val)},p ∉ m.map Prod.fst→lookM p m=none
 |[],_=>rfl
 |e::r,h=>by
  rw[lookM,if_neg,look_no (fun h2=>h (List.mem_cons_of_mem _ h2))]
  intro e2
  exact h (by rw[e2];exact List.mem_cons_self ..)
theorem look_at {p:Prm}{v:Val}:∀{m:List (Prm×Val)}{t:Nat},(m.map Prod.fst).Nodup→m[t]?=some (p,v)→lookM p m=some v
 |[],t,_,h=>by simp at h
 |e::r,t,hn,h=>by
  rw[List.map_cons,List.nodup_cons]at hn
  cases t with
  |zero=>simp at h;subst h;rw[lookM,if_pos rfl]
  |succ t =>
   simp at h
   rw[lookM,if_neg,look_at hn.2 h]
   intro e2
   exact hn.1 (e2▸List.mem_map.2 ⟨_,List.mem_of_getElem? h,rfl⟩)
theorem look_putS {p:Prm}:∀{S m:List (Prm×Val)},(S.map Prod.fst).Nodup→lookM p (putS m S)=(lookM p S).or (lookM p m)
 |[],m,_=>rfl
 |e::r,m,hn=>by
  rw[List.map_cons,List.nodup_cons]at hn
  rw[show putS m (e::r)=putS (putQ e.1 e.2 m) r from rfl,look_putS hn.2,look_put,lookM]
  by_cases h:p=e.1
  ·rw[if_pos h,if_pos h,look_no (h▸hn.1)];rfl
  ·rw[if_neg h,if_neg h]
def wasR (z:Bool)(B:List (Prm×Val))(i:Nat):Val:=if z then(B.getD i default).2 else⟨-1,0⟩
theorem stpR_sub {z:Bool}{B:List (Prm×Val)}:∀{r:List (Prm×Val)}{i:Nat},(stpR z B r i).Sublist r
 |[],_=>List.Sublist.slnil
 |e::r,i=>by
  rw[stpR]
  generalize (if z=true then(B.getD i default).2 else(⟨-1,0⟩:Val))=w
  by_cases h:e.2=w
  ·rw[if_pos h];exact(stpR_sub).cons e
  ·rw[if_neg h];exact(stpR_sub).cons_cons e
theorem stpR_nd {z:Bool}{B r:List (Prm×Val)}{i:Nat}(h:(r.map Prod.fst).Nodup):((stpR z B r i).map Prod.fst).Nodup:=(stpR_sub.map Prod.fst).nodup h
theorem look_stp {z:Bool}{B:List (Prm×Val)}{e:Prm×Val}:∀{r:List (Prm×Val)}{i t:Nat},(r.map Prod.fst).Nodup→r[t]?=some e→lookM e.1 (stpR z B r i)=if e.2=wasR z B (i+t) then none else some e.2
 |[],i,t,_,h=>by simp at h
 |x::r,i,t,hn,h=>by
  have hn':=hn
  rw[List.map_cons,List.nodup_cons]at hn
  rw[stpR]
  change lookM e.1 (if x.2=wasR z B i then stpR z B r (i+1) else x::stpR z B r (i+1))=_
  cases t with
  |zero =>
   simp at h;subst h
   show _=if x.2=wasR z B i then none else some x.2
   by_cases hw:x.2=wasR z B i
   ·rw[if_pos hw,if_pos hw]
    exact look_no fun h=>hn.1 ((stpR_sub.map Prod.fst).subset h)
   ·rw[if_neg hw,if_neg hw,lookM,if_pos rfl]
  |succ t =>
   simp at h
   have ih:=look_stp (z:=z) (B:=B) (i:=i+1) hn.2 h
   rw[show i+1+t=i+(t+1) by omega]at ih
   by_cases hw:x.2=wasR z B i
   ·rw[if_pos hw,ih]
   ·rw[if_neg hw,lookM,if_neg,ih]
    intro e2
    exact hn.1 (e2▸List.mem_map.2 ⟨_,List.mem_of_getElem? h,rfl⟩)
def prvM (Mk:Nat→List (Prm×Val))(p:Prm):Nat→Val
 |0=>⟨-1,0⟩
 |k+1=>(lookM p (Mk k)).getD ⟨-1,0⟩
theorem steps_lead {Mk:Nat→List (Prm×Val)}(hM:MkOk x Mk){k:Nat}(hk:k<x.cues.length){m:List (Prm×Val)}(hI:∀p∈ftpL x,(lookM p m).getD ⟨-1,0⟩=prvM Mk p k) :
  (∀e∈Mk k,(lookM e.1 (putS m (stpK Mk k))).getD ⟨-1,0⟩=e.2)∧∀p∈ftpL x,(lookM p (putS m (stpK Mk k))).getD ⟨-1,0⟩=prvM Mk p (k+1):=by
 have hf:=(hM k hk).1
 have hnd:((Mk k).map Prod.fst).Nodup:=by rw[hf];exact ftpL_nodup
 have h1:∀e∈Mk k,(lookM e.1 (putS m (stpK Mk k))).getD ⟨-1,0⟩=e.2:=fun e he=>by
  obtain⟨t,ht⟩:=List.mem_iff_getElem?.1 he
  have hp:e.1∈ftpL x:=by rw[←hf];exact List.mem_map.2 ⟨e,he,rfl⟩
  rw[stpK,look_putS (stpR_nd hnd),look_stp hnd ht,Nat.zero_add]
  by_cases hw:e.2=wasR (decide (0<k)) (Mk (k-1)) t
  ·rw[if_pos hw,Option.none_or,hI _ hp,hw]
   cases k with
   |zero=>rfl
   |succ k =>
    have hf2:=(hM k (by omega)).1
    have hnd2:((Mk k).map Prod.fst).Nodup:=by rw[hf2];exact ftpL_nodup
    have ht2:((Mk k).map Prod.fst)[t]?=some e.1:=by rw[hf2,←hf,List.getElem?_map,ht];rfl
    rw[List.getElem?_map]at ht2
    obtain⟨⟨q,w⟩,hb,hq⟩:=Option.map_eq_some_iff.1 ht2
    cases hq
    rw[prvM,look_at hnd2 hb]
    simp[wasR,List.getD_eq_getElem?_getD,hb]
  ·rw[if_neg hw];rfl
 refine⟨h1,fun p hp=>?_⟩
 rw[←hf]at hp
 obtain⟨e,he,rfl⟩:=List.mem_map.1 hp
 obtain⟨t,ht⟩:=List.mem_iff_getElem?.1 he
 rw[h1 e he,prvM,look_at hnd ht];rfl
theorem L4_2 {Mk:Nat→List (Prm×Val)}(hP:lstP x=0)(hx:x.ok)(hM:MkOk x Mk):∀r j,x.cues.drop j=r→∀m,(∀p∈ftpL x,(lookM p m).getD ⟨-1,0⟩=prvM Mk p j) →
  ∃m',runL Tryz.prog HK [1,3,23,24,25] 2 B4_2 [(1,.ep x.v 0),(3,.mp 1),(23,.sl (x.cues.map Cu.v)),(24,.int .i64 x.cues.length),(25,.int .i64 j)] (stY g 2 m)=some (.exit 0,[],stY g 2 m'):=by
 have h64:=(lst_parts hP).2.2.1
 have hle:=ftpL_len hP
 refine drop_ind (fun j h m hI=>?_) (fun c r j h hxc hd ih m hI=>?_)
 all_goals rw[runL_of B4_2.eq_1]
 ·have h1:¬(j:Int)<x.cues.length:=by omega
  refine⟨m,?_⟩
  push_cast[h1,Lst.v,Cu.v]
 ·have h1:(j:Int)<x.cues.length:=by omega
  have hw:=iw1 (j:=j) (by omega)
  obtain⟨q1,q2⟩:=steps_lead hM h hI
  obtain⟨m',ih⟩:=ih _ q2
  refine⟨m',?_⟩
  have hNl:(Mk j).length=(ftpL x).length:=by rw[←(hM j h).1,List.length_map]
  have hSl:(stpK Mk j).length≤(Mk j).length:=stpR_sub.length_le
  have h16:=fun(st:St)=>up (f16 (st:=st) hP hx hM h)
  have h17:=fun(st:St)=>up (f17 (st:=st) hP hx hM h)
  rw[show x.cues.getD j default=c from hxc default]at h16 h17
  have hL0:=L4_0 (g:=g) (n:=3) (x:=x) (k:=j) (S:=stpK Mk j) (N:=Mk j) (cs:=x.cues) (by omega) (by omega) _ 0 rfl m
  have hL1:=L4_1 (g:=g) (n:=3) (x:=x) (k:=j) (N:=Mk j) (cs:=x.cues) (m:=putS m (stpK Mk j)) (by omega) (by omega) q1 _ 0 rfl
  rw[List.drop_zero]at hL0
  generalize putS m (stpK Mk j)=Y at *
  generalize stpK Mk j=S at *
  generalize Mk j=N at *
  push_cast[Lst.v,Cu.v]at h16 h17 hL0 hL1 ih
  push_cast[h1,hw,hxc,h16,h17,hL0,hL1,ih,Lst.v,Cu.v]
theorem l4 {x:Lst}(hx:x.ok){st:St}:run Tryz.prog HK 4 [x.v] st=some (.ret (.bool true),st):=by
 obtain⟨b,h15⟩:=f15 hx
 have h15:=fun st:St=>up (h15 st)
 have h14:=fun(st:St)=>f14 (st:=st)
 rw[run_shut F4 rfl rfl (by simp)]
 by_cases h:b=true∧lstP x=0∧x.cues.length≤8
 ·obtain⟨rfl,hP,h8⟩:=h
  have e1:(true&&lstP x == 0&&decide (x.cues.length≤8))=true:=by simp[hP,h8]
  rw[e1]at h15
  obtain⟨Mk,hM⟩:=mk_ex hP hx
  obtain⟨m',hL⟩:=L4_2 (g:=st.x.gl) hP hx hM _ 0 rfl [] (fun p _=>rfl)
  push_cast[Lst.v]at h15 hL
  push_cast[Lst.v,h14,h15,hL]
 ·have e1:(b&&lstP x == 0&&decide (x.cues.length≤8))=false:=by rw[Bool.eq_false_iff];intro e;simp at e;exact h ⟨e.1.1,e.1.2,e.2⟩
  rw[e1]at h15
  push_cast[Lst.v]at h15
  push_cast[Lst.v,h14,h15]
end Go.Proofs.YtdnpaifeoinjoaaGreatDoor

namespace Go.Proofs.YtdnpaifeoinjoaaGreatDoor
open Go.ChangeShapes Go.WideShapes Go.ChangeAt Go.RowKit Go.Sha
theorem sound:ESound Tryz.prog HK:=HK_ok
theorem law4 {x:Lst}(h:x.Dk){st:St}:run Tryz.prog HK 4 [x.v] st=some (.ret (.bool true),st):=l4 h.ok
theorem sk1:(laidOutB Tryz.prog)=true:=by kernel_rfl
theorem sk2:(mapsRowed Tryz.prog)=true:=by kernel_rfl
theorem sk6:(Tryz.prog.stops == [])=true:=by kernel_rfl
theorem sk8:(Tryz.prog.stopKnobs == [])=true:=by kernel_rfl
theorem sk22:(Rows.topRunsAreStepsRow.plainKeys == Tryz.prog.plainKeys)=true:=by kernel_rfl
theorem sk24:(Tryz.prog.stopsHeard)=true:=by kernel_rfl
theorem sk25:(Tryz.prog.mayEnter)=true:=by kernel_rfl
theorem sk26:(Rows.topRunsAreStepsRow.lifted == Tryz.prog.liftsFinal)=true:=by kernel_rfl
theorem sk27:(Tryz.prog.make == some Rows.topRunsAreStepsRow.make)=true:=by kernel_rfl
theorem sk15:(Rows.topRunsAreStepsRow.mapsOut == Tryz.prog.mapsAmong Tryz.f4.resultTypes.toList)=true:=by kernel_rfl
theorem sown:ownKnob Tryz.prog.godebug=none:=by kernel_rfl
theorem smain:Tryz.prog.mainIs=some (Rows.topRunsAreStepsCard.stood.harness.1,Rows.topRunsAreStepsCard.stood.harness.2.toList):=by kernel_rfl
theorem slooks:Rows.topRunsAreStepsCard.stood.looks=Tryz.prog.looks []:=by kernel_rfl
end Go.Proofs.YtdnpaifeoinjoaaGreatDoor

