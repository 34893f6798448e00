/- Channels as bits, by the program. Moves that are made early, by the program. Moves that are made early, by the program. Marked looks, by the program. Marked looks and steps, by the program. The contra .. -/
import Derived.Test.YtdnpaifeoinjoaaGreatDoorQ1
import Derived.Test.YtdnpaifeoinjoaaGreatDoorQShbYB
import Derived.Test.YtdnpaifeoinjoaaGreatDoorProg
import Derived.KernelRfl
import Derived.Shelf.Small.Bits
import Derived.Shelf.Strconv.Atoi
import Derived.Shelf.Strconv.Itoa0
import Derived.Shelf.Strconv.Itoa1
import Derived.Shelf.LaysM
import Derived.Shelf.Strconv.Itoa2
import Derived.Shelf.Strconv.Itoa3
import Derived.Shelf.Strconv.AtoiErrFast
import Derived.Shelf.Strconv.ParseIntEmpty
import Derived.Shelf.Strconv.AtoiFail
import Derived.Shelf.Strconv.Clone
import Derived.Shelf.Strconv.SyntaxError
import Derived.Shelf.LaysC
import Derived.Shelf.Strconv.ToError
import Derived.Shelf.Strconv.Lower
import Derived.Shelf.Strconv.ParseUint10
import Derived.Shelf.Strconv.ParseUint10Empty
import Derived.Shelf.Strconv.ParseUint10Any
import Derived.Shelf.Strconv.ParseInt10
import Derived.Shelf.Strconv.AtoiLong
import Derived.Shelf.Strconv.AtoiInnerAll
import Derived.Shelf.Strconv.RangeError
import Derived.Shelf.Strconv.ToErrorRange
import Derived.Shelf.Strconv.AtoiAll
import Derived.Shelf.Strings.Search1
import Derived.Shelf.Strings.Search2
import Derived.Shelf.Strings.Cut
import Derived.Shelf.Strings.Shaped
import Derived.Shelf.GgClosure.StringsIndexFunc
import Derived.Ground.GgwProg
import Derived.Shelf.GgClosure.StringsIndexFuncTop
import Derived.Shelf.Strings.Prefix
import Derived.Shelf.SlGeneric
import Derived.Ground.SlsfProg
import Derived.Shelf.SlSortCmp.NoneTotal
import Derived.Test.YtdnpaifeoinjoaaGreatDoorQShbXE
import Derived.Lib.AtoiAllCases
import Derived.Laws.RangeAny
import Derived.Test.YtdnpaifeoinjoaaGreatDoorQShbEK
import Derived.Test.YtdnpaifeoinjoaaGreatDoorQShbXP
import Derived.Test.YtdnpaifeoinjoaaGreatDoorCards
import Derived.Test.YtdnpaifeoinjoaaGreatDoorQShbAC
import Derived.SizedLaws
import Derived.WalkKit
import Derived.ProofKit
import Derived.OpenShut
import Derived.ChangeMaps5
import Derived.LaidLaws
import Derived.LaidHandle
import Derived.Lay
import Derived.SevenTiedAt
set_option linter.unusedSimpArgs false
set_option linter.unusedVariables false
namespace Go.Proofs.YtdnpaifeoinjoaaGreatDoor
open Go.Sha
set_option maxRecDepth 100000
variable {g:List (Nat×Obj)}{n:Nat}
@[reducible] def u6 (x:Int):V:=.int .u64 x
theorem f98 {a:List V}{q r:Nat}(ha:a.length=16)(hv:∀v∈a,∃x,v=u6 x)(hq:q<16)(hr:r<64) :
  ∃a':List V,a'.length=16∧(∀v∈a',∃x,v=u6 x)∧∀(g:List (Nat×Obj)) (k m:Nat) (z:List V),m+1<k→run Tryz.prog HH 98 [.ptr (m+1) 0,.int .i64 ((64*q+r:Nat):Int)] ⟨k,[(m+1,a),(m,z)],[],⟨[],g,[]⟩⟩=some (.ret (.tup []),⟨k,[(m+1,a'),(m,z)],[],⟨[],g,[]⟩⟩):=by
 have e1:IntKind.i64.wrap (((64*q+r:Nat):Int).tdiv 64)=(q:Int):=by
  rw[show((64*q+r:Nat):Int).tdiv 64=((64*q+r) / 64:Nat) from rfl,show(64*q+r) / 64=q by omega]
  exact iwrap (by omega) (by omega)
 have e2:IntKind.i64.wrap (((64*q+r:Nat):Int).tmod 64)=(r:Int):=by
  rw[show((64*q+r:Nat):Int).tmod 64=((64*q+r) % 64:Nat) from rfl,show(64*q+r) % 64=r by omega]
  exact iwrap (by omega) (by omega)
 have hs:a[q]?=some (a.getD q .und):=by rw[List.getD_eq_getElem?_getD,List.getElem?_eq_getElem (by omega)];rfl
 obtain⟨x,hx⟩:=hv _ (List.mem_of_getElem? hs)
 rw[hx]at hs
 have e3:¬((64*q+r:Nat):Int).tmod 64<0:=by
  rw[show((64*q+r:Nat):Int).tmod 64=((64*q+r) % 64:Nat) from rfl];omega
 generalize ((64 * q+r:Nat):Int)=c at *
 refine⟨List.take q a++V.int IntKind.u64 (bitsV BinOp.or IntKind.u64 x (IntKind.u64.wrap (1*2 ^ min (c.tmod 64).toNat IntKind.u64.bits)))::List.drop (q+1) a,?_,?_,fun g k m z hk=>?_⟩
 ·simp only[List.length_append,List.length_take,List.length_cons,List.length_drop];omega
 ·intro v hv'
  rcases List.mem_append.1 hv' with h|h
  ·exact hv v (List.mem_of_mem_take h)
  ·rcases List.mem_cons.1 h with h|h
   ·exact⟨_,h⟩
   ·exact hv v (List.mem_of_mem_drop h)
 ·rw[run_open F98 rfl rfl (by simp)]
  push_cast[ha,e1,e2,hs,hq,hr,Nat.mul_one]
  exact dn_eq ⟨e3,by omega⟩ rfl
def W16 (a:List V):Prop:=a.length=16∧∀v∈a,∃x,v=u6 x
@[reducible] def z16:List V:=[u6 0,u6 0,u6 0,u6 0,u6 0,u6 0,u6 0,u6 0,u6 0,u6 0,u6 0,u6 0,u6 0,u6 0,u6 0,u6 0]
theorem w16_bd {k:Nat}:∀{a:List V},(∀v∈a,∃x,v=u6 x)→V.bdL k a=true
 |[],_=>rfl
 |v::r,h=>by
  obtain⟨x,rfl⟩:=h v (List.mem_cons_self ..)
  rw[V.bdL,w16_bd (fun v hv=>h v (List.mem_cons_of_mem _ hv))];rfl
theorem L57 {l:List (Prm×Val)}(hl:l.length<140737488355328)(hp:∀e∈l,0≤e.1.chan∧e.1.chan≤999):∀r j,l.drop j=r→∀a,W16 a→∃a',W16 a'∧∀(g:List (Nat×Obj)) (n:Nat),
  runL Tryz.prog HH [2,3,6,7,8] (n+2) B57_0 [(2,.ptr n 0),(3,.ptr (n+1) 0),(6,.sl (l.map entV)),(7,.int .i64 l.length),(8,.int .i64 j)] ⟨n+2,[(n+1,a),(n,z16)],[],⟨[],g,[]⟩⟩
   = some (.exit 0,[(2,.ptr n 0),(3,.ptr (n+1) 0)],⟨n+2,[(n+1,a'),(n,z16)],[],⟨[],g,[]⟩⟩):=by
 refine drop_ind (fun j hj a ha=>?_) (fun e r j hj hx hd ih a ha=>?_)
 ·have h1:¬(j:Int)<l.length:=by omega
  refine⟨a,ha,fun g n=>?_⟩
  rw[runL_of B57_0.eq_1]
  push_cast[h1]
 ·have h1:(j:Int)<l.length:=by omega
  have hw:=iw1 (j:=j) (by omega)
  obtain⟨c1,c2⟩:=hp e (mem_at hd)
  obtain⟨c,hc⟩:∃c:Nat,e.1.chan=c:=⟨e.1.chan.toNat,by omega⟩
  obtain⟨b1,b2,b3,h98'⟩:=f98 (a:=a) (q:=c / 64) (r:=c % 64) ha.1 ha.2 (by omega) (by omega)
  rw[show(64*(c / 64)+c % 64:Nat)=c by omega,←hc]at h98'
  obtain⟨a1,w1,i1⟩:=ih a ha
  obtain⟨a2,w2,i2⟩:=ih b1 ⟨b2,b3⟩
  by_cases hz:e.1.attr=0∧0≤e.2.pal∧(0<e.2.pal∨0<e.2.lev)
  ·refine⟨a2,w2,fun g n=>?_⟩
   have i2:=i2 g n
   have h98:=h98' g (n+3) n z16 (by omega)
   have y2:=w16_bd (k:=n+2) b3
   rw[runL_of B57_0.eq_1]
   push_cast[h1,hw,hx,h98,hz,y2]at i2 ⊢
   exact i2
  ·refine⟨a1,w1,fun g n=>?_⟩
   have i1:=i1 g n
   have y1:=w16_bd (k:=n+2) ha.2
   rw[runL_of B57_0.eq_1]
   push_cast[h1,hw,hx,hz,y1]at i1 ⊢
   exact i1
theorem f57 {l:List (Prm×Val)}(hl:l.length<140737488355328)(hp:∀e∈l,0≤e.1.chan∧e.1.chan≤999):∃a,W16 a∧∀st,run Tryz.prog HH 57 [.sl (l.map entV)] st=some (.ret (.agg a),st):=by
 obtain⟨a,ha,hL⟩:=L57 hl hp _ 0 rfl z16 ⟨rfl,fun v hv=>by simp only[z16,List.mem_cons,List.not_mem_nil,or_false,or_self]at hv;exact⟨_,hv⟩⟩
 refine⟨a,ha,fun st=>?_⟩
 have hL:=hL st.x.gl 0
 rw[run_shut F57 rfl rfl (by simp)]
 push_cast[ha.1]at hL
 have ht:List.take 16 a=a:=List.take_of_length_le (by rw[ha.1];exact Nat.le_refl _)
 have hbd:=w16_bd (k:=0) ha.2
 have hsh:∀st:St,a.map (shut1 st)=a:=fun st=>by
  have h2:∀b:List V,(∀v∈b,∃x,v=u6 x)→b.map (shut1 st)=b:=fun b=>by
   induction b with
   |nil=>intro _;rfl
   |cons v r ih=>intro h;obtain⟨x,hx⟩:=h v (List.mem_cons_self ..);rw[List.map_cons,ih (fun v hv=>h v (List.mem_cons_of_mem _ hv)),hx];rfl
  exact h2 a ha.2
 have hb2:∀st:St,(a.all fun x=>V.bd 0 (shut1 st x))=true:=fun st=>by
  rw[List.all_eq_true];intro v hv;obtain⟨x,rfl⟩:=ha.2 v hv;rfl
 push_cast[hL,ht,ha.1,hbd,hsh,hb2]
theorem f58 {a:List V}(ha:W16 a){c:Int}(hc:0≤c∧c≤999):∃b,∀st,run Tryz.prog HH 58 [.agg a,.int .i64 c] st=some (.ret (.bool b),st):=by
 obtain⟨k,rfl⟩:∃k:Nat,c=k:=⟨c.toNat,by omega⟩
 obtain⟨q,r,rfl,hr⟩:∃q r,k=64*q+r∧r<64:=⟨k / 64,k % 64,by omega,by omega⟩
 have e1:IntKind.i64.wrap (((64*q+r:Nat):Int).tdiv 64)=(q:Int):=by
  rw[show((64*q+r:Nat):Int).tdiv 64=((64*q+r) / 64:Nat) from rfl,show(64*q+r) / 64=q by omega]
  exact iwrap (by omega) (by omega)
 have e2:IntKind.i64.wrap (((64*q+r:Nat):Int).tmod 64)=(r:Int):=by
  rw[show((64*q+r:Nat):Int).tmod 64=((64*q+r) % 64:Nat) from rfl,show(64*q+r) % 64=r by omega]
  exact iwrap (by omega) (by omega)
 have e3:¬((64*q+r:Nat):Int).tmod 64<0:=by
  rw[show((64*q+r:Nat):Int).tmod 64=((64*q+r) % 64:Nat) from rfl];omega
 have hl:=ha.1
 have hs:a[q]?=some (a.getD q .und):=by rw[List.getD_eq_getElem?_getD,List.getElem?_eq_getElem (by omega)];rfl
 obtain⟨x,hx⟩:=ha.2 _ (List.mem_of_getElem? hs)
 rw[hx]at hs
 have hb:=w16_bd (k:=0) ha.2
 have hq:q<16:=by omega
 generalize ((64 * q+r:Nat):Int)=c at *
 refine⟨?b,fun st=>?_⟩
 rotate_left
 ·rw[run_shut F58 rfl rfl (by simp[V.bdL,V.bd,hb])]
  push_cast[ha.1,e1,e2,e3,hs,hq,hr,Nat.mul_one,hb]
  rfl
end Go.Proofs.YtdnpaifeoinjoaaGreatDoor

namespace Go.Proofs.YtdnpaifeoinjoaaGreatDoor
open Go.Sha
set_option maxRecDepth 100000
variable {g:List (Nat×Obj)}
def stE (g:List (Nat×Obj))(k m:Nat)(b:List V)(n:Nat)(xs:List Mov):St:=⟨k,[(m,b)],[(n,⟨45,5,xs.map Mov.v,true,false⟩)],⟨[],g,[]⟩⟩
@[push_cast]theorem stE_eq {k m n:Nat}{b:List V}{xs:List Mov}:stE g k m b n xs=⟨k,[(m,b)],[(n,⟨45,5,xs.map Mov.v,true,false⟩)],⟨[],g,[]⟩⟩:=idq rfl
theorem w16_snap {st:St}:∀{a:List V},(∀v∈a,∃x,v=u6 x)→mapO (snap1 st) a=some a
 |[],_=>rfl
 |v::r,h=>by
  obtain⟨x,rfl⟩:=h v (List.mem_cons_self ..)
  rw[mapO,w16_snap (fun v hv=>h v (List.mem_cons_of_mem _ hv))];rfl
theorem f115 {a b:List V}(ha:W16 a)(hb:W16 b){q:Mov}(hc:0≤q.prm.chan∧q.prm.chan≤999):∃z,(z=true→∀st,run Tryz.prog HH 58 [.agg a,.int .i64 q.prm.chan] st=some (.ret (.bool false),st))∧∀(g:List (Nat×Obj)) (k m n:Nat) (xs:List Mov),m<k→n<k→¬n=m→run Tryz.prog HH 115 [q.v,.ep (.agg a) 0,.ptr m 0] (stE g k m b n xs)=some (.ret (.bool z),stE g k m b n xs):=by
 obtain⟨z1,h1⟩:=f58 ha hc
 obtain⟨z2,h2⟩:=f58 hb hc
 have w1:=w16_bd (k:=0) ha.2
 have l1:=ha.1
 have l2:=hb.1
 have t2:List.take 16 b=b:=List.take_of_length_le (by rw[hb.1];exact Nat.le_refl _)
 have t1:List.take 16 a=a:=List.take_of_length_le (by rw[ha.1];exact Nat.le_refl _)
 refine⟨!z1&&!z2,fun hz=>?_,fun g k m n xs hm hn hnm=>?_⟩
 ·cases z1 with
  |true=>simp at hz
  |false=>exact h1
 have w2:=w16_bd (k:=k) hb.2
 have w3:=w16_bd (k:=0) hb.2
 have hs1:∀st:St,mapO (snap1 st) a=some a:=fun st=>w16_snap ha.2
 have hs2:∀st:St,mapO (snap1 st) b=some b:=fun st=>w16_snap hb.2
 have hm2:¬m=k:=by omega
 have hn2:¬n=k:=by omega
 have hm3:¬k≤m:=by omega
 have hn3:¬k≤n:=by omega
 rw[run_open F115 rfl rfl (by simp[V.bdL,V.bd])]
 cases z1 with
 |true =>
  push_cast[h1,h2,l1,l2,t1,t2,w1,w2,w3,hs1,hs2,hm,hn,hm2,hn2,hm3,hn3,Mov.v,Prm.v]
 |false =>
  push_cast[h1,h2,l1,l2,t1,t2,w1,w2,w3,hs1,hs2,hm,hn,hm2,hn2,hm3,hn3,Mov.v,Prm.v]
@[reducible] def kpV (a:List V)(m:Nat):V:=.ep (.agg [.fn (.func 115) [] [.ep (.agg a) 0,.ptr m 0]]) 0
theorem f135 {a b:List V}(ha:W16 a)(hb:W16 b){q:Mov}(hc:0≤q.prm.chan∧q.prm.chan≤999):∃z,(z=false→¬q.prm.attr=0∧∀st,run Tryz.prog HH 58 [.agg a,.int .i64 q.prm.chan] st=some (.ret (.bool false),st))∧∀(g:List (Nat×Obj)) (k m n:Nat) (xs:List Mov),m<k→n<k→¬n=m→run Tryz.prog HH 135 [q.v,kpV a m] (stE g k m b n xs)=some (.ret (.bool z),stE g k m b n xs):=by
 obtain⟨z,hz0,hz⟩:=f115 ha hb hc
 refine⟨decide (q.prm.attr=0)||!z,fun h=>?_,fun g k m n xs hm hn hnm=>?_⟩
 ·simp at h
  exact⟨h.1,hz0 h.2⟩
 have h1:=hz g (k+1) m n xs (by omega) (by omega) hnm
 have w1:=w16_bd (k:=0) ha.2
 have w2:=w16_bd (k:=k) hb.2
 have w3:=w16_bd (k:=0) hb.2
 have hs1:∀st:St,mapO (snap1 st) a=some a:=fun st=>w16_snap ha.2
 have hs2:∀st:St,mapO (snap1 st) b=some b:=fun st=>w16_snap hb.2
 have hm2:¬m=k:=by omega
 have hn2:¬n=k:=by omega
 have hm3:¬k≤m:=by omega
 have hn3:¬k≤n:=by omega
 rw[run_open F135 rfl rfl (by simp[V.bdL,V.bd])]
 push_cast[Mov.v,Prm.v]at h1
 by_cases h:q.prm.attr=0
 ·push_cast[h,h1,w1,w2,w3,hs1,hs2,hm,hn,hm2,hn2,hm3,hn3,Mov.v,Prm.v]
 ·push_cast[h,h1,w1,w2,w3,hs1,hs2,hm,hn,hm2,hn2,hm3,hn3,Mov.v,Prm.v]
def DelAt (D:Mov→Bool)(a b:List V)(l:List Mov):Prop:=∀q∈l,∀(g:List (Nat×Obj)) (k m n:Nat) (xs:List Mov),m<k→n<k→¬n=m→run Tryz.prog HH 135 [q.v,kpV a m] (stE g k m b n xs)=some (.ret (.bool (D q)),stE g k m b n xs)
theorem L11o {D:Mov→Bool}{a b:List V}{l:List Mov}(hD:DelAt D a b l){k m n:Nat}(hm:m<k)(hn:n<k)(hnm:¬n=m)(hl:l.length<140737488355328)(hb:W16 b) :
  ∀r j,l.drop j=r→runL Tryz.prog HH [0,1,7,8] k B11_0 [(0,.osl n l.length),(1,.fn (.func 135) [] [kpV a m]),(7,.int .i64 l.length),(8,.int .i64 j)] (stE g k m b n l)=lpI (stE g k m b n l) [] 4 (ix D r j):=by
 have w2:=w16_bd (k:=k) hb.2
 have hm2:¬m=k:=by omega
 have hn2:¬n=k:=by omega
 have hm3:¬k≤m:=by omega
 have hn3:¬k≤n:=by omega
 refine drop_ind (fun j h=>?_) (fun x r j h hx hd ih=>?_)
 all_goals rw[runL_of B11_0.eq_1]
 ·have h1:¬(j:Int)<l.length:=by omega
  push_cast[h1,ix,lpI]
 ·have h1:(j:Int)<l.length:=by omega
  have hw:=iw1 (j:=j) (by omega)
  have hq:=hD x (mem_at hd) g k m n l hm hn hnm
  have e5:=getD_mv (l:=l) (k:=j) h
  rw[hx]at e5
  have e6:ix D (x::r) j=if D x=true then(j:Int) else ix D r (j+1):=rfl
  push_cast[Mov.v]at hq e5
  push_cast[h,h1,hw,hx,hq,e5,w2,hm,hn,hm2,hn2,hm3,hn3,Mov.v]at ih ⊢
  rw[e6]
  cases hd:D x with
  |true=>rw[hd]at hq;push_cast[hq,hm2,hn2,hm3,hn3,hm,hn,lpI_n]
  |false=>rw[hd]at hq;push_cast[hq,ih,w2,hm2,hn2,hm3,hn3,hm,hn]
theorem f11o {D:Mov→Bool}{a b:List V}{l:List Mov}(hD:DelAt D a b l){k m n:Nat}(hm:m<k)(hn:n<k)(hnm:¬n=m)(hl:l.length<140737488355328)(hb:W16 b) :
  run Tryz.prog HH 11 [.osl n l.length,.fn (.func 135) [] [kpV a m]] (stE g k m b n l)=some (.ret (.int .i64 (ix D l 0)),stE g k m b n l):=by
 have w2:=w16_bd (k:=k) hb.2
 have hm2:¬m=k:=by omega
 have hn2:¬n=k:=by omega
 have hm3:¬k≤m:=by omega
 have hn3:¬k≤n:=by omega
 have hL:=L11o (g:=g) hD hm hn hnm hl hb l 0 rfl
 rw[run_open F11 rfl rfl (by simp[V.bdL,V.bd])]
 push_cast at hL
 rcases ix_rng (p:=D) (l:=l) (j:=0) with h|h
 ·rw[h]at hL ⊢
  push_cast[lpI_1]at hL
  push_cast[hL,w2,hm,hn,hm2,hn2,hm3,hn3]
 ·obtain⟨t,ht⟩:∃t:Nat,ix D l 0=t:=⟨(ix D l 0).toNat,by omega⟩
  rw[ht]at hL ⊢
  rw[lpI_n]at hL
  push_cast[hL,w2,hm,hn,hm2,hn2,hm3,hn3]
theorem L134 {D:Mov→Bool}{a b:List V}{l:List Mov}(hD:DelAt D a b l){k m n:Nat}(hm:m<k)(hn:n<k)(hnm:¬n=m)(hl:l.length<140737488355328)(ha:W16 a)(hb:W16 b) :
  ∀r j,l.drop j=r→∀(xs:List Mov) (i:Nat),xs.length=l.length→i≤j→xs.drop j=r→∃xs':List Mov,xs'.length=l.length∧xs'.take (i+(r.filter fun q=>!D q).length)=xs.take i++(r.filter fun q=>!D q) ∧
   runL Tryz.prog HH [0,1,5,6] k B134_0 [(0,.osl n l.length),(1,.fn (.func 135) [] [kpV a m]),(5,.int .i64 i),(6,.int .i64 j)] (stE g k m b n xs)
    = some (.exit 0,[(0,.osl n l.length),(5,.int .i64 ((i+(r.filter fun q=>!D q).length:Nat):Int))],stE g k m b n xs'):=by
 have w2:=w16_bd (k:=k) hb.2
 have w1:=w16_bd (k:=k) ha.2
 have hm2:¬m=k:=by omega
 have hn2:¬n=k:=by omega
 have hm3:¬k≤m:=by omega
 have hn3:¬k≤n:=by omega
 refine drop_ind (fun j h xs i hx1 hij hxd=>?_) (fun x r j h hx hd ih xs i hx1 hij hxd=>?_)
 all_goals rw[runL_of B134_0.eq_1]
 ·have h1:¬(j:Int)<l.length:=by omega
  refine⟨xs,hx1,by simp,?_⟩
  push_cast[hx1,h1,List.filter_nil,List.length_nil,Nat.add_zero]
 ·have h1:(j:Int)<l.length:=by omega
  have hw:=iw1 (j:=j) (by omega)
  have hwi:IntKind.i64.wrap ((i:Int)+1)=((i+1:Nat):Int):=iwrap (by omega) (by omega)
  have hq:=hD x (mem_at hd) g (k+1) m n xs (by omega) (by omega) hnm
  have hj:j<xs.length:=by omega
  have e4:xs.getD j default=x:=by
   have:xs[j]?=some x:=by rw[←List.head?_drop,hxd];rfl
   rw[List.getD_eq_getElem?_getD,this];rfl
  have e5:=getD_mv (l:=xs) (k:=j) hj
  rw[e4]at e5
  have hi:i<xs.length:=by omega
  have hdr:xs.drop (j+1)=r:=by
   rw[←List.drop_drop,hxd];rfl
  cases hd':D x with
  |true =>
   obtain⟨ys,y1,y2,y3⟩:=ih xs i hx1 (by omega) hdr
   have ef:(x::r).filter (fun q=>!D q)=r.filter fun q=>!D q:=by rw[List.filter_cons,hd'];rfl
   rw[ef]
   refine⟨ys,y1,y2,?_⟩
   generalize (r.filter fun q=>!D q).length=z at *
   rw[hd']at hq
   push_cast[Mov.v]at hq e5 y3
   push_cast[h,hj,h1,hw,hx,hx1,hq,e5,w1,w2,hm,hn,hm2,hn2,hm3,hn3,Mov.v]at y3 ⊢
   exact y3
  |false =>
   obtain⟨ys,y1,y2,y3⟩:=ih (xs.set i x) (i+1) (by rw[List.length_set];exact hx1) (by omega) (by rw[List.drop_set_of_lt (by omega)];exact hdr)
   have ef:(x::r).filter (fun q=>!D q)=x::r.filter fun q=>!D q:=by rw[List.filter_cons,hd'];rfl
   have et:(xs.set i x).take (i+1)=xs.take i++[x]:=by
    rw[List.set_eq_take_append_cons_drop,if_pos hi,List.take_append,List.take_take]
    simp[Nat.min_eq_left (Nat.le_of_lt hi)]
   rw[ef,List.length_cons]
   refine⟨ys,y1,?_,?_⟩
   ·rw[show i+((r.filter fun q=>!D q).length+1)=i+1+(r.filter fun q=>!D q).length by omega,y2,et];simp
   rw[show i+((r.filter fun q=>!D q).length+1)=i+1+(r.filter fun q=>!D q).length by omega]
   generalize (r.filter fun q=>!D q).length=z at *
   rw[hd']at hq
   have hgi:xs[i]?=some (xs.getD i default):=by rw[List.getD_eq_getElem?_getD,List.getElem?_eq_getElem hi];rfl
   have hbs:V.bdL k ((xs.set i x).map Mov.v)=true:=by rw[bdL_map',List.all_eq_true];intro q _;rfl
   simp only[stE,List.map_set]at y3 hbs
   generalize xs.getD i default=y at hgi
   push_cast[Mov.v]at hq e5 y3 hbs
   push_cast[h,hj,hi,h1,hw,hwi,hgi,hbs,w1,hx,hx1,hq,e5,w2,hm,hn,hm2,hn2,hm3,hn3,Mov.v]at y3 ⊢
   exact dn_eq (by omega) y3
theorem f134a {D:Mov→Bool}{a b:List V}{l:List Mov}(hD:DelAt D a b l){k m n:Nat}(hm:m<k)(hn:n<k)(hnm:¬n=m)(hl:l.length<140737488355328)(hb:W16 b)(hix:ix D l 0=-1) :
  run Tryz.prog HH 134 [.osl n l.length,.fn (.func 135) [] [kpV a m]] (stE g k m b n l)=some (.ret (.osl n l.length),stE g k m b n l):=by
 have w2:=w16_bd (k:=k) hb.2
 have hm2:¬m=k:=by omega
 have hn2:¬n=k:=by omega
 have hm3:¬k≤m:=by omega
 have hn3:¬k≤n:=by omega
 have h11:=f11o (g:=g) hD hm hn hnm hl hb
 rw[run_open F134 rfl rfl (by simp[V.bdL,V.bd])]
 rw[hix]at h11
 push_cast at h11
 push_cast[h11,w2,hm,hn,hm2,hn2,hm3,hn3]
theorem slice_win {st:St}{a:Arr}{id N es:Nat}{lo hi:Option V}(hl:Sha.look st.arr id=some a)(h1:a.xs.length=N)(h2:a.wr=true)(h3:a.es=es):sliceV st es (.osl id N) lo hi none=(boundsV N lo hi).map fun p=>.win id N p.1 p.2 es:=by
 unfold sliceV
 simp only[fixedV,hl,h1,h2,h3,winV,winA,and_true,true_and,Bool.true_eq_false,false_and,and_false,if_false,if_true]
theorem f134b {D:Mov→Bool}{a b:List V}{l:List Mov}(hD:DelAt D a b l){k m n t:Nat}(hm:m<k)(hn:n<k)(hnm:¬n=m)(hl:l.length<140737488355328)(ha:W16 a)(hb:W16 b)(hix:ix D l 0=t)(ht:t<l.length) :
  ∃(xs:List Mov) (i:Nat),i≤l.length∧xs.length=l.length∧xs.take i=l.take t++(l.drop (t+1)).filter (fun q=>!D q)∧run Tryz.prog HH 134 [.osl n l.length,.fn (.func 135) [] [kpV a m]] (stE g k m b n l)=some (.ret (.win n l.length 0 i 5),stE g k m b n xs):=by
 have w2:=w16_bd (k:=k) hb.2
 have w1:=w16_bd (k:=k) ha.2
 have hm2:¬m=k:=by omega
 have hn2:¬n=k:=by omega
 have hm3:¬k≤m:=by omega
 have hn3:¬k≤n:=by omega
 have h11:=f11o (g:=g) hD hm hn hnm hl hb
 obtain⟨ys,y1,y2,y3⟩:=L134 (g:=g) hD hm hn hnm hl ha hb _ (t+1) rfl l t rfl (by omega) rfl
 have hfl:((l.drop (t+1)).filter fun q=>!D q).length≤l.length-(t+1):=by
  have:=List.length_filter_le (fun q=>!D q) (l.drop (t+1));rw[List.length_drop]at this;exact this
 have hw:IntKind.i64.wrap ((t:Int)+1)=((t+1:Nat):Int):=iwrap (by omega) (by omega)
 have hi:t+((l.drop (t+1)).filter fun q=>!D q).length≤l.length:=by omega
 have h0:¬(t:Int)=-1:=by omega
 rw[hix]at h11
 refine⟨ys.take (t+((l.drop (t+1)).filter fun q=>!D q).length)++List.replicate (l.length-(t+((l.drop (t+1)).filter fun q=>!D q).length)) default,t+((l.drop (t+1)).filter fun q=>!D q).length,hi,?_,?_,?_⟩
 ·simp[y1];omega
 ·rw[List.take_append_of_le_length (by simp[y1];omega),List.take_take,Nat.min_self,y2]
 rw[run_open F134 rfl rfl (by simp[V.bdL,V.bd])]
 generalize t+((l.drop (t+1)).filter fun q=>!D q).length=i at *
 push_cast at h11 y3
 have hsl:=fun(lo hi:Option V)=>slice_win (st:=⟨k,[(m,b)],[(n,⟨45,5,ys.map Mov.v,true,false⟩)],⟨[],g,[]⟩⟩) (a:=⟨45,5,ys.map Mov.v,true,false⟩) (id:=n) (N:=l.length) (es:=5) (lo:=lo) (hi:=hi) (by simp[Sha.look]) (by simp[y1]) rfl rfl
 have hsl2:=fun(lo hi':Option V)=>slice_win (st:=⟨k,[(m,b)],[(n,⟨45,5,(ys.take i++List.replicate (l.length-i) default).map Mov.v,true,false⟩)],⟨[],g,[]⟩⟩) (a:=⟨45,5,(ys.take i++List.replicate (l.length-i) default).map Mov.v,true,false⟩) (id:=n) (N:=l.length) (es:=5) (lo:=lo) (hi:=hi') (by simp[Sha.look]) (by simp[y1];omega) rfl rfl
 have hb1:boundsV l.length (some (.int .i64 (i:Int))) none=some (i,l.length):=by simp[boundsV,optN,natV,hi]
 have hb2:boundsV l.length none (some (.int .i64 (i:Int)))=some (0,i):=by simp[boundsV,optN,natV,hi]
 have hcl:actV (.clr 5 (.agg [.i 0,.i 0,.i 0,.i 0,.i 0])) [.win n l.length i l.length 5] ⟨k,[(m,b)],[(n,⟨45,5,ys.map Mov.v,true,false⟩)],⟨[],g,[]⟩⟩=some (.tup [],⟨k,[(m,b)],[(n,⟨45,5,(ys.take i++List.replicate (l.length-i) default).map Mov.v,true,false⟩)],⟨[],g,[]⟩⟩):=by
  simp only[actV]
  have e1:List.drop l.length (ys.map Mov.v)=[]:=List.drop_eq_nil_of_le (by simp[y1])
  have e2:(default:Mov).v=.agg [.i 0,.i 0,.i 0,.i 0,.i 0]:=rfl
  simp only[clrV,clrA,Sha.look,if_true,List.length_map,y1,hi,Nat.le_refl,and_true,true_and,e1,List.append_nil,updA,List.map_append,List.map_take,List.map_replicate,e2]
  rfl
 push_cast[h11,hw,h0,y1,y3,w1,w2,hm,hn,hm2,hn2,hm3,hn3,hsl,hsl2,hb1,hb2,hcl]
 rfl
end Go.Proofs.YtdnpaifeoinjoaaGreatDoor

namespace Go.Proofs.YtdnpaifeoinjoaaGreatDoor
open Go.Sha
set_option maxRecDepth 100000
variable {g:List (Nat×Obj)}
def mvsF (D:Mov→Bool)(cs:List Cu)(j:Nat):List Mov:=if j<cs.length∧(cs.getD j default).mark=true then(cs.getD j default).moves.filter (fun q=>!D q) else[]
def stB (g:List (Nat×Obj))(k m:Nat)(b:List V):St:=⟨k,[(m,b)],[],⟨[],g,[]⟩⟩
@[push_cast]theorem stB_eq {k m:Nat}{b:List V}:stB g k m b=⟨k,[(m,b)],[],⟨[],g,[]⟩⟩:=idq rfl
inductive RowR (g:List (Nat×Obj)) (k m:Nat) (b:List V):List Mov→V→St→Prop
 |no:RowR g k m b [] (.sl []) (stB g k m b)
 |row (n:Nat) (xs:List Mov):k≤n→RowR g k m b xs (.osl n xs.length) (stE g (n+1) m b n xs)
 |win (n N i:Nat) (xs:List Mov):k≤n→xs.length=N→i≤N→RowR g k m b (xs.take i) (.win n N 0 i 5) (stE g (n+1) m b n xs)
theorem ix_none {D:Mov→Bool}:∀{l:List Mov}{j:Nat},ix D l j=-1→l.filter (fun q=>!D q)=l
 |[],_,_=>rfl
 |x::r,j,h=>by
  have e:ix D (x::r) j=if D x=true then(j:Int) else ix D r (j+1):=rfl
  rw[e]at h
  cases hd:D x with
  |true=>rw[hd,if_pos rfl]at h;omega
  |false=>rw[hd,if_neg (by simp)]at h;rw[List.filter_cons,hd,if_pos (by rfl),ix_none h]
theorem ix_some' {D:Mov→Bool}:∀{l:List Mov}{j:Nat},¬ix D l j=-1→∃t:Nat,ix D l j=((j+t:Nat):Int)∧t<l.length∧l.filter (fun q=>!D q)=l.take t++(l.drop (t+1)).filter (fun q=>!D q)
 |[],_,h=>absurd rfl h
 |x::r,j,h=>by
  have e:ix D (x::r) j=if D x=true then(j:Int) else ix D r (j+1):=rfl
  rw[e]at h ⊢
  cases hd:D x with
  |true=>exact⟨0,by rw[if_pos rfl];rfl,by simp,by rw[List.filter_cons,hd];rfl⟩
  |false =>
   rw[hd,if_neg (by simp)]at h
   obtain⟨t,t1,t2,t3⟩:=ix_some' h
   refine⟨t+1,by rw[if_neg (by simp),t1];omega,by simpa using t2,?_⟩
   rw[List.filter_cons,hd,if_pos (by rfl),t3];rfl
theorem ix_some {D:Mov→Bool}{l:List Mov}(h:¬ix D l 0=-1):∃t:Nat,ix D l 0=(t:Int)∧t<l.length∧l.filter (fun q=>!D q)=l.take t++(l.drop (t+1)).filter (fun q=>!D q):=by
 obtain⟨t,t1,t2,t3⟩:=ix_some' h
 exact⟨t,by rw[t1,Nat.zero_add],t2,t3⟩
theorem f114 {D:Mov→Bool}{a b:List V}{cs:List Cu}{L:List V}(hcl:cs.length≤1000)(hD:∀c∈cs,DelAt D a b c.moves∧c.moves.length≤1000){k m j:Nat}(hm:m<k)(ha:W16 a)(hb:W16 b)(hj:j≤1000)(hL:V.bdL 0 L=true) :
  ∃v s,run Tryz.prog HH 114 [.agg [.sl (cs.map Cu.v),.sl L],.int .i64 j,.fn (.func 115) [] [.ep (.agg a) 0,.ptr m 0]] (stB g k m b)=some (.ret v,s)∧RowR g k m b (mvsF D cs j) v s:=by
 have w2:=w16_bd (k:=k) hb.2
 have w1:=w16_bd (k:=k) ha.2
 have hm2:¬m=k:=by omega
 have hm3:¬k≤m:=by omega
 have hm4:¬m=k+1:=by omega
 have h0:¬(j:Int)<0:=by omega
 rw[run_open F114 rfl rfl (by simp[V.bdL,V.bd])]
 by_cases h1:j<cs.length
 ·have h2:¬(cs.length:Int)≤j:=by omega
  obtain⟨c,hc,hx⟩:∃c,c∈cs∧∀d,cs.getD j d=c:=⟨cs[j],List.getElem_mem h1,fun d=>by rw[List.getD_eq_getElem?_getD,List.getElem?_eq_getElem h1];rfl⟩
  cases hmk:c.mark with
  |false =>
   refine⟨.sl [],stB g k m b,?_,?_⟩
   ·push_cast[h0,h1,h2,hx,hmk,w1,w2,hm,hm2,hm3,hm4,Cu.v]
    exact dn_eq (by omega) rfl
   ·rw[mvsF,hx,hmk,if_neg (by simp)];exact .no
  |true =>
   obtain⟨hDc,hlc⟩:=hD c hc
   have hcn:=fun(st:St)=>r_cln (k:=45) (e:=45) (es:=5) (b:=40) (f:=Mov.v) (l:=c.moves) (st:=st) (fun _ _=>rfl) (fun _=>rfl) (fun _=>rfl) (by omega) (by decide)
   have hE:mvsF D cs j=c.moves.filter fun q=>!D q:=by rw[mvsF,hx,if_pos ⟨h1,hmk⟩]
   rw[hE]
   by_cases hix:ix D c.moves 0=-1
   ·have h134:=f134a (g:=g) (k:=k+1+1+1) (m:=m) (n:=k+1+1) hDc (by omega) (by omega) (by omega) (by omega) hb hix
    push_cast[Mov.v]at h134 hcn
    refine⟨.osl (k+1+1) c.moves.length,stE g (k+1+1+1) m b (k+1+1) c.moves,?_,?_⟩
    ·push_cast[h0,h1,h2,hx,hmk,hcn,h134,w1,w2,hm,hm2,hm3,hm4,Cu.v,Mov.v]
     exact dn_eq (by omega) rfl
    ·rw[ix_none hix];exact .row _ _ (by omega)
   ·obtain⟨t,ht,htl,hsp⟩:=ix_some hix
    obtain⟨xs,i,i1,i2,i3,h134⟩:=f134b (g:=g) (k:=k+1+1+1) (m:=m) (n:=k+1+1) hDc (by omega) (by omega) (by omega) (by omega) ha hb ht htl
    rw[hsp,←i3]
    push_cast[Mov.v]at h134 hcn
    refine⟨.win (k+1+1) c.moves.length 0 i 5,stE g (k+1+1+1) m b (k+1+1) xs,?_,.win _ _ _ _ (by omega) i2 i1⟩
    have hsw:∀(st:St) (p q r s t:Nat),snapV st (.win p q r s t)=some (.win p q r s t):=fun _ _ _ _ _ _=>rfl
    have hbw:V.bd k (.win (k+1+1) c.moves.length 0 i 5)=false:=by simp[V.bd];omega
    push_cast[h0,h1,h2,hx,hmk,hcn,h134,w1,w2,hm,hm2,hm3,hm4,Cu.v,Mov.v,hsw,hbw]
    exact dn_eq (by omega) rfl
 ·have h2:(cs.length:Int)≤j:=by omega
  refine⟨.sl [],stB g k m b,?_,?_⟩
  ·push_cast[h0,h1,h2,w1,w2,hm,hm2,hm3,hm4,Cu.v]
  ·rw[mvsF,if_neg (by simp[h1])];exact .no
theorem early_q {a b:List V}(ha:W16 a)(hb:W16 b):∃D:Mov→Bool,∀q:Mov,0≤q.prm.chan∧q.prm.chan≤999→(∀(g:List (Nat×Obj)) (k m n:Nat) (xs:List Mov),m<k→n<k→¬n=m→run Tryz.prog HH 135 [q.v,kpV a m] (stE g k m b n xs)=some (.ret (.bool (D q)),stE g k m b n xs))∧(D q=false→¬q.prm.attr=0∧∀st,run Tryz.prog HH 58 [.agg a,.int .i64 q.prm.chan] st=some (.ret (.bool false),st)):=by
 refine⟨fun q=>if hq:0≤q.prm.chan∧q.prm.chan≤999 then Classical.choose (f135 ha hb hq) else false,fun q hq=>?_⟩
 simp only[dif_pos hq]
 exact⟨(Classical.choose_spec (f135 ha hb hq)).2,(Classical.choose_spec (f135 ha hb hq)).1⟩
theorem early_D (x:Lst)(h:lstP x=0){a b:List V}{D:Mov→Bool}(hQ:∀q:Mov,0≤q.prm.chan∧q.prm.chan≤999→(∀(g:List (Nat×Obj)) (k m n:Nat) (xs:List Mov),m<k→n<k→¬n=m→run Tryz.prog HH 135 [q.v,kpV a m] (stE g k m b n xs)=some (.ret (.bool (D q)),stE g k m b n xs))∧(D q=false→¬q.prm.attr=0∧∀st,run Tryz.prog HH 58 [.agg a,.int .i64 q.prm.chan] st=some (.ret (.bool false),st))):(∀c∈x.cues,DelAt D a b c.moves∧c.moves.length≤1000)∧∀c∈x.cues,∀q∈c.moves,D q=false→¬q.prm.attr=0∧∀st,run Tryz.prog HH 58 [.agg a,.int .i64 q.prm.chan] st=some (.ret (.bool false),st):=by
 have hm:=lst_mov h
 have hr:∀c∈x.cues,∀q∈c.moves,0≤q.prm.chan∧q.prm.chan≤999:=fun c hc q hqm=>by have:=prm_rng ((hm c hc).2.1 q hqm);omega
 exact⟨fun c hc=>⟨fun q hqm=>(hQ q (hr c hc q hqm)).1,by have:=(hm c hc).1;omega⟩,fun c hc q hqm=>(hQ q (hr c hc q hqm)).2⟩
@[reducible] def entS (l:List (Prm×Val)):V:=.sl (l.map entV)
def lkL (x:Lst):List (List (Prm×Val)):=(List.range x.cues.length).map (entL x)
theorem ent_rng {x:Lst}(h:lstP x=0){k:Nat}:∀e∈entL x k,0≤e.1.chan∧e.1.chan≤999:=fun e he=>by
 obtain⟨p,hp,rfl⟩:=List.mem_map.1 he
 have:=prm_rng (ftpL_rng h p hp)
 show 0≤p.chan∧p.chan≤999
 omega
theorem ent_len {x:Lst}(h:lstP x=0){k:Nat}:(entL x k).length≤8192:=by rw[entL,List.length_map];exact ftpL_len h
theorem lk_at {x:Lst}{k:Nat}(hk:k<x.cues.length)(d:List (Prm×Val)):(lkL x).getD k d=entL x k:=by
 rw[List.getD_eq_getElem?_getD,lkL,List.getElem?_map,List.getElem?_range hk];rfl
theorem lk_len {x:Lst}:(lkL x).length=x.cues.length:=by simp[lkL]
theorem entS_bd {k:Nat}{L:List (List (Prm×Val))}:V.bdL k (L.map entS)=true:=by
 rw[bdL_map',List.all_eq_true];intro l _;simp[V.bd,bdL_map',V.bdL]
theorem z16_w:W16 z16:=⟨rfl,fun v hv=>by simp only[z16,List.mem_cons,List.not_mem_nil,or_false,or_self]at hv;exact⟨_,hv⟩⟩
theorem f76D {x:Lst}(h:lstP x=0){k:Nat}(hk:k<x.cues.length){a b:List V}(ha:W16 a)(hb:W16 b)(h57a:∀st,run Tryz.prog HH 57 [.sl ((entL x k).map entV)] st=some (.ret (.agg a),st))(h57b:∀st,0<k→run Tryz.prog HH 57 [.sl ((entL x (k-1)).map entV)] st=some (.ret (.agg b),st)){D:Mov→Bool}(hD:∀c∈x.cues,DelAt D a (if 0<k then b else z16) c.moves∧c.moves.length≤1000){st:St} :
  run Tryz.prog HH 76 [.agg [.sl (x.cues.map Cu.v),.sl ((lkL x).map entS)],.int .i64 k] st=some (.ret (.sl ((mvsF D x.cues (k+1)).map Mov.v)),st):=by
 have h64:=(lst_parts h).2.2.1
 have hg:=lk_at hk
 have hw:=iw1 (j:=k) (by omega)
 have hl:=lk_len (x:=x)
 have hkl:k<(lkL x).length:=by omega
 have h0:¬(k:Int)<0:=by omega
 have w1:=w16_bd (k:=0) ha.2
 have w2:=w16_bd (k:=0) hb.2
 have s1:∀st:St,mapO (snap1 st) a=some a:=fun st=>w16_snap ha.2
 rw[run_shut F76 rfl rfl (by simp[V.bdL,V.bd,bdL_map',entS_bd])]
 have hz16:=z16_w
 by_cases hk0:k=0
 ·subst hk0
  rw[if_neg (by omega)]at hD
  obtain⟨v,s,h114,hR⟩:=f114 (g:=st.x.gl) (k:=3) (m:=2) (j:=0+1) (L:=(lkL x).map entS) (by omega) hD (by omega) ha hz16 (by omega) entS_bd
  rw[Nat.zero_add]at *
  generalize mvsF D x.cues 1=E at *
  cases hR with
  |no =>
   push_cast at h114
   push_cast[hg,hw,hl,hk,h0,h57a,ha.1,hb.1,w1,w2,s1,h114]
   exact dn_eq (by omega) rfl
  |row n xs hn =>
   push_cast at h114
   push_cast[hg,hw,hl,hk,h0,h57a,ha.1,hb.1,w1,w2,s1,h114,Mov.v]
   exact dn_eq (by omega) rfl
  |win n N i xs hn hN hi =>
   push_cast at h114
   push_cast[hg,hw,hl,hk,h0,h57a,ha.1,hb.1,w1,w2,s1,h114,hN,hi,Mov.v,Nat.zero_le]
   exact dn_eq (by omega) rfl
 ·rw[if_pos (by omega)]at hD
  have h57c:=fun st=>h57b st (by omega)
  obtain⟨p,hp⟩:∃p,p=k-1:=⟨_,rfl⟩
  rw[←hp]at h57c
  have hg2:=lk_at (x:=x) (k:=p) (by omega)
  have hk2:p<x.cues.length:=by omega
  have hp0:(0:Int)<(k:Int):=by omega
  have hp1:(k:Int)-1=(p:Int):=by omega
  have hwp:IntKind.i64.wrap ((k:Int)-1)=(p:Int):=by rw[hp1];exact iwrap (by omega) (by omega)
  have hwp2:IntKind.i64.wrap (p:Int)=(p:Int):=iwrap (by omega) (by omega)
  have t2:List.take 16 b=b:=List.take_of_length_le (by rw[hb.1];exact Nat.le_refl _)
  have s2:∀st:St,mapO (snap1 st) b=some b:=fun st=>w16_snap hb.2
  obtain⟨v,s,h114,hR⟩:=f114 (g:=st.x.gl) (k:=3) (m:=2) (j:=k+1) (L:=(lkL x).map entS) (by omega) hD (by omega) ha hb (by omega) entS_bd
  generalize mvsF D x.cues (k+1)=E at *
  have w22:=w16_bd (k:=2) hb.2
  have w23:=w16_bd (k:=3) hb.2
  cases hR with
  |no =>
   push_cast at h114
   push_cast[hg,hg2,hw,hl,hk,hk2,h0,hp0,hp1,hwp2,h57a,h57c,ha.1,hb.1,w1,w2,w22,w23,s1,s2,t2,h114]
   exact dn_eq (by omega) rfl
  |row n xs hn =>
   push_cast at h114
   push_cast[hg,hg2,hw,hl,hk,hk2,h0,hp0,hp1,hwp2,h57a,h57c,ha.1,hb.1,w1,w2,w22,w23,s1,s2,t2,h114,Mov.v]
   exact dn_eq (by omega) rfl
  |win n N i xs hn hN hi =>
   push_cast at h114
   push_cast[hg,hg2,hw,hl,hk,hk2,h0,hp0,hp1,hwp2,h57a,h57c,ha.1,hb.1,w1,w2,w22,w23,s1,s2,t2,h114,hN,hi,Mov.v,Nat.zero_le]
   exact dn_eq (by omega) rfl
theorem bits_ex {x:Lst}(h:lstP x=0)(k:Nat):∃a b:List V,W16 a∧W16 b∧(∀st,run Tryz.prog HH 57 [.sl ((entL x k).map entV)] st=some (.ret (.agg a),st))∧∀st,0<k→run Tryz.prog HH 57 [.sl ((entL x (k-1)).map entV)] st=some (.ret (.agg b),st):=by
 obtain⟨a,ha,h57a⟩:=f57 (l:=entL x k) (by have:=ent_len h (k:=k);omega) (ent_rng h)
 obtain⟨b,hb,h57b⟩:=f57 (l:=entL x (k-1)) (by have:=ent_len h (k:=k-1);omega) (ent_rng h)
 exact⟨a,b,ha,hb,h57a,fun st _=>h57b st⟩
theorem mvsF_sub {x:Lst}(h:lstP x=0){D:Mov→Bool}{j:Nat}:(mvsF D x.cues j).length≤1000∧∀q∈mvsF D x.cues j,(j<x.cues.length∧q∈(x.cues.getD j default).moves)∧D q=false:=by
 unfold mvsF
 split
 ·rename_i hc
  have hm:x.cues.getD j default∈x.cues:=by rw[List.getD_eq_getElem?_getD,List.getElem?_eq_getElem hc.1];exact List.getElem_mem hc.1
  refine⟨Nat.le_trans (List.length_filter_le ..) (Nat.le_trans (lst_mov h _ hm).1 (by decide)),fun q hq=>?_⟩
  obtain⟨q1,q2⟩:=List.mem_filter.1 hq
  exact⟨⟨hc.1,q1⟩,by simpa using q2⟩
 ·exact⟨Nat.zero_le _,fun q hq=>by cases hq⟩
theorem f76 {x:Lst}(h:lstP x=0){k:Nat}(hk:k<x.cues.length):∃(a:List V) (E:List Mov),W16 a∧(∀st,run Tryz.prog HH 57 [.sl ((entL x k).map entV)] st=some (.ret (.agg a),st))∧E.length≤1000∧(∀q∈E,(k+1<x.cues.length∧q∈(x.cues.getD (k+1) default).moves)∧¬q.prm.attr=0∧∀st,run Tryz.prog HH 58 [.agg a,.int .i64 q.prm.chan] st=some (.ret (.bool false),st))∧∀st,run Tryz.prog HH 76 [.agg [.sl (x.cues.map Cu.v),.sl ((lkL x).map entS)],.int .i64 k] st=some (.ret (.sl (E.map Mov.v)),st):=by
 obtain⟨a,b,ha,hb,h57a,h57b⟩:=bits_ex h k
 obtain⟨D,hQ⟩:=early_q ha (b:=if 0<k then b else z16) (by split<;>first|exact hb|exact z16_w)
 obtain⟨hD,hdk⟩:=early_D x h hQ
 obtain⟨e1,e2⟩:=mvsF_sub h (D:=D) (j:=k+1)
 refine⟨a,mvsF D x.cues (k+1),ha,h57a,e1,fun q hq=>⟨(e2 q hq).1,?_⟩,fun st=>f76D h hk ha hb h57a h57b hD⟩
 obtain⟨⟨q1,q2⟩,q3⟩:=e2 q hq
 refine hdk _ ?_ q q2 q3
 rw[List.getD_eq_getElem?_getD,List.getElem?_eq_getElem q1];exact List.getElem_mem q1
end Go.Proofs.YtdnpaifeoinjoaaGreatDoor

namespace Go.Proofs.YtdnpaifeoinjoaaGreatDoor
open Go.Sha
set_option maxRecDepth 100000
variable {g:List (Nat×Obj)}
theorem f77 {e:Prm×Val}{q:Mov}{st:St}:run Tryz.prog HH 77 [entV e,.ep q.v 0] st=some (.ret (.bool (decide (e.1=q.prm))),st):=by
 obtain⟨⟨a,b⟩,w⟩:=e
 obtain⟨⟨c,d⟩,u,z⟩:=q
 rw[run_shut F77 rfl rfl (by simp)]
 push_cast[Mov.v,Prm.v,entV]
 have e:(a == c&&b == d)=decide ((⟨a,b⟩:Prm)=⟨c,d⟩):=by rw[Bool.eq_iff_iff];simp
 rw[e]
def stQ (g:List (Nat×Obj))(k n:Nat)(M:List (Prm×Val)):St:=⟨k,[],[(n,⟨42,4,M.map entV,true,false⟩)],⟨[],g,[]⟩⟩
@[push_cast]theorem stQ_eq {k n:Nat}{M:List (Prm×Val)}:stQ g k n M=⟨k,[],[(n,⟨42,4,M.map entV,true,false⟩)],⟨[],g,[]⟩⟩:=idq rfl
theorem getD_en {M:List (Prm×Val)}{k:Nat}(h:k<M.length):(M.map entV).getD k .und=entV (M.getD k default):=by
 rw[List.getD_eq_getElem?_getD,List.getElem?_map,List.getD_eq_getElem?_getD,List.getElem?_eq_getElem h];rfl
theorem L50o {q:Mov}{M:List (Prm×Val)}{k n:Nat}(hn:n<k)(hl:M.length<140737488355328) :
  ∀r j,M.drop j=r→runL Tryz.prog HH [0,1,7,8] k B50_0 [(0,.osl n M.length),(1,.fn (.func 77) [] [.ep q.v 0]),(7,.int .i64 M.length),(8,.int .i64 j)] (stQ g k n M)=lpI (stQ g k n M) [] 4 (ix (fun e:Prm×Val=>decide (e.1=q.prm)) r j):=by
 have hn2:¬n=k:=by omega
 have hn3:¬k≤n:=by omega
 refine drop_ind (fun j h=>?_) (fun x r j h hx hd ih=>?_)
 all_goals rw[runL_of B50_0.eq_1]
 ·have h1:¬(j:Int)<M.length:=by omega
  push_cast[h1,ix,lpI]
 ·have h1:(j:Int)<M.length:=by omega
  have hw:=iw1 (j:=j) (by omega)
  have hq:=fun st:St=>f77 (e:=x) (q:=q) (st:=st)
  have e5:=getD_en (M:=M) (k:=j) h
  rw[hx]at e5
  have e6:ix (fun e:Prm×Val=>decide (e.1=q.prm)) (x::r) j=if decide (x.1=q.prm)=true then(j:Int) else ix (fun e:Prm×Val=>decide (e.1=q.prm)) r (j+1):=rfl
  rw[e6]
  by_cases hd:x.1=q.prm
  ·rw[decide_eq_true hd]at hq ⊢
   push_cast[entV,Mov.v]at hq e5
   push_cast[h,h1,hw,hx,hq,e5,hn,hn2,hn3,lpI_n,entV,Mov.v]
  ·rw[decide_eq_false hd]at hq ⊢
   push_cast[entV,Mov.v]at hq e5
   push_cast[h,h1,hw,hx,hq,e5,hn,hn2,hn3,entV,Mov.v]at ih ⊢
   exact ih
theorem f50o {q:Mov}{M:List (Prm×Val)}{k n:Nat}(hn:n<k)(hl:M.length<140737488355328) :
  run Tryz.prog HH 50 [.osl n M.length,.fn (.func 77) [] [.ep q.v 0]] (stQ g k n M)=some (.ret (.int .i64 (ix (fun e:Prm×Val=>decide (e.1=q.prm)) M 0)),stQ g k n M):=by
 have hn2:¬n=k:=by omega
 have hn3:¬k≤n:=by omega
 have hL:=L50o (g:=g) (q:=q) hn hl M 0 rfl
 rw[run_open F50 rfl rfl (by simp[V.bdL,V.bd])]
 push_cast[Mov.v]at hL
 rcases ix_rng (p:=fun e:Prm×Val=>decide (e.1=q.prm)) (l:=M) (j:=0) with h|h
 ·rw[h]at hL ⊢
  push_cast[lpI_1]at hL
  push_cast[hL,hn,hn2,hn3,Mov.v]
 ·obtain⟨t,ht⟩:∃t:Nat,ix (fun e:Prm×Val=>decide (e.1=q.prm)) M 0=t:=⟨(ix (fun e:Prm×Val=>decide (e.1=q.prm)) M 0).toNat,by omega⟩
  rw[ht]at hL ⊢
  rw[lpI_n]at hL
  push_cast[hL,hn,hn2,hn3,Mov.v]
def setM (M:List (Prm×Val))(q:Mov):List (Prm×Val):=if 0≤ix (fun e:Prm×Val=>decide (e.1=q.prm)) M 0 then M.set (ix (fun e:Prm×Val=>decide (e.1=q.prm)) M 0).toNat ((M.getD (ix (fun e:Prm×Val=>decide (e.1=q.prm)) M 0).toNat default).1,q.val) else M
theorem setM_fst {M:List (Prm×Val)}{q:Mov}:(setM M q).map Prod.fst=M.map Prod.fst:=by
 unfold setM
 split
 ·generalize (ix (fun e:Prm×Val=>decide (e.1=q.prm)) M 0).toNat=t
  rw[List.map_set]
  apply List.ext_getElem?
  intro i
  rw[List.getElem?_set]
  split
  ·rename_i e;subst e
   by_cases ht:t<M.length
   ·simp[ht,List.getD_eq_getElem?_getD]
   ·simp[ht]
  ·rfl
 ·rfl
theorem setM_len {M:List (Prm×Val)}{q:Mov}:(setM M q).length=M.length:=by
 have:=congrArg List.length (setM_fst (M:=M) (q:=q));simpa using this
theorem setMs_fst:∀{E:List Mov}{M:List (Prm×Val)},(E.foldl setM M).map Prod.fst=M.map Prod.fst
 |[],_=>rfl
 |q::r,M=>by rw[List.foldl_cons,setMs_fst,setM_fst]
theorem L36 {E:List Mov}{k n:Nat}(hn:n<k)(hE:E.length<140737488355328):∀r j,E.drop j=r→∀M:List (Prm×Val),M.length<140737488355328 →
  runL Tryz.prog HH [5,17,18,19] k B36_0 [(5,.osl n M.length),(17,.sl (E.map Mov.v)),(18,.int .i64 E.length),(19,.int .i64 j)] (stQ g k n M)=some (.exit 0,[(5,.osl n M.length)],stQ g k n (r.foldl setM M)):=by
 have hn2:¬n=k:=by omega
 have hn3:¬k≤n:=by omega
 refine drop_ind (fun j h M hM=>?_) (fun x r j h hx hd ih M hM=>?_)
 all_goals rw[runL_of B36_0.eq_1]
 ·have h1:¬(j:Int)<E.length:=by omega
  push_cast[h1,List.foldl_nil]
 ·have h1:(j:Int)<E.length:=by omega
  have hw:=iw1 (j:=j) (by omega)
  have h50:=f50o (g:=g) (q:=x) (M:=M) (k:=k+1) (n:=n) (by omega) hM
  have ih:=ih (setM M x) (by rw[setM_len];exact hM)
  rw[setM_len]at ih
  rw[List.foldl_cons]
  rcases ix_rng (p:=fun e:Prm×Val=>decide (e.1=x.prm)) (l:=M) (j:=0) with hi|hi
  ·have es:setM M x=M:=by rw[setM,if_neg (by omega)]
   rw[es]at ih ⊢
   rw[hi]at h50
   generalize r.foldl setM M=Z at *
   push_cast[Mov.v]at h50 ih
   push_cast[h,h1,hw,hx,h50,hn,hn2,hn3,Mov.v]at ih ⊢
   exact ih
  ·obtain⟨t,ht⟩:∃t:Nat,ix (fun e:Prm×Val=>decide (e.1=x.prm)) M 0=t:=⟨(ix (fun e:Prm×Val=>decide (e.1=x.prm)) M 0).toNat,by omega⟩
   have htl:t<M.length:=by omega
   have es:setM M x=M.set t ((M.getD t default).1,x.val):=by rw[setM,ht,if_pos (by omega)];rfl
   rw[es]at ih ⊢
   rw[ht]at h50
   have hgi:M[t]?=some (M.getD t default):=by rw[List.getD_eq_getElem?_getD,List.getElem?_eq_getElem htl];rfl
   generalize M.getD t default=y at *
   generalize hZ:r.foldl setM (M.set t (y.1,x.val))=Z at *
   have hbs:V.bdL k ((M.set t (y.1,x.val)).map entV)=true:=by rw[bdL_map',List.all_eq_true];intro q _;rfl
   simp only[stQ,List.map_set]at ih hbs
   have h0:¬(t:Int)<0:=by omega
   have htl2:(t:Int)<M.length:=by omega
   push_cast[Mov.v]at h50 ih hbs
   push_cast[h,h1,hw,hx,h50,hn,hn2,hn3,hgi,htl,htl2,h0,hbs,Mov.v]at ih ⊢
   exact ih
theorem f36E {x:Lst}(h:lstP x=0){k:Nat}(hk:k<x.cues.length){E:List Mov}(hE:E.length≤1000)(h76:∀st,run Tryz.prog HH 76 [.agg [.sl (x.cues.map Cu.v),.sl ((lkL x).map entS)],.int .i64 k] st=some (.ret (.sl (E.map Mov.v)),st)){st:St} :
  run Tryz.prog HH 36 [.agg [.sl (x.cues.map Cu.v),.sl ((lkL x).map entS)],.int .i64 k] st=some (.ret (.sl ((E.foldl setM (entL x k)).map entV)),st):=by
 have h64:=(lst_parts h).2.2.1
 have hle:=ent_len h (k:=k)
 have hEl:E.length<140737488355328:=by omega
 have hg:=lk_at hk
 have hl:=lk_len (x:=x)
 have hcn:=fun(st:St)=>r_cln (k:=75) (e:=42) (es:=4) (b:=32) (f:=entV) (l:=entL x k) (st:=st) (fun _ _=>rfl) (fun _=>rfl) (fun _=>rfl) (by omega) (by decide)
 have hL:=fun n=>L36 (g:=st.x.gl) (E:=E) (k:=n+1) (n:=n) (by omega) hEl E 0 rfl (entL x k) (by omega)
 have hln:(E.foldl setM (entL x k)).length=(entL x k).length:=by
  have:=congrArg List.length (setMs_fst (E:=E) (M:=entL x k));simpa using this
 generalize E.foldl setM (entL x k)=Z at *
 generalize entL x k=M at *
 rw[run_shut F36 rfl rfl (by simp[V.bdL,V.bd,bdL_map',entS_bd])]
 push_cast[entV,Mov.v]at hL hcn h76
 push_cast[hg,hl,hk,hcn,h76,hL,hln]
 exact dn_eq (by omega) rfl
end Go.Proofs.YtdnpaifeoinjoaaGreatDoor

namespace Go.Proofs.YtdnpaifeoinjoaaGreatDoor
open Go.Sha
set_option maxRecDepth 100000
variable {g:List (Nat×Obj)}{n:Nat}{x:Lst}
def stL (g:List (Nat×Obj))(n:Nat)(a:List (List (Prm×Val))):St:=⟨n+1,[],[(n,⟨34,1,a.map entS,false,false⟩)],⟨[],g,[]⟩⟩
@[push_cast]theorem stL_eq {a:List (List (Prm×Val))}:stL g n a=⟨n+1,[],[(n,⟨34,1,a.map entS,false,false⟩)],⟨[],g,[]⟩⟩:=idq rfl
theorem L72 (h:lstP x=0):∀r j,x.cues.drop j=r→j≤x.cues.length→∀a:List (List (Prm×Val)),a=(List.range j).map (entL x) →
  runL Tryz.prog HH [1,5,14,15] (n+1) B72_0 [(1,.ep x.v 0),(5,.osl n a.length),(14,.int .i64 x.cues.length),(15,.int .i64 j)] (stL g n a)
   = some (.exit 0,[(5,.osl n (lkL x).length)],stL g n (lkL x)):=by
 have h64:=(lst_parts h).2.2.1
 refine drop_ind (fun j hj hjl a ha=>?_) (fun q r j hj hx hd ih hjl a ha=>?_)
 all_goals rw[runL_of B72_0.eq_1]
 ·have h1:¬(j:Int)<x.cues.length:=by omega
  have e:a=lkL x:=by rw[ha,lkL,show j=x.cues.length by omega]
  rw[e]
  push_cast[h1]
 ·have h1:(j:Int)<x.cues.length:=by omega
  have hw:=iw1 (j:=j) (by omega)
  have hal:a.length=j:=by rw[ha];simp
  have e1:=fun(st:St)=>f33 (x:=x) (k:=j) (st:=st) h hj
  have hro:roomV (a.length+1) 24=true:=roomV_lit (by omega) (by omega)
  have ih:=ih (by omega) (a++[entL x j]) (by rw[ha,List.range_succ,List.map_append];rfl)
  generalize lkL x=Z at *
  generalize entL x=F at *
  push_cast[Lst.v]at ih e1
  push_cast[h1,hw,e1,hro,Lst.v,List.map_append,List.map_cons,List.map_nil,List.append_assoc,List.singleton_append,List.length_append,List.length_cons,List.length_nil]at ih ⊢
  exact ih
theorem f72 (h:lstP x=0)(hx:x.ok){st:St}:run Tryz.prog HH 72 [x.v] st=some (.ret (.tup [.sl ((lkL x).map entS),.int .i64 0]),st):=by
 have e1:=fun(st:St)=>f113 (x:=x) hx (st:=st)
 rw[h]at e1
 have hL:=L72 (g:=st.x.gl) (n:=1) h _ 0 rfl (Nat.zero_le _) [] rfl
 generalize lkL x=Z at *
 rw[run_shut F72 rfl rfl (by simp)]
 push_cast[Lst.v,List.map_nil,List.length_nil]at hL e1
 push_cast[Lst.v,e1,hL]
theorem f74 {c:Cu}{s:List UInt8}{st:St}:run Tryz.prog HH 74 [c.v,.ep (.agg [.str s]) 0] st=some (.ret (.bool (c.num == s)),st):=by
 rw[run_shut F74 rfl rfl (by simp)]
 push_cast[Cu.v]
 all_goals first|with_reducible rfl|exact dn_eq (by omega) (by with_reducible rfl)|((repeat' split)<;>(try simp_all)<;>(try (with_reducible refine dn_eq ?_ ?_<;>first|trivial|omega|rfl))<;>(try omega))
theorem f73m {l:List Cu}{s:List UInt8}(hl:l.length<140737488355328){st:St}:run Tryz.prog HH 73 [.sl (l.map Cu.v),.fn (.func 74) [] [.ep (.agg [.str s]) 0]] st=some (.ret (.int .i64 (ix (fun x=>x.num == s) l 0)),st) :=
 IxF (f:=Cu.v) (n:=some 9) (fun _=>rfl) (fun _=>rfl) F73 rfl (by simp) hl (fun q _ _=>f74) (fun _ _=>rfl) (fun _=>rfl)
theorem f35 (h:lstP x=0)(hx:x.ok){k:Nat}(hk:k<x.cues.length){st:St}:run Tryz.prog HH 35 [x.v,.str (x.cues.getD k default).num] st=some (.ret (.tup [.agg [.sl (x.cues.map Cu.v),.sl ((lkL x).map entS)],.int .i64 k,.int .i64 0]),st):=by
 have h64:=(lst_parts h).2.2.1
 obtain⟨p1,p2⟩:=plc_own h hk
 have hc:x.cues.getD k default∈x.cues:=by rw[List.getD_eq_getElem?_getD,List.getElem?_eq_getElem hk];exact List.getElem_mem hk
 have h10:=fun(st:St)=>f10 hx h (s:=(x.cues.getD k default).num) (st:=st) (hx.b _ hc).a
 rw[p1,p2,if_pos rfl,Int.toNat_natCast]at h10
 have h72:=fun(st:St)=>f72 (x:=x) h hx (st:=st)
 have h73:=fun(st:St)=>f73m (l:=x.cues) (s:=(x.cues.getD k default).num) (st:=st) (by omega)
 have e:ix (fun c:Cu=>c.num == (x.cues.getD k default).num) x.cues 0=k:=by rw[plcV,if_pos p1]at p2;exact p2
 rw[e]at h73
 generalize (x.cues.getD k default).num=s at *
 generalize entL x k=M at *
 generalize lkL x=Z at *
 rw[run_shut F35 rfl rfl (by simp)]
 push_cast[Lst.v,entV]at h10 h72 h73
 push_cast[Lst.v,h10,h72,h73]
theorem f17o (h:lstP x=0)(hx:x.ok){M:List (Prm×Val)}{k:Nat}(hk:k<x.cues.length)(h36:∀st,run Tryz.prog HH 36 [.agg [.sl (x.cues.map Cu.v),.sl ((lkL x).map entS)],.int .i64 k] st=some (.ret (.sl (M.map entV)),st)){st:St}:run Tryz.prog HH 17 [x.v,.str (x.cues.getD k default).num] st=some (.ret (.tup [.sl (M.map entV),.int .i64 0]),st):=by
 have h35:=fun(st:St)=>f35 (st:=st) h hx hk
 generalize (x.cues.getD k default).num=s at *
 generalize lkL x=Z at *
 rw[run_shut F17 rfl rfl (by simp)]
 push_cast[Lst.v]at h35
 push_cast[Lst.v,h35,h36]
end Go.Proofs.YtdnpaifeoinjoaaGreatDoor

namespace Go.Proofs.YtdnpaifeoinjoaaGreatDoor
open Go.Sha Go.Shelf Go.RowKit
set_option maxRecDepth 100000
theorem basT:BasT Tryz.prog:=⟨by kernel_rfl,Tryz.underlying0,Tryz.isAgg0,Tryz.sizeOf0,Tryz.zeroValue0,Tryz.underlying3,Tryz.isAgg3,Tryz.sizeOf3,Tryz.zeroValue3,Tryz.underlying4,Tryz.isAgg4,Tryz.sizeOf4,Tryz.zeroValue4,Tryz.underlying9,Tryz.isAgg9,Tryz.sizeOf9,Tryz.zeroValue9,Tryz.underlying20,Tryz.isAgg20,Tryz.sizeOf20,Tryz.zeroValue20⟩
def rnM:Ren:=⟨fun x=>if x=29 then 108 else 109,fun x=>if x=24 then 27 else if x=9 then 45 else x,fun x=>x⟩
theorem slM:SlB Tryz.prog 24 9 5 40 rnM:=slT basT rfl rfl rfl Tryz.underlying27 Tryz.isAgg27 Tryz.sizeOf27 Tryz.zeroValue27 Tryz.isAgg45 Tryz.sizeOf45 Tryz.zeroValue45 (by kernel_rfl) (by kernel_rfl) (by kernel_rfl)
theorem bearsI:Bears Tryz.prog 66 (Body2.n22 rnM):=⟨"slices.Insert[[]luminaire/api.Move,luminaire/api.Move]",by decide,by kernel_rfl⟩
theorem ovM:OvL Tryz.prog 108 27 4:=fun args w=>by
 rw[run_callFunc_extern Tryz.func108 (by kernel_rfl) (by kernel_rfl) (by kernel_rfl) (e:=Extern.SlicesOverlaps.overlaps #[27,27] #[4]) (by kernel_rfl)]
def rnG:Ren:=⟨fun x=>if x=4 then 97 else x,fun x=>if x=22 then 34 else if x=25 then 42 else x,fun x=>x⟩
theorem bearsG:Bears Tryz.prog 97 (Body8.n4 rnG):=⟨"slices.Grow[[]luminaire/api.Entry,luminaire/api.Entry]",by decide,by kernel_rfl⟩
theorem infoG:(Tryz.prog.info? 42).map (fun i=>(i.zero,i.size,i.bytes))=some (some (.agg #[.int .i64 0,.int .i64 0,.int .i64 0,.int .i64 0]),4,32):=by kernel_rfl
end Go.Proofs.YtdnpaifeoinjoaaGreatDoor

namespace Go.Proofs.YtdnpaifeoinjoaaGreatDoor
open Go.Sha
set_option maxRecDepth 10000
theorem F136:compF Tryz.prog 136=some ⟨13,[.tmp 4,.tmp 5,.tmp 6],(.g [.s 4 (.mv (.w [])),.s 5 (.mv (.w [])),.k 6 false] (.g [.m 7 0,.m 8 1,.g' 9 156 7 8,.j 10 0 9,.j 11 1 9,.j 12 2 9,.m 4 10,.m 5 11,.m 6 12] (.ret [4,5,6])))⟩:=by kernel_rfl
theorem F140:compF Tryz.prog 140=some ⟨8,[.tmp 4],(.g [.k 4 false] (.g [.m 5 0,.m 6 1,.g' 7 159 5 6,.m 4 7] (.ret [4])))⟩:=by kernel_rfl
theorem F157:compF Tryz.prog 157=some ⟨9,[.tmp 4],(.g [.k 4 false] (.g [.m 5 0,.m 6 1,.g' 7 167 5 6,.v 8 .geq 7 0,.m 4 8] (.ret [4])))⟩:=by kernel_rfl
theorem F156:compF Tryz.prog 156=some ⟨23,[.tmp 4,.tmp 5,.tmp 6],(.g [.s 4 (.mv (.w [])),.s 5 (.mv (.w [])),.k 6 false] (.join [0] (.g [.m 8 0,.m 9 1,.g' 10 166 8 9,.m 7 10] (.g [.m 11 7,.v 12 .geq 11 0] (.i 12 (.q (.dreg 12 [.m 13 0,.m 14 7,.s 15 (.slices (.t 13) none (some (.t 14))),.m 16 0,.m 17 7,.m 18 1,.s 19 (.lens (.t 18)),.b 20 .add 17 19,.s 21 (.slices (.t 16) (some (.t 20)) none),.m 4 15,.m 5 21,.k 6 true]) (.ret [4,5,6])) .skip))) (.g [.m 22 0,.m 4 22,.s 5 (.mv (.w [])),.k 6 false] (.ret [4,5,6]))))⟩:=by kernel_rfl
theorem F159:compF Tryz.prog 159=some ⟨21,[.tmp 4],(.g [.k 4 false] (.join [4] (.reg [.m 5 0,.s 6 (.lens (.t 5)),.m 7 1,.s 8 (.lens (.t 7)),.b 9 .geq 6 8,.m 10 9,.my 11 0 10,.my 12 0 10,.y 13 (.lens (.t 12)) 10,.my 14 1 10,.y 15 (.lens (.t 14)) 10,.by' 16 .sub 13 15 10,.y 17 (.slices (.t 11) (some (.t 16)) none) 10,.my 18 1 10,.by' 19 .eql 17 18 10,.e 20 10 19,.m 4 20]) (.ret [4])))⟩:=by kernel_rfl
theorem F167:compF Tryz.prog 167=some ⟨8,[.tmp 4],(.g [.c 4 0] (.g [.m 5 0,.m 6 1,.s 7 (.f 174 [.t 5,.t 6,(.c (.bool true))]),.m 4 7] (.ret [4])))⟩:=by kernel_rfl
end Go.Proofs.YtdnpaifeoinjoaaGreatDoor

namespace Go.Proofs
open Go.Shelf
def Tryz.laysC172_ren:Go.Shelf.Ren:=⟨fun|172=>178|244=>179|245=>180|247=>181|279=>182|280=>183|281=>184|282=>185|287=>186|316=>187|171=>189|205=>188|321=>190|322=>191|243=>192|246=>193|283=>194|284=>195|285=>196|286=>197|129=>154|317=>198|318=>199|319=>200|320=>201|337=>202|338=>203|n=>n,fun|9=>9|3=>3|75=>208|76=>209|4=>4|5=>5|167=>212|37=>171|0=>0|85=>213|2=>2|168=>215|53=>101|175=>218|46=>151|210=>222|127=>226|145=>229|143=>227|21=>21|171=>231|173=>233|212=>236|51=>184|20=>20|213=>237|232=>238|233=>239|80=>240|n=>n,fun|15=>1|16=>2|17=>3|18=>4|19=>5|n=>n⟩
theorem Tryz.laysC172:Go.Proofs.LaysC.n172 Tryz.prog Tryz.laysC172_ren:={
 mixed:=by kernel_rfl
 f129:=Tryz.func154.trans (congrArg some (by kernel_rfl))
 f171:=Tryz.func189.trans (congrArg some (by kernel_rfl))
 f172:=Tryz.func178.trans (congrArg some (by kernel_rfl))
 f205:=Tryz.func188.trans (congrArg some (by kernel_rfl))
 f243:=Tryz.func192.trans (congrArg some (by kernel_rfl))
 f244:=Tryz.func179.trans (congrArg some (by kernel_rfl))
 f245:=Tryz.func180.trans (congrArg some (by kernel_rfl))
 f246:=Tryz.func193.trans (congrArg some (by kernel_rfl))
 f247:=Tryz.func181.trans (congrArg some (by kernel_rfl))
 f279:=Tryz.func182.trans (congrArg some (by kernel_rfl))
 f280:=Tryz.func183.trans (congrArg some (by kernel_rfl))
 f281:=Tryz.func184.trans (congrArg some (by kernel_rfl))
 f282:=Tryz.func185.trans (congrArg some (by kernel_rfl))
 f283:=Tryz.func194.trans (congrArg some (by kernel_rfl))
 f284:=Tryz.func195.trans (congrArg some (by kernel_rfl))
 f285:=Tryz.func196.trans (congrArg some (by kernel_rfl))
 f286:=Tryz.func197.trans (congrArg some (by kernel_rfl))
 f287:=Tryz.func186.trans (congrArg some (by kernel_rfl))
 f316:=Tryz.func187.trans (congrArg some (by kernel_rfl))
 f317:=Tryz.func198.trans (congrArg some (by kernel_rfl))
 f318:=Tryz.func199.trans (congrArg some (by kernel_rfl))
 f319:=Tryz.func200.trans (congrArg some (by kernel_rfl))
 f320:=Tryz.func201.trans (congrArg some (by kernel_rfl))
 f321:=Tryz.func190.trans (congrArg some (by kernel_rfl))
 f322:=Tryz.func191.trans (congrArg some (by kernel_rfl))
 f337:=Tryz.func202.trans (congrArg some (by kernel_rfl))
 f338:=Tryz.func203.trans (congrArg some (by kernel_rfl))
 t0:=Tryz.underlying0
 a0:=Tryz.isAgg0
 z0:=Tryz.sizeOf0
 v0:=Tryz.zeroValue0
 t2:=Tryz.underlying2
 a2:=Tryz.isAgg2
 z2:=Tryz.sizeOf2
 v2:=Tryz.zeroValue2
 t3:=Tryz.underlying3
 a3:=Tryz.isAgg3
 z3:=Tryz.sizeOf3
 v3:=Tryz.zeroValue3
 t4:=Tryz.underlying4
 a4:=Tryz.isAgg4
 z4:=Tryz.sizeOf4
 v4:=Tryz.zeroValue4
 t5:=Tryz.underlying5
 a5:=Tryz.isAgg5
 z5:=Tryz.sizeOf5
 v5:=Tryz.zeroValue5
 t9:=Tryz.underlying9
 a9:=Tryz.isAgg9
 z9:=Tryz.sizeOf9
 v9:=Tryz.zeroValue9
 t20:=Tryz.underlying20
 a20:=Tryz.isAgg20
 z20:=Tryz.sizeOf20
 v20:=Tryz.zeroValue20
 t21:=Tryz.underlying21
 a21:=Tryz.isAgg21
 z21:=Tryz.sizeOf21
 v21:=Tryz.zeroValue21
 t37:=Tryz.underlying171
 a37:=Tryz.isAgg171
 z37:=Tryz.sizeOf171
 v37:=Tryz.zeroValue171
 t46:=Tryz.underlying151
 a46:=Tryz.isAgg151
 z46:=Tryz.sizeOf151
 v46:=Tryz.zeroValue151
 t51:=Tryz.underlying184
 a51:=Tryz.isAgg184
 z51:=Tryz.sizeOf184
 v51:=Tryz.zeroValue184
 t53:=Tryz.underlying101
 a53:=Tryz.isAgg101
 z53:=Tryz.sizeOf101
 v53:=Tryz.zeroValue101
 t75:=Tryz.underlying208
 a75:=Tryz.isAgg208
 z75:=Tryz.sizeOf208
 v75:=Tryz.zeroValue208
 t76:=Tryz.underlying209
 a76:=Tryz.isAgg209
 z76:=Tryz.sizeOf209
 v76:=Tryz.zeroValue209
 t85:=Tryz.underlying213
 a85:=Tryz.isAgg213
 z85:=Tryz.sizeOf213
 v85:=Tryz.zeroValue213
 t127:=Tryz.underlying226
 a127:=Tryz.isAgg226
 z127:=Tryz.sizeOf226
 v127:=Tryz.zeroValue226
 t143:=Tryz.underlying227
 a143:=Tryz.isAgg227
 z143:=Tryz.sizeOf227
 v143:=Tryz.zeroValue227
 t145:=Tryz.underlying229
 a145:=Tryz.isAgg229
 z145:=Tryz.sizeOf229
 v145:=Tryz.zeroValue229
 t167:=Tryz.underlying212
 a167:=Tryz.isAgg212
 z167:=Tryz.sizeOf212
 v167:=Tryz.zeroValue212
 t168:=Tryz.underlying215
 a168:=Tryz.isAgg215
 z168:=Tryz.sizeOf215
 v168:=Tryz.zeroValue215
 t171:=Tryz.underlying231
 a171:=Tryz.isAgg231
 z171:=Tryz.sizeOf231
 v171:=Tryz.zeroValue231
 t173:=Tryz.underlying233
 a173:=Tryz.isAgg233
 z173:=Tryz.sizeOf233
 v173:=Tryz.zeroValue233
 t175:=Tryz.underlying218
 a175:=Tryz.isAgg218
 z175:=Tryz.sizeOf218
 v175:=Tryz.zeroValue218
 t210:=Tryz.underlying222
 a210:=Tryz.isAgg222
 z210:=Tryz.sizeOf222
 v210:=Tryz.zeroValue222
 t212:=Tryz.underlying236
 a212:=Tryz.isAgg236
 z212:=Tryz.sizeOf236
 v212:=Tryz.zeroValue236
 t213:=Tryz.underlying237
 a213:=Tryz.isAgg237
 z213:=Tryz.sizeOf237
 t232:=Tryz.underlying238
 a232:=Tryz.isAgg238
 z232:=Tryz.sizeOf238
 v232:=Tryz.zeroValue238
 t233:=Tryz.underlying239
 a233:=Tryz.isAgg239
 z233:=Tryz.sizeOf239
 v233:=Tryz.zeroValue239
 g15:=by kernel_rfl
 g16:=by kernel_rfl
 g17:=by kernel_rfl
 g18:=by kernel_rfl
 g19:=by kernel_rfl
 t80:=Tryz.underlying240
 a80:=Tryz.isAgg240
 z80:=Tryz.sizeOf240
 v80:=Tryz.zeroValue240
 i0:=by kernel_rfl
 i2:=by kernel_rfl
 i3:=by kernel_rfl
 i4:=by kernel_rfl
 i5:=by kernel_rfl
 i9:=by kernel_rfl
 i20:=by kernel_rfl
 i21:=by kernel_rfl
 i37:=by kernel_rfl
 i46:=by kernel_rfl
 i51:=by kernel_rfl
 i53:=by kernel_rfl
 i75:=by kernel_rfl
 i76:=by kernel_rfl
 i80:=by kernel_rfl
 i85:=by kernel_rfl
 i127:=by kernel_rfl
 i143:=by kernel_rfl
 i145:=by kernel_rfl
 i167:=by kernel_rfl
 i168:=by kernel_rfl
 i171:=by kernel_rfl
 i173:=by kernel_rfl
 i175:=by kernel_rfl
 i210:=by kernel_rfl
 i212:=by kernel_rfl
 i232:=by kernel_rfl
 i233:=by kernel_rfl
 m15:=by kernel_rfl
 m16:=by kernel_rfl
 m17:=by kernel_rfl
 m18:=by kernel_rfl
 m19:=by kernel_rfl
 c0:=by kernel_rfl
 c2:=by kernel_rfl
 c3:=by kernel_rfl
 c4:=by kernel_rfl
 c5:=by kernel_rfl
 c9:=by kernel_rfl
 c20:=by kernel_rfl
 c21:=by kernel_rfl
 c37:=by kernel_rfl
 c46:=by kernel_rfl
 c51:=by kernel_rfl
 c53:=by kernel_rfl
 c75:=by kernel_rfl
 c76:=by kernel_rfl
 c80:=by kernel_rfl
 c85:=by kernel_rfl
 c127:=by kernel_rfl
 c143:=by kernel_rfl
 c145:=by kernel_rfl
 c167:=by kernel_rfl
 c168:=by kernel_rfl
 c171:=by kernel_rfl
 c173:=by kernel_rfl
 c175:=by kernel_rfl
 c210:=by kernel_rfl
 c212:=by kernel_rfl
 c213:=by kernel_rfl
 c232:=by kernel_rfl
 c233:=by kernel_rfl }
open Go.RowKit in
theorem Tryz.strconv_Atoi_ok (s:ByteArray)(hmax:s.size≤9223372036854775806)(v:Int)(h:Lib.atoiAll s.data.toList=.ok v)(w:World) :
  Calls Tryz.prog 178 #[.string s] w fun e w'=>e=.returned (.tuple #[.int .i64 v,.nilIface])∧(w'=w∨∃t,w'=Lib.bytesWorld w 5 t):=Any.strconv_Atoi_ok Tryz.laysC172 s hmax v h w
def Tryz.lays219_ren:Go.Shelf.Ren:=⟨fun|219=>166|217=>170|225=>171|224=>172|267=>173|266=>176|314=>177|n=>n,fun|9=>9|3=>3|4=>4|5=>5|46=>151|146=>205|51=>184|n=>n,fun|1=>0|n=>n⟩
theorem Tryz.lays219:Go.Proofs.Lays.n219 Tryz.prog Tryz.lays219_ren:={
 mixed:=by kernel_rfl
 f217:=Tryz.func170.trans (congrArg some (by kernel_rfl))
 f219:=Tryz.func166.trans (congrArg some (by kernel_rfl))
 f224:=Tryz.func172.trans (congrArg some (by kernel_rfl))
 f225:=Tryz.func171.trans (congrArg some (by kernel_rfl))
 f266:=Tryz.func176.trans (congrArg some (by kernel_rfl))
 f267:=Tryz.func173.trans (congrArg some (by kernel_rfl))
 f314:=Tryz.func177.trans (congrArg some (by kernel_rfl))
 t3:=Tryz.underlying3
 a3:=Tryz.isAgg3
 z3:=Tryz.sizeOf3
 v3:=Tryz.zeroValue3
 t4:=Tryz.underlying4
 a4:=Tryz.isAgg4
 z4:=Tryz.sizeOf4
 v4:=Tryz.zeroValue4
 t5:=Tryz.underlying5
 a5:=Tryz.isAgg5
 z5:=Tryz.sizeOf5
 v5:=Tryz.zeroValue5
 t9:=Tryz.underlying9
 a9:=Tryz.isAgg9
 z9:=Tryz.sizeOf9
 v9:=Tryz.zeroValue9
 t46:=Tryz.underlying151
 a46:=Tryz.isAgg151
 z46:=Tryz.sizeOf151
 v46:=Tryz.zeroValue151
 t51:=Tryz.underlying184
 a51:=Tryz.isAgg184
 z51:=Tryz.sizeOf184
 v51:=Tryz.zeroValue184
 t146:=Tryz.underlying205
 a146:=Tryz.isAgg205
 z146:=Tryz.sizeOf205
 v146:=Tryz.zeroValue205
 g1:=by kernel_rfl }
open Go.RowKit Go.Lib in
theorem Tryz.stringslite_Index_one (s:ByteArray)(c:UInt8)(w:World) :
  Calls Tryz.prog 166 #[.string s,.string ⟨#[c]⟩] w fun e w'=>e=.returned (.int .i64 (Lib.indexByte s.data.toList c))∧w'=w:=Any.stringslite_Index_one Tryz.lays219 s c w
def Tryz.lays315_ren:Go.Shelf.Ren:=⟨fun|315=>174|n=>n,fun|9=>9|40=>188|4=>4|3=>3|0=>0|21=>21|n=>n,fun|n=>n⟩
theorem Tryz.lays315:Go.Proofs.Lays.n315 Tryz.prog Tryz.lays315_ren:={
 mixed:=by kernel_rfl
 f315:=Tryz.func174.trans (congrArg some (by kernel_rfl))
 t0:=Tryz.underlying0
 a0:=Tryz.isAgg0
 z0:=Tryz.sizeOf0
 v0:=Tryz.zeroValue0
 t3:=Tryz.underlying3
 a3:=Tryz.isAgg3
 z3:=Tryz.sizeOf3
 v3:=Tryz.zeroValue3
 t4:=Tryz.underlying4
 a4:=Tryz.isAgg4
 z4:=Tryz.sizeOf4
 v4:=Tryz.zeroValue4
 t9:=Tryz.underlying9
 a9:=Tryz.isAgg9
 z9:=Tryz.sizeOf9
 v9:=Tryz.zeroValue9
 t21:=Tryz.underlying21
 a21:=Tryz.isAgg21
 z21:=Tryz.sizeOf21
 v21:=Tryz.zeroValue21
 t40:=Tryz.underlying188
 a40:=Tryz.isAgg188
 z40:=Tryz.sizeOf188
 v40:=Tryz.zeroValue188 }
open Go.RowKit Go.Lib in
theorem Tryz.strings_indexFunc (g:Nat)(lb:Array Value)(eg:∀args w,(callFunc g args).run Tryz.prog w=.ok (.enter g args) w)(p:Nat→Bool)(truth:Bool)(s:ByteArray)(w:World)(hp:PredAt Tryz.prog g lb encR p w) :
  Calls Tryz.prog 174 #[.string s,.func (.func g) #[] lb,.bool truth] w fun e w'=>e=.returned (.int .i64 (Lib.idxFunc p truth s))∧Below w.heap.size w w':=Any.strings_indexFunc Tryz.lays315 g lb eg p truth s w hp
def Tryz.laysSort_ren:Go.Shelf.Ren:=⟨fun|6=>112|15=>132|14=>131|28=>153|29=>154|20=>145|21=>146|22=>147|23=>148|24=>149|25=>150|26=>151|27=>152|46=>160|47=>161|48=>162|49=>163|50=>164|57=>168|n=>n,fun|22=>115|24=>38|25=>126|3=>3|39=>151|0=>0|53=>184|55=>101|4=>4|46=>178|45=>177|50=>111|5=>5|9=>9|66=>189|70=>193|76=>198|77=>199|n=>n,fun|n=>n⟩
theorem Tryz.laysSort:Go.Proofs.SlLaysF0.n6 Tryz.prog Tryz.laysSort_ren:={
 mixed:=by kernel_rfl
 f6:=⟨Tryz.f112.name,by decide,Tryz.func112.trans (congrArg some (by kernel_rfl))⟩
 f14:=⟨Tryz.f131.name,by decide,Tryz.func131.trans (congrArg some (by kernel_rfl))⟩
 f15:=Tryz.func132.trans (congrArg some (by kernel_rfl))
 f20:=⟨Tryz.f145.name,by decide,Tryz.func145.trans (congrArg some (by kernel_rfl))⟩
 f21:=⟨Tryz.f146.name,by decide,Tryz.func146.trans (congrArg some (by kernel_rfl))⟩
 f22:=⟨Tryz.f147.name,by decide,Tryz.func147.trans (congrArg some (by kernel_rfl))⟩
 f23:=⟨Tryz.f148.name,by decide,Tryz.func148.trans (congrArg some (by kernel_rfl))⟩
 f24:=⟨Tryz.f149.name,by decide,Tryz.func149.trans (congrArg some (by kernel_rfl))⟩
 f25:=⟨Tryz.f150.name,by decide,Tryz.func150.trans (congrArg some (by kernel_rfl))⟩
 f26:=⟨Tryz.f151.name,by decide,Tryz.func151.trans (congrArg some (by kernel_rfl))⟩
 f27:=⟨Tryz.f152.name,by decide,Tryz.func152.trans (congrArg some (by kernel_rfl))⟩
 f28:=Tryz.func153.trans (congrArg some (by kernel_rfl))
 f29:=Tryz.func154.trans (congrArg some (by kernel_rfl))
 f46:=⟨Tryz.f160.name,by decide,Tryz.func160.trans (congrArg some (by kernel_rfl))⟩
 f47:=Tryz.func161.trans (congrArg some (by kernel_rfl))
 f48:=Tryz.func162.trans (congrArg some (by kernel_rfl))
 f49:=⟨Tryz.f163.name,by decide,Tryz.func163.trans (congrArg some (by kernel_rfl))⟩
 f50:=⟨Tryz.f164.name,by decide,Tryz.func164.trans (congrArg some (by kernel_rfl))⟩
 f57:=⟨Tryz.f168.name,by decide,Tryz.func168.trans (congrArg some (by kernel_rfl))⟩
 t0:=Tryz.underlying0
 a0:=Tryz.isAgg0
 z0:=Tryz.sizeOf0
 v0:=Tryz.zeroValue0
 t3:=Tryz.underlying3
 a3:=Tryz.isAgg3
 z3:=Tryz.sizeOf3
 v3:=Tryz.zeroValue3
 t4:=Tryz.underlying4
 a4:=Tryz.isAgg4
 z4:=Tryz.sizeOf4
 v4:=Tryz.zeroValue4
 t5:=Tryz.underlying5
 a5:=Tryz.isAgg5
 z5:=Tryz.sizeOf5
 v5:=Tryz.zeroValue5
 t9:=Tryz.underlying9
 a9:=Tryz.isAgg9
 z9:=Tryz.sizeOf9
 v9:=Tryz.zeroValue9
 t22:=Tryz.underlying115
 a22:=Tryz.isAgg115
 z22:=Tryz.sizeOf115
 v22:=Tryz.zeroValue115
 t25:=Tryz.underlying126
 a25:=Tryz.isAgg126
 z25:=Tryz.sizeOf126
 v25:=Tryz.zeroValue126
 t39:=Tryz.underlying151
 a39:=Tryz.isAgg151
 z39:=Tryz.sizeOf151
 v39:=Tryz.zeroValue151
 t45:=Tryz.underlying177
 a45:=Tryz.isAgg177
 z45:=Tryz.sizeOf177
 v45:=Tryz.zeroValue177
 t46:=Tryz.underlying178
 a46:=Tryz.isAgg178
 z46:=Tryz.sizeOf178
 v46:=Tryz.zeroValue178
 t50:=Tryz.underlying111
 a50:=Tryz.isAgg111
 z50:=Tryz.sizeOf111
 v50:=Tryz.zeroValue111
 t53:=Tryz.underlying184
 a53:=Tryz.isAgg184
 z53:=Tryz.sizeOf184
 v53:=Tryz.zeroValue184
 t55:=Tryz.underlying101
 a55:=Tryz.isAgg101
 z55:=Tryz.sizeOf101
 v55:=Tryz.zeroValue101
 t66:=Tryz.underlying189
 a66:=Tryz.isAgg189
 z66:=Tryz.sizeOf189
 v66:=Tryz.zeroValue189
 t70:=Tryz.underlying193
 a70:=Tryz.isAgg193
 z70:=Tryz.sizeOf193
 v70:=Tryz.zeroValue193
 t76:=Tryz.underlying198
 a76:=Tryz.isAgg198
 z76:=Tryz.sizeOf198
 v76:=Tryz.zeroValue198
 t77:=Tryz.underlying199
 a77:=Tryz.isAgg199
 z77:=Tryz.sizeOf199
 v77:=Tryz.zeroValue199 }
open Go.RowKit Go.Sort in
theorem Tryz.sort_none (p:Option Addr)(cap:Nat)(fv:Value)(w:World):Calls Tryz.prog 112 #[.slice p 0 cap,fv] w fun e w'=>e=.returned (.tuple #[])∧w'=w:=AnyF.slices_SortFunc_none Tryz.laysSort p cap fv w
open Go.RowKit Go.Sort in
theorem Tryz.sort_total {α:Type}[Inhabited α](aE:∀w,(isAgg 38).run Tryz.prog w=.ok true w)(zE:∀w,(Go.sizeOf 38).run Tryz.prog w=.ok 2 w)(enc:α→List Value)(hk:∀x,(enc x).length=2)(h1:∀x,∀v∈enc x,v.oneCell'=true)(cf:α→α→Int)(hO:SWO (ltOf cf))(hT:∀x y,(ltOf cf) x y=false→(ltOf cf) y x=false→x=y)(g:Nat)(eg:∀args w,(callFunc g args).run Tryz.prog w=.ok (.enter g args) w)(blk off cap:Nat)(d:Array α)(w:World)
  (hcmp:CmpLays Tryz.prog g #[] enc 2 cf blk off d.size w) (hH:HoldsK enc 2 w blk off d) (hblk:blk<w.heap.size) (hsz:d.size<4611686018427387904) :
  Calls Tryz.prog 112 #[.slice (some ⟨blk,off,none⟩) d.size cap,.func (.func g) #[] #[]] w fun e w'=>e=.returned (.tuple #[])∧∃n os,w'=sortWorldK enc 2 w blk off n (d.toList.mergeSort fun x y=>!(ltOf cf) y x).toArray os:=AnyQ.slices_SortFunc_total Tryz.laysSort 2 aE zE enc hk h1 cf hO g #[] blk off cap d w eg hcmp hH hblk hsz hT
end Go.Proofs

namespace Go.Proofs.YtdnpaifeoinjoaaGreatDoor
open Go.Sha Go.RowKit
set_option maxRecDepth 100000
variable {g:List (Nat×Obj)}{n:Nat}
def othR (r:Nat):Bool:=decide (r<48)||decide (57<r)
def q166:List V→Option VRes
 |[.str s,.str [c]]=>some (.ret (.int .i64 (Lib.indexByte s c)))
 |_=>none
def q174:List V→Option VRes
 |[.str s,.fn (.func 158) [] [],.bool true]=>some (.ret (.int .i64 (Lib.idxFunc othR true ⟨s.toArray⟩)))
 |_=>none
def HL0:EvF:=⟨[],fun f args st=>(bif Nat.beq f 166 then q166 args else bif Nat.beq f 174 then q174 args else none).map fun r=>(r,st)⟩
@[push_cast]theorem HL0_raw:HL0.raw=[]:=idq rfl
theorem k166 {s:List UInt8}{c:UInt8}{st:St}:run Tryz.prog HL0 166 [.str s,.str [c]] st=some (.ret (.int .i64 (Lib.indexByte s c)),st):=run_H rfl
theorem k174 {s:List UInt8}{st:St}:run Tryz.prog HL0 174 [.str s,.fn (.func 158) [] [],.bool true] st=some (.ret (.int .i64 (Lib.idxFunc othR true ⟨s.toArray⟩)),st):=run_H rfl
theorem idx_tw {c:UInt8}:∀{s:List UInt8},Lib.indexByte s c=if s.contains c=true then((s.takeWhile (· != c)).length:Int) else -1
 |[]=>rfl
 |b::s=>by
  have ih:=idx_tw (c:=c) (s:=s)
  rw[Lib.indexByte,ih]
  by_cases h:b=c
  ·subst h;simp
  ·have h2:(b == c)=false:=by simpa using h
   have h3:(b != c)=true:=by simpa using h
   rw[h2,List.takeWhile_cons,if_pos h3,List.contains_cons,show(c == b)=false by simpa using fun e=>h e.symm,Bool.false_or,List.length_cons]
   cases s.contains c
   ·rfl
   ·simp only[if_true]
    rw[if_neg (by simp),if_neg (by simp)];omega
theorem drop_tw {p:UInt8→Bool}{s:List UInt8}:s.drop ((s.takeWhile p).length+1)=(s.dropWhile p).drop 1:=by rw[←List.drop_drop,drop_w]
theorem tw_none {c:UInt8}:∀{s:List UInt8},s.contains c=false→s.takeWhile (· != c)=s∧s.dropWhile (· != c)=[]
 |[],_=>⟨rfl,rfl⟩
 |b::r,h=>by
  have hb:(b != c)=true:=by simp at h ⊢;exact fun e=>h.1 e.symm
  have hr:r.contains c=false:=by simp at h ⊢;exact h.2
  have:=tw_none hr
  simp only[List.takeWhile_cons,List.dropWhile_cons,hb,if_true]
  exact⟨by rw[this.1],this.2⟩
theorem k156 {s:List UInt8}{c:UInt8}(hl:s.length<140737488355328){st:St}:run Tryz.prog HL0 156 [.str s,.str [c]] st=some (.ret (.tup [.str (s.takeWhile (· != c)),.str ((s.dropWhile (· != c)).drop 1),.bool (s.contains c)]),st):=by
 have hi:=idx_tw (c:=c) (s:=s)
 have hle:=(List.takeWhile_sublist (· != c) (l:=s)).length_le
 rw[run_shut F156 rfl rfl rfl]
 cases h:s.contains c with
 |true =>
  have hlt:(s.takeWhile (· != c)).length<s.length:=by
   rcases Nat.lt_or_ge (s.takeWhile (· != c)).length s.length with h2|h2
   ·exact h2
   ·have e:s.takeWhile (· != c)=s:=(List.takeWhile_sublist _).eq_of_length (by omega)
    have:=List.all_takeWhile (p:=(· != c)) (l:=s)
    rw[e,List.all_eq_true]at this
    have:=this c (by simpa using h)
    simp at this
  rw[h,if_pos rfl]at hi
  have hd:=drop_tw (p:=(· != c)) (s:=s)
  have ht:=take_w (p:=(· != c)) (s:=s)
  generalize s.takeWhile (· != c)=a at *
  have hw:IntKind.i64.wrap ((a.length:Int)+1)=((a.length+1:Nat):Int):=iwrap (by omega) (by omega)
  push_cast[k166,hi,hw,ht]
  exact dn_eq (by omega) (by rw[List.take_length,show((a.length:Int)+1).toNat=a.length+1 by omega,hd])
 |false =>
  rw[h,if_neg (by simp)]at hi
  obtain⟨e1,e2⟩:=tw_none h
  rw[e1,e2]
  push_cast[k166,hi]
theorem k136 {s:List UInt8}{c:UInt8}(hl:s.length<140737488355328){st:St}:run Tryz.prog HL0 136 [.str s,.str [c]] st=some (.ret (.tup [.str (s.takeWhile (· != c)),.str ((s.dropWhile (· != c)).drop 1),.bool (s.contains c)]),st):=by
 have h:=fun(st:St)=>k156 (c:=c) (st:=st) hl
 rw[run_shut F136 rfl rfl rfl]
 push_cast[h]
theorem k140 {s t:List UInt8}(hl:s.length<140737488355328)(ht:t.length≤s.length+1000){st:St}:run Tryz.prog HL0 140 [.str s,.str t] st=some (.ret (.bool (t.isSuffixOf s)),st):=by
 have h:∀st,run Tryz.prog HL0 159 [.str s,.str t] st=some (.ret (.bool (t.isSuffixOf s)),st):=fun st=>by
  rw[run_shut F159 rfl rfl rfl]
  by_cases h:t.length≤s.length
  ·have h1:(t.length:Int)≤s.length:=by omega
   have hw:IntKind.i64.wrap ((s.length:Int)-t.length)=((s.length-t.length:Nat):Int):=by rw[iwrap (by omega) (by omega)];omega
   have e:t.isSuffixOf s=(s.drop (s.length-t.length) == t):=by
    rw[Bool.eq_iff_iff,List.isSuffixOf_iff_suffix,List.suffix_iff_eq_drop,beq_iff_eq]
    exact⟨fun h=>h.symm,fun h=>h.symm⟩
   have h2:((s.length-t.length:Nat):Int)≤s.length:=by omega
   generalize s.length-t.length=k at *
   push_cast[h1,hw,h2,List.take_length,e]
  ·have h1:¬(t.length:Int)≤s.length:=by omega
   have e:t.isSuffixOf s=false:=by
    rw[←Bool.not_eq_true,List.isSuffixOf_iff_suffix]
    exact fun h2=>h h2.length_le
   push_cast[h1,e]
 rw[run_shut F140 rfl rfl rfl]
 push_cast[h]
theorem oth_from (s:ByteArray):∀(f pos:Nat),s.size≤pos+f→(decide (Lib.idxFuncFrom othR true s f pos<0))=(s.data.toList.drop pos).all isD
 |0,pos,h=>by
  rw[List.drop_eq_nil_of_le (by rw[Array.length_toList];exact h)];rfl
 |f+1,pos,h=>by
  unfold Lib.idxFuncFrom
  by_cases hp:pos<s.size
  ·have hp':pos<s.data.toList.length:=by rw[Array.length_toList];exact hp
   have hb:s.data.toList[pos]'hp'=s[pos]'hp:=rfl
   rw[if_pos hp,List.drop_eq_getElem_cons hp',List.all_cons,hb]
   by_cases ha:(s[pos]'hp).toNat<128
   ·rw[decode_ascii s pos hp ha]
    have ih:=oth_from s f (pos+1) (by omega)
    cases hd:isD (s[pos]'hp) with
    |true =>
     have:¬othR (s[pos]'hp).toNat=true:=by
      simp only[isD,Bool.and_eq_true,decide_eq_true_eq]at hd
      simp only[othR,Bool.or_eq_true,decide_eq_true_eq];omega
     rw[if_neg this,ih];rfl
    |false =>
     have:othR (s[pos]'hp).toNat=true:=by
      simp only[isD,Bool.and_eq_false_iff,decide_eq_false_iff_not]at hd
      simp only[othR,Bool.or_eq_true,decide_eq_true_eq];omega
     rw[if_pos this]
     simp
   ·obtain⟨h1,h2⟩:=decode_high s pos hp (by omega)
    have:othR (Utf8.decode s pos).1=true:=by
     simp only[othR,Bool.or_eq_true,decide_eq_true_eq];omega
    have hd:isD (s[pos]'hp)=false:=by
     simp only[isD,Bool.and_eq_false_iff,decide_eq_false_iff_not];omega
    rw[if_pos this,hd]
    simp
  ·rw[if_neg hp,List.drop_eq_nil_of_le (by rw[Array.length_toList];exact Nat.le_of_not_lt hp)];rfl
theorem oth_idx (s:List UInt8):decide (Lib.idxFunc othR true ⟨s.toArray⟩<0)=s.all isD:=by
 have:=oth_from ⟨s.toArray⟩ s.length 0 (by simp[ByteArray.size])
 simpa [Lib.idxFunc,ByteArray.size] using this
theorem k157 {s:List UInt8}{st:St}:run Tryz.prog HL0 157 [.str s,.fn (.func 158) [] []] st=some (.ret (.bool (s.any (!isD ·))),st):=by
 have h:∀st,run Tryz.prog HL0 167 [.str s,.fn (.func 158) [] []] st=some (.ret (.int .i64 (Lib.idxFunc othR true ⟨s.toArray⟩)),st):=fun st=>by
  rw[run_shut F167 rfl rfl rfl]
  push_cast[k174]
 have e:decide (0≤Lib.idxFunc othR true ⟨s.toArray⟩)=s.any (!isD ·):=by
  have:=oth_idx s
  have h2:decide (0≤Lib.idxFunc othR true ⟨s.toArray⟩)=!(decide (Lib.idxFunc othR true ⟨s.toArray⟩<0)):=by
   rw[Bool.eq_iff_iff];simp
  rw[h2,this,List.not_all_eq_any_not]
 rw[run_shut F157 rfl rfl rfl]
 push_cast[h,e]
theorem callable166:Callable Tryz.prog 166:=⟨_,Tryz.func166,by kernel_rfl,by kernel_rfl⟩
theorem callable174:Callable Tryz.prog 174:=⟨_,Tryz.func174,by kernel_rfl,by kernel_rfl⟩
theorem callable178:Callable Tryz.prog 178:=⟨_,Tryz.func178,by kernel_rfl,by kernel_rfl⟩
theorem v166 (s:List UInt8)(c:UInt8)(st:St):VRet Tryz.prog 166 [.str s,.str [c]] st (.int .i64 (Lib.indexByte s c)) st:=by
 refine VRet_of_below callable166 (fun w A vs hw ha=>?_)
 obtain⟨hl,ha⟩:=ha
 match vs,hl with
 |[u,v],_ =>
 have e1:=(ha 0 u _ rfl rfl).str_inv
 have e2:=(ha 1 v _ rfl rfl).str_inv
 subst e1;subst e2
 refine(Tryz.stringslite_Index_one ⟨s.toArray⟩ c w).mono fun e w' ⟨he,hb⟩=>?_
 subst he;subst hb
 exact⟨_,rfl,fun w' A'=>.int _ _,Below.refl _ _⟩
theorem pred280 (w:World):PredAt Tryz.prog 158 #[] encR othR w:=fun W r _=>by
 unfold FnGives
 by_cases h1:r<48<;>by_cases h2:57<r
 all_goals
  have z1:(r:Int)<48↔r<48:=by omega
  have z2:(57:Int)<(r:Int)↔57<r:=by omega
  go_enter Tryz.func158,Tryz.ntmps158
  go_wp2
  all_goals first|(exfalso;omega)|(go_ret;exact⟨by simp[othR,h1,h2],0,rfl⟩)
theorem v174 (s:List UInt8)(st:St):VRet Tryz.prog 174 [.str s,.fn (.func 158) [] [],.bool true] st (.int .i64 (Lib.idxFunc othR true ⟨s.toArray⟩)) st:=by
 refine VRet_of_below callable174 (fun w A vs hw ha=>?_)
 obtain⟨hl,ha⟩:=ha
 match vs,hl with
 |[v0,v1,v2],_ =>
 have e0:=(ha 0 v0 _ rfl rfl).str_inv
 have r1:=ha 1 v1 _ rfl rfl
 have e2:=(ha 2 v2 _ rfl rfl).bool_inv
 have e1:v1=.func (.func 158) #[] #[]:=by
  cases r1 with
  |fn _ vs us _ _ e1 e2 _ _ =>
   have h1:vs=[]:=List.eq_nil_of_length_eq_zero e1
   have h2:us=[]:=List.eq_nil_of_length_eq_zero e2
   rw[h1,h2]
 subst e0;subst e1;subst e2
 refine(Tryz.strings_indexFunc 158 #[] (enters_of Tryz.func158 (by kernel_rfl) rfl) othR true ⟨s.toArray⟩ w (pred280 w)).mono fun e w' ⟨he,hb⟩=>?_
 subst he
 exact⟨_,rfl,fun w' A'=>.int _ _,hb⟩
theorem HL0_ok:ESound Tryz.prog HL0:=fun f args st r s h=>by
 obtain⟨z,hz,e⟩:=Option.map_eq_some_iff.1 h
 cases e
 by_cases h1:f=166
 ·subst h1
  rw[show Nat.beq 166 166=true from rfl,cond_true]at hz
  unfold q166 at hz
  split at hz<;>cases hz
  exact v166 _ _ _
 rw[show Nat.beq f 166=false from Bool.eq_false_iff.2 fun e=>h1 (Nat.eq_of_beq_eq_true e),cond_false]at hz
 by_cases h3:f=174
 ·subst h3
  rw[show Nat.beq 174 174=true from rfl,cond_true]at hz
  unfold q174 at hz
  split at hz<;>cases hz
  exact v174 _ _
 rw[show Nat.beq f 174=false from Bool.eq_false_iff.2 fun e=>h3 (Nat.eq_of_beq_eq_true e),cond_false]at hz
 cases hz
end Go.Proofs.YtdnpaifeoinjoaaGreatDoor

namespace Go.Proofs.YtdnpaifeoinjoaaGreatDoor
open Go.Sha Go.RowKit
set_option maxRecDepth 100000
theorem parse_digs:∀(s:List UInt8) (acc:Nat),s.all isD=true→acc<18446744073709551616→Lib.parseUint10 acc s=if s.foldl (fun n b=>10*n+(b.toNat-48)) acc<18446744073709551616 then .ok (s.foldl (fun n b=>10*n+(b.toNat-48)) acc) else .range
 |[],acc,_,h=>by simp[Lib.parseUint10,h]
 |b::s,acc,h,ha=>by
  have mono:∀(s:List UInt8) (n:Nat),n≤s.foldl (fun n b=>10*n+(b.toNat-48)) n:=by
   intro s
   induction s with
   |nil=>intro n;exact Nat.le_refl _
   |cons c s ih=>intro n;rw[List.foldl_cons];refine Nat.le_trans ?_ (ih _);omega
  simp only[List.all_cons,Bool.and_eq_true]at h
  obtain⟨hb,hs⟩:=h
  have hb':48≤b.toNat∧b.toNat≤57:=by
   simp only[isD,Bool.and_eq_true,decide_eq_true_eq]at hb;omega
  rw[Lib.parseUint10,if_pos hb',List.foldl_cons]
  have hm:=mono s (10*acc+(b.toNat-48))
  by_cases h1:1844674407370955162≤acc
  ·rw[if_pos h1,if_neg (by omega)]
  ·rw[if_neg h1]
   by_cases h2:18446744073709551616≤acc*10+(b.toNat-48)
   ·rw[if_pos h2,if_neg (by omega)]
   ·rw[if_neg h2,parse_digs s _ hs (by omega),Nat.mul_comm]
theorem atoi_digs {s:List UInt8}(h0:s≠[])(h:s.all isD=true):Lib.atoiAll s=if natOf s<9223372036854775808 then .ok (natOf s:Int) else .range:=by
 cases s with
 |nil=>exact absurd rfl h0
 |cons b s =>
  have hb:isD b=true:=by simp only[List.all_cons,Bool.and_eq_true]at h;exact h.1
  have hb':48≤b.toNat∧b.toNat≤57:=by
   simp only[isD,Bool.and_eq_true,decide_eq_true_eq]at hb;omega
  rw[Lib.atoiAll_plain b s (by omega) (by omega),Lib.parseMag,if_neg (by simp),parse_digs (b::s) 0 h (by omega)]
  show Lib.signless (if natOf (b::s)<18446744073709551616 then .ok (natOf (b::s)) else .range)=_
  by_cases h1:natOf (b::s)<18446744073709551616
  ·rw[if_pos h1]
   unfold Lib.signless
   by_cases h2:natOf (b::s)<9223372036854775808
   ·rw[if_pos h2];simp only;rw[if_neg (by omega)]
   ·rw[if_neg h2];simp only;rw[if_pos (by omega)]
  ·rw[if_neg h1,if_neg (by omega)];rfl
theorem natOf_lt:∀{s:List UInt8}{n:Nat},s.all isD=true→s.foldl (fun n b=>10*n+(b.toNat-48)) n<(n+1)*10 ^ s.length
 |[],n,_=>by simp
 |b::s,n,h=>by
  simp only[List.all_cons,Bool.and_eq_true]at h
  have hb:b.toNat≤57:=by have:=h.1;simp only[isD,Bool.and_eq_true,decide_eq_true_eq]at this;omega
  have ih:=natOf_lt (s:=s) (n:=10*n+(b.toNat-48)) h.2
  rw[List.foldl_cons,List.length_cons,Nat.pow_succ]
  refine Nat.lt_of_lt_of_le ih ?_
  rw[show(n+1)*(10 ^ s.length*10)=((n+1)*10)*10 ^ s.length by rw[Nat.mul_comm (10 ^ s.length),Nat.mul_assoc]]
  exact Nat.mul_le_mul_right _ (by omega)
theorem v178 (s:List UInt8)(st:St)(h0:s≠[])(h:s.all isD=true)(hl:s.length≤18):VRet Tryz.prog 178 [.str s] st (.tup [.int .i64 (natOf s),.nili]) st:=by
 have hn:natOf s<9223372036854775808:=by
  have h1:=natOf_lt (n:=0) h
  have h2:10 ^ s.length≤10 ^ 18:=Nat.pow_le_pow_right (by omega) hl
  unfold natOf;omega
 refine VRet_of_below callable178 (fun w A vs hw ha=>?_)
 obtain⟨u,rfl,h1⟩:=ha.one
 have e1:=h1.str_inv
 subst e1
 have hat:=atoi_digs h0 h
 rw[if_pos hn]at hat
 refine(Tryz.strconv_Atoi_ok ⟨s.toArray⟩ (by simp[ByteArray.size];omega) (natOf s:Int) (by simpa using hat) w).mono fun e w' ⟨he,hb⟩=>?_
 subst he
 refine⟨_,rfl,fun w' A'=>?_,?_⟩
 ·refine .tup [.int .i64 (natOf s),.nilIface] [.int .i64 (natOf s),.nili] rfl (fun i v c h1 h2=>?_)
  match i,h1,h2 with
  |0,h1,h2=>simp at h1 h2;subst h1 h2;exact .int _ _
  |1,h1,h2=>simp at h1 h2;subst h1 h2;exact .nili
 ·rcases hb with rfl|⟨t,rfl⟩
  ·exact Below.refl _ _
  ·exact Lib.bytesWorld_below w 5 t
theorem callable112:Callable Tryz.prog 112:=⟨_,Tryz.func112,by kernel_rfl,by kernel_rfl⟩
open Go.Sort in
def PB:Type:={ p:Prm // 0≤p.chan∧p.chan≤999∧0≤p.attr∧p.attr≤14 }
instance:Inhabited PB:=⟨⟨⟨0,0⟩,by decide⟩⟩
def encP (p:PB):List Value:=[.int .i64 p.1.chan,.int .i64 p.1.attr]
def cmpB (p q:PB):Int:=if p.1.chan≠q.1.chan then p.1.chan-q.1.chan else p.1.attr-q.1.attr
open Go.Sort Go.Proofs in
theorem lt_B {x y:PB}:ltOf cmpB x y=decide (x.1.chan<y.1.chan∨x.1.chan=y.1.chan∧x.1.attr<y.1.attr):=by
 unfold ltOf cmpB
 split
 ·rename_i h;rw[Bool.eq_iff_iff];simp only[decide_eq_true_eq];omega
 ·rename_i h;rw[Bool.eq_iff_iff];simp only[decide_eq_true_eq];omega
open Go.Sort Go.Proofs in
theorem swo_B:SWO (ltOf cmpB) where
 irrefl x:=by rw[lt_B];simp
 trans x y z h1 h2:=by rw[lt_B]at *;simp only[decide_eq_true_eq]at *;omega
 ntrans x y z h1 h2:=by rw[lt_B]at *;simp only[decide_eq_false_iff_not]at *;omega
open Go.Sort Go.Proofs in
theorem tot_B (x y:PB)(h1:ltOf cmpB x y=false)(h2:ltOf cmpB y x=false):x=y:=by
 rw[lt_B]at h1 h2
 simp only[decide_eq_false_iff_not]at h1 h2
 obtain⟨⟨a,b⟩,hx⟩:=x
 obtain⟨⟨c,d⟩,hy⟩:=y
 simp only at h1 h2
 have e1:a=c:=by omega
 have e2:b=d:=by omega
 subst e1;subst e2;rfl
theorem pb_list:∀{xs:List V},xs.all okPV=true→∃l:List PB,xs=l.map fun p=>p.1.v
 |[],_=>⟨[],rfl⟩
 |x::r,h=>by
  simp only[List.all_cons,Bool.and_eq_true]at h
  obtain⟨l,rfl⟩:=pb_list h.2
  have h1:=h.1
  unfold okPV at h1
  split at h1
  ·rename_i c a
   simp only[Bool.and_eq_true,decide_eq_true_eq]at h1
   exact⟨⟨⟨c,a⟩,by dsimp only;omega⟩::l,rfl⟩
  ·cases h1
open Go.Sort Go.Proofs in
theorem v81g {G:Nat}(eg:∀args w,(callFunc G args).run Tryz.prog w=.ok (.enter G args) w)(hc:∀(x y:PB) (W:World),Calls Tryz.prog G #[.agg (encP x).toArray,.agg (encP y).toArray] W fun e w'=>e=.returned (.int .i64 (cmpB x y))∧∃q os',w'=Go.Sort.grow (W.drewN q) os'){st:St}{id:Nat}{r:Arr}(hid:Sha.look st.arr id=some r)(hes:r.es=2)(hw:r.wr=true)(hbig:r.xs.length≤100000000)(hok:r.xs.all okPV=true) :
  VCalls Tryz.prog 112 [.osl id r.xs.length,.fn (.func G) [] []] st fun x s=>x=.ret (.tup [])∧s=⟨st.nx,st.mem,updA st.arr id { r with xs:=r.xs.mergeSort leV },st.x⟩:=by
 obtain⟨l,hl⟩:=pb_list hok
 have hlen:l.length=r.xs.length:=by rw[hl,List.length_map]
 have h:=VCalls_sort (P:=Tryz.prog) (F:=112) callable112 (k:=2) (by omega) (enc:=encP) (fun _=>rfl) (fun x v hv=>by
   simp[encP]at hv;rcases hv with rfl|rfl<;>rfl) (f:=fun p:PB=>p.1.v) (fun _=>rfl) (fun {w A x j v c} hc hr=>by
   match j,hc with
   |0,hc=>cases hc;cases hr;rfl
   |1,hc=>cases hc;cases hr;rfl
   |j+2,hc=>simp[Prm.v,V.cells]at hc) (fun {w A x j v c} hv hc=>by
   match j,hv,hc with
   |0,hv,hc=>cases hv;cases hc;exact .int _ _
   |1,hv,hc=>cases hv;cases hc;exact .int _ _
   |j+2,hv,hc=>simp[encP]at hv) (cf:=cmpB) (g:=G)
  (fun p cap fv w=>Tryz.sort_none p cap fv w)
  (fun blk off cap d w h1 h2 h3 h4=>Tryz.sort_total Tryz.isAgg38 Tryz.sizeOf38 encP (fun _=>rfl) (fun x v hv=>by
   simp[encP]at hv;rcases hv with rfl|rfl<;>rfl) cmpB swo_B tot_B G eg blk off cap d w h1 h2 h3 h4)
  hc (st:=st) (l:=l) hid hl hes hw (by omega)
 rw[hlen]at h
 have e:(l.mergeSort fun x y=>!ltOf cmpB y x).map (fun p:PB=>p.1.v)=r.xs.mergeSort leV:=by
  rw[hl]
  refine List.map_mergeSort (fun a _ b _=>?_)
  rw[lt_B]
  simp only[Prm.v,leV]
  rw[Bool.eq_iff_iff]
  simp
 rw[e]at h
 exact h
end Go.Proofs.YtdnpaifeoinjoaaGreatDoor

namespace Go.Proofs.YtdnpaifeoinjoaaGreatDoor
open Go.Sha Go.RowKit
set_option maxRecDepth 100000
theorem clos229 (x y:PB)(W:World):Calls Tryz.prog 82 #[.agg (encP x).toArray,.agg (encP y).toArray] W fun e w'=>e=.returned (.int .i64 (cmpB x y))∧∃q os',w'=Go.Sort.grow (W.drewN q) os':=by
 obtain⟨⟨a,b⟩,hx⟩:=x
 obtain⟨⟨c,d⟩,hy⟩:=y
 simp only at hx hy
 have w1:IntKind.i64.wrap (a-c)=a-c:=iwrap (by omega) (by omega)
 have w2:IntKind.i64.wrap (b-d)=b-d:=iwrap (by omega) (by omega)
 simp only[encP,cmpB]
 by_cases h:a=c
 ·rw[if_neg (by simp[h])]
  subst h
  go_enter Tryz.func82,Tryz.ntmps82
  go_wp2
  go_ret
  exact⟨rfl,0,_,by rw[Go.Sort.alloc_eq_grow,Go.Sort.alloc_eq_grow,Go.Sort.grow_grow];rfl⟩
 ·rw[if_pos h]
  go_enter Tryz.func82,Tryz.ntmps82
  go_wp2
  go_ret
  exact⟨rfl,0,_,by rw[Go.Sort.alloc_eq_grow,Go.Sort.alloc_eq_grow,Go.Sort.grow_grow];rfl⟩
theorem v81F {st:St}{id:Nat}{r:Arr}(hid:Sha.look st.arr id=some r)(hes:r.es=2)(hw:r.wr=true)(hbig:r.xs.length≤100000000)(hok:r.xs.all okPV=true) :
  VCalls Tryz.prog 112 [.osl id r.xs.length,.fn (.func 82) [] []] st fun x s=>x=.ret (.tup [])∧s=⟨st.nx,st.mem,updA st.arr id { r with xs:=r.xs.mergeSort leV },st.x⟩ :=
 v81g (enters_of Tryz.func82 (by kernel_rfl) rfl) clos229 hid hes hw hbig hok
theorem HSF_ok:ESound Tryz.prog HSF:=fun f args st r s h=>by
 simp only[HSF]at h
 by_cases h1:f=112
 ·subst h1
  rw[show Nat.beq 112 112=true from rfl,cond_true]at h
  unfold hSortF at h
  split at h
  ·rename_i id n
   unfold hSortA at h
   split at h
   ·rename_i r0 hr
    split at h
    ·rename_i hc
     cases h
     obtain⟨c1,c2,c3,c4,c5⟩:=hc
     subst c1
     exact v81F hr c3 c4 c2 c5
    ·cases h
   ·cases h
  ·cases h
 ·rw[show Nat.beq f 112=false from Bool.eq_false_iff.2 fun e=>h1 (Nat.eq_of_beq_eq_true e)]at h;cases h
end Go.Proofs.YtdnpaifeoinjoaaGreatDoor

namespace Go.Proofs.YtdnpaifeoinjoaaGreatDoor
open Go.Sha
set_option maxRecDepth 100000
theorem HH_ok:ESound Tryz.prog HH:=fun f args st r s h=>by
 simp only[HH]at h
 cases hm:memL f [45,66,75,93,97,112,143] with
 |true =>
  rw[hm,cond_true]at h
  simp only[hSl]at h
  by_cases h1:f=45
  ·subst h1
   exact cln_ok (e:=45) (es:=5) (b:=40) (by kernel_rfl) h
  rw[show Nat.beq f 45=false from Bool.eq_false_iff.2 fun e=>h1 (Nat.eq_of_beq_eq_true e),cond_false]at h
  by_cases h1:f=66
  ·subst h1
   exact ins_ok slM bearsI ovM rfl (by decide) h
  rw[show Nat.beq f 66=false from Bool.eq_false_iff.2 fun e=>h1 (Nat.eq_of_beq_eq_true e),cond_false]at h
  by_cases h1:f=112
  ·subst h1
   rw[show Nat.beq 112 112=true from rfl,cond_true]at h
   unfold hSort at h
   split at h
   ·rename_i id n
    unfold hSortA at h
    split at h
    ·rename_i r0 hr
     split at h
     ·rename_i hc
      cases h
      obtain⟨c1,c2,c3,c4,c5⟩:=hc
      subst c1
      exact v81F hr c3 c4 c2 c5
     ·cases h
    ·cases h
   ·cases h
  rw[show Nat.beq f 112=false from Bool.eq_false_iff.2 fun e=>h1 (Nat.eq_of_beq_eq_true e),cond_false]at h
  by_cases h1:f=75
  ·subst h1
   exact cln_ok (e:=42) (es:=4) (b:=32) (by kernel_rfl) h
  rw[show Nat.beq f 75=false from Bool.eq_false_iff.2 fun e=>h1 (Nat.eq_of_beq_eq_true e),cond_false]at h
  by_cases h1:f=93
  ·subst h1
   exact cln_ok (e:=30) (es:=9) (b:=120) (by kernel_rfl) h
  rw[show Nat.beq f 93=false from Bool.eq_false_iff.2 fun e=>h1 (Nat.eq_of_beq_eq_true e),cond_false]at h
  by_cases h1:f=143
  ·subst h1
   exact cln_ok (e:=161) (es:=6) (b:=48) (by kernel_rfl) h
  rw[show Nat.beq f 143=false from Bool.eq_false_iff.2 fun e=>h1 (Nat.eq_of_beq_eq_true e),cond_false]at h
  by_cases h1:f=97
  ·subst h1
   exact grw_ok basT (ρ:=rnG) rfl rfl rfl rfl rfl rfl bearsG rfl (by decide) Tryz.underlying34 Tryz.isAgg34 Tryz.sizeOf34 Tryz.zeroValue34 infoG rfl h
  rw[show Nat.beq f 97=false from Bool.eq_false_iff.2 fun e=>h1 (Nat.eq_of_beq_eq_true e),cond_false]at h
  cases h
 |false =>
 rw[hm,cond_false]at h
 obtain⟨z,hz,e⟩:=Option.map_eq_some_iff.1 h
 cases e
 by_cases h1:f=136
 ·subst h1
  rw[show Nat.beq 136 136=true from rfl,cond_true]at hz
  unfold hCut at hz
  split at hz
  ·split at hz
   ·rename_i hl;cases hz;exact run_sound mixed HL0_ok _ _ _ _ _ (k136 hl)
   ·cases hz
  ·cases hz
 rw[show Nat.beq f 136=false from Bool.eq_false_iff.2 fun e=>h1 (Nat.eq_of_beq_eq_true e),cond_false]at hz
 by_cases h1:f=140
 ·subst h1
  rw[show Nat.beq 140 140=true from rfl,cond_true]at hz
  unfold hSuf at hz
  split at hz
  ·split at hz
   ·rename_i hl;cases hz;exact run_sound mixed HL0_ok _ _ _ _ _ (k140 hl.1 hl.2)
   ·cases hz
  ·cases hz
 rw[show Nat.beq f 140=false from Bool.eq_false_iff.2 fun e=>h1 (Nat.eq_of_beq_eq_true e),cond_false]at hz
 by_cases h1:f=157
 ·subst h1
  rw[show Nat.beq 157 157=true from rfl,cond_true]at hz
  unfold hAny at hz
  split at hz
  ·cases hz;exact run_sound mixed HL0_ok _ _ _ _ _ k157
  ·cases hz
 rw[show Nat.beq f 157=false from Bool.eq_false_iff.2 fun e=>h1 (Nat.eq_of_beq_eq_true e),cond_false]at hz
 by_cases h1:f=178
 ·subst h1
  rw[show Nat.beq 178 178=true from rfl,cond_true]at hz
  unfold hAtoi at hz
  split at hz
  ·split at hz
   ·rename_i hl;cases hz;exact v178 _ _ hl.1 hl.2.1 hl.2.2
   ·cases hz
  ·cases hz
 rw[show Nat.beq f 178=false from Bool.eq_false_iff.2 fun e=>h1 (Nat.eq_of_beq_eq_true e),cond_false]at hz
 by_cases h1:f=69
 ·subst h1
  rw[show Nat.beq 69 69=true from rfl,cond_true]at hz
  unfold hVal at hz
  split at hz
  ·rename_i x y cs a c d
   split at hz
   ·rename_i l hl
    split at hz
    ·rename_i hc
     simp only[Bool.and_eq_true,decide_eq_true_eq,List.all_eq_true]at hc
     obtain⟨⟨⟨⟨c1,c2⟩,c3⟩,c4⟩,c5⟩:=hc
     cases hz
     have ea:a=(a.toNat:Int):=by omega
     have:=v69 x y l a.toNat ⟨c,d⟩ st (by omega) c3 c4 (fun z hz=>(c5 z hz).1) (fun z hz=>by have:=(c5 z hz).2;omega)
     rw[←ea,←rdL_map rdCu_v hl]at this
     exact this
    ·cases hz
   ·cases hz
  ·cases hz
 rw[show Nat.beq f 69=false from Bool.eq_false_iff.2 fun e=>h1 (Nat.eq_of_beq_eq_true e),cond_false]at hz
 by_cases h1:f=68
 ·subst h1
  rw[show Nat.beq 68 68=true from rfl,cond_true]at hz
  unfold hFtp at hz
  split at hz
  ·rename_i x y cs
   split at hz
   ·rename_i l hl
    split at hz
    ·rename_i hc
     cases hz
     have:=v68 HSF_ok (x:=⟨x,y,l⟩) hc (st:=st)
     simp only[Lst.v]at this
     rw[←rdL_map rdCu_v hl]at this
     exact this
    ·cases hz
   ·cases hz
  ·cases hz
 rw[show Nat.beq f 68=false from Bool.eq_false_iff.2 fun e=>h1 (Nat.eq_of_beq_eq_true e),cond_false]at hz
 cases hz
end Go.Proofs.YtdnpaifeoinjoaaGreatDoor

namespace Go.Proofs.YtdnpaifeoinjoaaGreatDoor
open Go.RowKit Go.Shelf
attribute [local go_sem] Oper.semAt_some
theorem lt_cell {W:World}{k i:Nat}{v:Value}(h:W.cell? ⟨k,i,none⟩=some v):k<W.heap.size:=by
 unfold World.cell? at h
 rcases Nat.lt_or_ge k W.heap.size with h1|h1
 ·exact h1
 ·simp[Array.getElem?_eq_none h1]at h
set_option maxRecDepth 100000 in
set_option maxHeartbeats 4000000 in
theorem origin_calls (w : World)(b off len cap a : Nat)(s0 s1 s7 : Nat → ByteArray)(a2 a3 : Nat → Option Addr)(n2 k2 n3 k3 : Nat → Nat)(b5 : Nat → Bool)(i6 i8 : Nat → Int)(bl : Nat → Bool)(v0 v1 : Value)(num : ByteArray)(c d : Int)(hcd : 1 ≤ c ∧ c ≤ 999 ∧ 0 ≤ d ∧ d ≤ 14)(m1 m2 : Nat → Int)(ok : Nat → Bool)(hlen : len * 144 ≤ 140737488351232)(hb : b < w.heap.size)(ha : a < len)
    (hc : ∀ j, j < len → Box9 (fun x => .string (s0 x)) (fun x => .string (s1 x)) (fun x => .slice (a2 x) (n2 x) (k2 x)) (fun x => .slice (a3 x) (n3 x) (k3 x)) bl (fun x => .bool (b5 x)) (fun x => .int .i64 (i6 x)) (fun x => .string (s7 x)) (fun x => .int .i64 (i8 x)) w b (off + j * 9) j)
    (hmove : ∀ x W, Below w.heap.size w W → Calls Tryz.prog 41 #[.agg #[.string (s0 x), .string (s1 x), .slice (a2 x) (n2 x) (k2 x), .slice (a3 x) (n3 x) (k3 x), .bool (bl x), .bool (b5 x), .int .i64 (i6 x), .string (s7 x), .int .i64 (i8 x)], .agg #[.int .i64 c, .int .i64 d]] W fun e W' => e = .returned (.tuple #[.agg #[.int .i64 (m1 x), .int .i64 (m2 x)], .bool (ok x)]) ∧ Below W.heap.size W W')
    (hplace : ∀ W, Below w.heap.size w W → Calls Tryz.prog 32 #[.agg #[v0, v1, .slice (some ⟨b, off, none⟩) len cap], .string num] W fun e W' => e = .returned (.tuple #[.int .i64 a, .int .i64 0]) ∧ Below W.heap.size W W') :
    Calls Tryz.prog 20 #[.agg #[v0, v1, .slice (some ⟨b, off, none⟩) len cap], .string num, .agg #[.int .i64 c, .int .i64 d]] w fun e W' =>
      ((∃ k, k ≤ a + 1 ∧ (∀ x ∈ dnL a k, ok x = false) ∧ (k = a + 1 ∨ 0 < k ∧ bl (a + 1 - k) = true) ∧ (∀ j, 0 < j → j < k → bl (a + 1 - j) = false) ∧ e = .returned (.tuple #[.string ⟨#[]⟩, .bool false, .int .i64 0])) ∨
       (∃ k, k < a + 1 ∧ (∀ x ∈ dnL a k, ok x = false) ∧ ok (a - k) = true ∧ (∀ j, 0 < j → j ≤ k → bl (a + 1 - j) = false) ∧ e = .returned (.tuple #[.string (s0 (a - k)), .bool true, .int .i64 0]))) ∧ Below w.heap.size w W' := by
  have c1 : ¬ c < 1 := by omega
  have c2 : ¬ 999 < c := by omega
  have c3 : ¬ d < 0 := by omega
  have c4 : ¬ 15 ≤ d := by omega
  refine (callsIn_wide (n := 3)).1 ?_
  refine callsIn_of_wp_marks Tryz.func20 rfl trivial ?_ rfl
  simp only [Tryz.ntmps20, List.size_toArray, List.length_cons, List.length_nil, Nat.reduceAdd, Nat.reduceSub, Array.replicate_succ, Array.replicate_zero, List.push_toArray, List.append_toArray, List.nil_append, List.cons_append]
  have h5 : (((((w.alloc (.cells #[v0, v1, .slice (some ⟨b, off, none⟩) len cap] 24)).alloc (.cells #[.int .i64 c, .int .i64 d] 38)).alloc (.cells #[.string ⟨#[]⟩] 9)).alloc (.cells #[.bool false] 4)).alloc (.cells #[.int .i64 0] 31)).heap.size = w.heap.size + 1 + 1 + 1 + 1 + 1 := by simp
  have g0 : (((((w.alloc (.cells #[v0, v1, .slice (some ⟨b, off, none⟩) len cap] 24)).alloc (.cells #[.int .i64 c, .int .i64 d] 38)).alloc (.cells #[.string ⟨#[]⟩] 9)).alloc (.cells #[.bool false] 4)).alloc (.cells #[.int .i64 0] 31)).heap[w.heap.size]? = some (.cells #[v0, v1, .slice (some ⟨b, off, none⟩) len cap] 24) := by
    show (((((w.heap.push _).push _).push _).push _).push _)[_]? = _
    simp only [Array.getElem?_push, Array.size_push]
    rw [if_neg (by omega), if_neg (by omega), if_neg (by omega), if_neg (by omega), if_pos trivial]
  obtain ⟨g1, g2, g3, g4⟩ := heap5 w (.cells #[v0, v1, .slice (some ⟨b, off, none⟩) len cap] 24) (.cells #[.int .i64 c, .int .i64 d] 38) (.cells #[.string ⟨#[]⟩] 9) (.cells #[.bool false] 4) (.cells #[.int .i64 0] 31)
  gi_wp2_with (first | (refine ⟨trivial, ?_⟩; gi_at_call 32; refine (callsIn_wide.2 (hplace _ ((((((Below.refl _ w).alloc (Nat.le_refl _) _).alloc (by simp) _).alloc (by simp; omega) _).alloc (by simp; omega) _).alloc (by simp; omega) _))).mono ?_; rintro e w' ⟨rfl, hBp⟩; have qa : w'.cell? ⟨w.heap.size, 0, none⟩ = some v0 := (hBp.cell (p := ⟨w.heap.size, 0, none⟩) (by simp <;> omega)).trans (cell_at g0); have qb : w'.cell? ⟨w.heap.size, 1, none⟩ = some v1 := (hBp.cell (p := ⟨w.heap.size, 1, none⟩) (by simp <;> omega)).trans (cell_at g0); have qc : w'.cell? ⟨w.heap.size, 2, none⟩ = some (.slice (some ⟨b, off, none⟩) len cap) := (hBp.cell (p := ⟨w.heap.size, 2, none⟩) (by simp <;> omega)).trans (cell_at g0); have q3 : w'.cell? ⟨w.heap.size + 1, 0, none⟩ = some (.int .i64 c) := (hBp.cell (p := ⟨w.heap.size + 1, 0, none⟩) (by simp <;> omega)).trans (cell_at g1); have q4 : w'.cell? ⟨w.heap.size + 1, 1, none⟩ = some (.int .i64 d) := (hBp.cell (p := ⟨w.heap.size + 1, 1, none⟩) (by simp <;> omega)).trans (cell_at g1); have q5 : w'.cell? ⟨w.heap.size + 1 + 1, 0, none⟩ = some (.string ⟨#[]⟩) := (hBp.cell (p := ⟨w.heap.size + 1 + 1, 0, none⟩) (by simp <;> omega)).trans (cell_at g2); have q5f : w'.frozen? ⟨w.heap.size + 1 + 1, 0, none⟩ = false := (froz_below hBp (p := ⟨w.heap.size + 1 + 1, 0, none⟩) (by simp <;> omega)).trans (froz_at g2); have q6 : w'.cell? ⟨w.heap.size + 1 + 1 + 1, 0, none⟩ = some (.bool false) := (hBp.cell (p := ⟨w.heap.size + 1 + 1 + 1, 0, none⟩) (by simp <;> omega)).trans (cell_at g3); have q6f : w'.frozen? ⟨w.heap.size + 1 + 1 + 1, 0, none⟩ = false := (froz_below hBp (p := ⟨w.heap.size + 1 + 1 + 1, 0, none⟩) (by simp <;> omega)).trans (froz_at g3); have q7 : w'.cell? ⟨w.heap.size + 1 + 1 + 1 + 1, 0, none⟩ = some (.int .i64 0) := (hBp.cell (p := ⟨w.heap.size + 1 + 1 + 1 + 1, 0, none⟩) (by simp <;> omega)).trans (cell_at g4); have q7f : w'.frozen? ⟨w.heap.size + 1 + 1 + 1 + 1, 0, none⟩ = false := (froz_below hBp (p := ⟨w.heap.size + 1 + 1 + 1 + 1, 0, none⟩) (by simp <;> omega)).trans (froz_at g4)) | (refine ⟨trivial, ?_⟩; gi_at_call 40; refine (back_in Fence.wide _ trivial rfl _ _ _ _ _).mono ?_; rintro e w'' ⟨rfl, rfl⟩))
  have z1 : decide (c < 1) = false := by simpa using c1
  have z2 : decide (999 < c) = false := by simpa using c2
  have z3 : decide (d < 0) = false := by simpa using c3
  have z4 : decide (15 ≤ d) = false := by simpa using c4
  simp only [z1, z2, z3, z4, Bool.or_false]
  have hs1 : w.heap.size + 1 + 1 + 1 + 1 + 1 ≤ w'.heap.size := by have := hBp.size; rw [h5] at this; exact this
  have hBw : Below w.heap.size w w' := ((((((Below.refl _ w).alloc (Nat.le_refl _) _).alloc (by simp) _).alloc (by simp; omega) _).alloc (by simp; omega) _).alloc (by simp; omega) _).trans (hBp.mono (by rw [h5]; omega))
  have hB1 : Below w'.heap.size w' ((w'.alloc (.cells #[v0, v1, .slice (some ⟨b, off, none⟩) len cap] 24)).alloc (.cells #[.int .i64 a] 3)) := ((Below.refl _ w').alloc (Nat.le_refl _) _).alloc (by simp) _
  have hs0 : ((w'.alloc (.cells #[v0, v1, .slice (some ⟨b, off, none⟩) len cap] 24)).alloc (.cells #[.int .i64 a] 3)).heap.size = w'.heap.size + 1 + 1 := by simp
  have e1 : ((w'.alloc (.cells #[v0, v1, .slice (some ⟨b, off, none⟩) len cap] 24)).alloc (.cells #[.int .i64 a] 3)).heap[w'.heap.size]? = some (.cells #[v0, v1, .slice (some ⟨b, off, none⟩) len cap] 24) := by
    show ((w'.heap.push _).push _)[_]? = _
    simp only [Array.getElem?_push, Array.size_push]
    rw [if_neg (by omega), if_pos trivial]
  have e2 : ((w'.alloc (.cells #[v0, v1, .slice (some ⟨b, off, none⟩) len cap] 24)).alloc (.cells #[.int .i64 a] 3)).heap[w'.heap.size + 1]? = some (.cells #[.int .i64 a] 3) := by
    show ((w'.heap.push _).push _)[_]? = _
    simp only [Array.getElem?_push, Array.size_push]
    rw [if_pos trivial]
  generalize hW0 : ((w'.alloc (.cells #[v0, v1, .slice (some ⟨b, off, none⟩) len cap] 24)).alloc (.cells #[.int .i64 a] 3)) = W0 at *
  have hB0 : Below w.heap.size w W0 := hBw.trans (hB1.mono (by omega))
  have f0 : W0.cell? ⟨w'.heap.size + 1, 0, none⟩ = some (.int .i64 a) := cell_at e2
  have f1 : W0.cell? ⟨w'.heap.size, 2, none⟩ = some (.slice (some ⟨b, off, none⟩) len cap) := cell_at e1
  have f3 := (hB1.cell (p := ⟨w.heap.size + 1, 0, none⟩) (by show w.heap.size + 1 < _; omega)).trans q3
  have f4 := (hB1.cell (p := ⟨w.heap.size + 1, 1, none⟩) (by show w.heap.size + 1 < _; omega)).trans q4
  have f5 := (hB1.cell (p := ⟨w.heap.size + 1 + 1, 0, none⟩) (by show w.heap.size + 1 + 1 < _; omega)).trans q5
  have f5f := (froz_below hB1 (p := ⟨w.heap.size + 1 + 1, 0, none⟩) (by show w.heap.size + 1 + 1 < _; omega)).trans q5f
  have f6 := (hB1.cell (p := ⟨w.heap.size + 1 + 1 + 1, 0, none⟩) (by show w.heap.size + 1 + 1 + 1 < _; omega)).trans q6
  have f6f := (froz_below hB1 (p := ⟨w.heap.size + 1 + 1 + 1, 0, none⟩) (by show w.heap.size + 1 + 1 + 1 < _; omega)).trans q6f
  have f7 := (hB1.cell (p := ⟨w.heap.size + 1 + 1 + 1 + 1, 0, none⟩) (by show w.heap.size + 1 + 1 + 1 + 1 < _; omega)).trans q7
  have f7f := (froz_below hB1 (p := ⟨w.heap.size + 1 + 1 + 1 + 1, 0, none⟩) (by show w.heap.size + 1 + 1 + 1 + 1 < _; omega)).trans q7f
  have hc0 : ∀ j, j < len → Box9 (fun x => .string (s0 x)) (fun x => .string (s1 x)) (fun x => .slice (a2 x) (n2 x) (k2 x)) (fun x => .slice (a3 x) (n3 x) (k3 x)) bl (fun x => .bool (b5 x)) (fun x => .int .i64 (i6 x)) (fun x => .string (s7 x)) (fun x => .int .i64 (i8 x)) W0 b (off + j * 9) j := fun j hj => by
    obtain ⟨d0, d1, d2, d3, d4, d5, d6, d7, d8⟩ := hc j hj
    exact ⟨(hB0.cell (p := ⟨b, _, none⟩) hb).trans d0, (hB0.cell (p := ⟨b, _, none⟩) hb).trans d1, (hB0.cell (p := ⟨b, _, none⟩) hb).trans d2, (hB0.cell (p := ⟨b, _, none⟩) hb).trans d3, (hB0.cell (p := ⟨b, _, none⟩) hb).trans d4, (hB0.cell (p := ⟨b, _, none⟩) hb).trans d5, (hB0.cell (p := ⟨b, _, none⟩) hb).trans d6, (hB0.cell (p := ⟨b, _, none⟩) hb).trans d7, (hB0.cell (p := ⟨b, _, none⟩) hb).trans d8⟩
  refine wpIn_rangeFunc_ownH rfl (by decide) (gf := 79) (lb := #[.pointer (some ⟨w'.heap.size + 1, 0, none⟩), .pointer (some ⟨w'.heap.size, 0, none⟩)]) rfl trivial (enters_of Tryz.func79 (by kernel_rfl) rfl)
    (back_stops Fence.wide _ trivial rfl (by decide) (w'.heap.size + 1) w'.heap.size W0.heap.size b off len cap a (fun x => .string (s0 x)) (fun x => .string (s1 x)) (fun x => .slice (a2 x) (n2 x) (k2 x)) (fun x => .slice (a3 x) (n3 x) (k3 x)) (fun x => .bool (b5 x)) (fun x => .int .i64 (i6 x)) (fun x => .string (s7 x)) (fun x => .int .i64 (i8 x)) bl hlen (by omega) ha W0 (Nat.le_refl _) f0 (by omega) f1 (by omega) hc0)
    belowK_t (belowK_b (Nat.le_refl _)) (Below.refl _ _) (fun _ => rfl)
    (fun pre W => (∀ x ∈ pre, ok x = false) ∧ Below W0.heap.size W0 W)
    (fun c pre W => (c = .ret ∧ ∃ ini last, pre = ini ++ [last] ∧ (∀ x ∈ ini, ok x = false) ∧ ok last = true ∧ W.cell? ⟨w.heap.size + 1 + 1, 0, none⟩ = some (.string (s0 last)) ∧ W.cell? ⟨w.heap.size + 1 + 1 + 1, 0, none⟩ = some (.bool true) ∧ W.cell? ⟨w.heap.size + 1 + 1 + 1 + 1, 0, none⟩ = some (.int .i64 0)) ∧ Below w.heap.size w W)
    (OwnFrom.and (Own.from (fun s A B row hs hg hr => hs) _) (ownFrom_below (Nat.le_refl _) (Nat.le_refl _)))
    (fun c => OwnFrom.and (Own.from (fun s A B row hs hg hr => by obtain ⟨hc, ini, last, e1, e2, e3, e4, e5, e6⟩ := hs; exact ⟨hc, ini, last, e1, e2, e3, cell_kept e4 hg hr, cell_kept e5 hg hr, cell_kept e6 hg hr⟩) _) (ownFrom_below (Nat.le_refl _) (by omega)))
    ⟨by simp, Below.refl _ _⟩
    (fun x a' W => ∃ Bx, w'.heap.size + 1 + 1 ≤ Bx ∧ Box9 (fun x => .string (s0 x)) (fun x => .string (s1 x)) (fun x => .slice (a2 x) (n2 x) (k2 x)) (fun x => .slice (a3 x) (n3 x) (k3 x)) bl (fun x => .bool (b5 x)) (fun x => .int .i64 (i6 x)) (fun x => .string (s7 x)) (fun x => .int .i64 (i8 x)) W Bx 0 x ∧ a' = { tmps := #[.agg #[v0, v1, .slice (some ⟨b, off, none⟩) len cap], .string num, .agg #[.int .i64 c, .int .i64 d], .pointer (some ⟨w.heap.size, 0, none⟩), undef, .pointer (some ⟨w.heap.size + 1, 0, none⟩), .pointer (some ⟨w.heap.size + 1 + 1, 0, none⟩), .pointer (some ⟨w.heap.size + 1 + 1 + 1, 0, none⟩), .pointer (some ⟨w.heap.size + 1 + 1 + 1 + 1, 0, none⟩), .int .i64 a, .int .i64 0, .pointer (some ⟨Bx, 0, none⟩), undef, undef, .tuple #[.int .i64 a, .int .i64 0], .agg #[v0, v1, .slice (some ⟨b, off, none⟩) len cap], .string num, .tuple #[.int .i64 a, .int .i64 0], .int .i64 a, .int .i64 0, .int .i64 0, .bool false, undef, .pointer (some ⟨w.heap.size + 1, 0, none⟩), .int .i64 c, .bool false, .bool false, .pointer (some ⟨w.heap.size + 1, 0, none⟩), .int .i64 c, .bool false, .bool false, .bool false, .pointer (some ⟨w.heap.size + 1, 1, none⟩), .int .i64 d, .bool false, .bool false, .bool false, .pointer (some ⟨w.heap.size + 1, 1, none⟩), .int .i64 d, .bool false, .bool false, .agg #[v0, v1, .slice (some ⟨b, off, none⟩) len cap], .int .i64 a, .func (.func 79) #[] #[.pointer (some ⟨w'.heap.size + 1, 0, none⟩), .pointer (some ⟨w'.heap.size, 0, none⟩)], .agg #[.string (s0 x), .string (s1 x), .slice (a2 x) (n2 x) (k2 x), .slice (a3 x) (n3 x) (k3 x), .bool (bl x), .bool (b5 x), .int .i64 (i6 x), .string (s7 x), .int .i64 (i8 x)], undef, undef, undef, undef, undef, undef, undef, undef, undef], defers := [] })
    (fun x a' => Own.from (fun s A B row hs hg hr => by
      obtain ⟨Bx, h1, ⟨d0, d1, d2, d3, d4, d5, d6, d7, d8⟩, h3⟩ := hs
      exact ⟨Bx, h1, ⟨cell_kept d0 hg hr, cell_kept d1 hg hr, cell_kept d2 hg hr, cell_kept d3 hg hr, cell_kept d4 hg hr, cell_kept d5 hg hr, cell_kept d6 hg hr, cell_kept d7 hg hr, cell_kept d8 hg hr⟩, h3⟩) _) ?assign ?body ?done ?stop
  case assign =>
    rintro l pre x W K hi hK
    gi_wp2
    refine hK _ _ ((KeepsOthers.alloc _ _).from _) ((Below.refl _ W).alloc hi.2.size _) ⟨hi.1, hi.2.alloc hi.2.size _⟩ ⟨W.heap.size, by have := hi.2.size; omega, ?_, rfl⟩
    have hn := World.alloc_heap_new W (.cells #[.string (s0 x), .string (s1 x), .slice (a2 x) (n2 x) (k2 x), .slice (a3 x) (n3 x) (k3 x), .bool (bl x), .bool (b5 x), .int .i64 (i6 x), .string (s7 x), .int .i64 (i8 x)] 30)
    exact ⟨cell_at hn, cell_at hn, cell_at hn, cell_at hn, cell_at hn, cell_at hn, cell_at hn, cell_at hn, cell_at hn⟩
  case body =>
    rintro l pre x a' W hl ⟨r, hr⟩ ⟨hp, hB⟩ ⟨Bx, hBx, ⟨d0, d1, d2, d3, d4, d5, d6, d7, d8⟩, rfl⟩ hlt
    simp only [Nat.zero_add] at d1 d2 d3 d4 d5 d6 d7 d8
    have hBw2 : Below w.heap.size w W := hB0.trans (hB.mono (by omega))
    have q3 := (hB.cell (p := ⟨w.heap.size + 1, 0, none⟩) (by show w.heap.size + 1 < _; omega)).trans f3
    have q4 := (hB.cell (p := ⟨w.heap.size + 1, 1, none⟩) (by show w.heap.size + 1 < _; omega)).trans f4
    gi_wp2_with (refine ⟨trivial, ?_⟩; gi_at_call 41; refine (CallsIn.inRound l (callsIn_wide.2 (hmove x W hBw2))).mono ?_; rintro e w'' ⟨rfl, hBm⟩; have hs3 := hB.size; have hs4 := hBm.size; have hB3 : Below W0.heap.size W0 w'' := hB.trans (hBm.mono hs3); have r5 : ∀ o, (w''.alloc o).cell? ⟨w.heap.size + 1 + 1, 0, none⟩ = some _ := fun o => ((hB3.alloc (by omega) o).cell (p := ⟨w.heap.size + 1 + 1, 0, none⟩) (by show w.heap.size + 1 + 1 < _; omega)).trans f5; have r5f : ∀ o, (w''.alloc o).frozen? ⟨w.heap.size + 1 + 1, 0, none⟩ = false := fun o => (froz_below (hB3.alloc (by omega) o) (p := ⟨w.heap.size + 1 + 1, 0, none⟩) (by show w.heap.size + 1 + 1 < _; omega)).trans f5f; have r6 : ∀ o, (w''.alloc o).cell? ⟨w.heap.size + 1 + 1 + 1, 0, none⟩ = some _ := fun o => ((hB3.alloc (by omega) o).cell (p := ⟨w.heap.size + 1 + 1 + 1, 0, none⟩) (by show w.heap.size + 1 + 1 + 1 < _; omega)).trans f6; have r6f : ∀ o, (w''.alloc o).frozen? ⟨w.heap.size + 1 + 1 + 1, 0, none⟩ = false := fun o => (froz_below (hB3.alloc (by omega) o) (p := ⟨w.heap.size + 1 + 1 + 1, 0, none⟩) (by show w.heap.size + 1 + 1 + 1 < _; omega)).trans f6f; have r7 : ∀ o, (w''.alloc o).cell? ⟨w.heap.size + 1 + 1 + 1 + 1, 0, none⟩ = some _ := fun o => ((hB3.alloc (by omega) o).cell (p := ⟨w.heap.size + 1 + 1 + 1 + 1, 0, none⟩) (by show w.heap.size + 1 + 1 + 1 + 1 < _; omega)).trans f7; have r7f : ∀ o, (w''.alloc o).frozen? ⟨w.heap.size + 1 + 1 + 1 + 1, 0, none⟩ = false := fun o => (froz_below (hB3.alloc (by omega) o) (p := ⟨w.heap.size + 1 + 1 + 1 + 1, 0, none⟩) (by show w.heap.size + 1 + 1 + 1 + 1 < _; omega)).trans f7f; have d0' : ∀ o, (w''.alloc o).cell? ⟨Bx, 0, none⟩ = some (.string (s0 x)) := fun o => (((hBm.alloc hs4 o).cell (p := ⟨Bx, 0, none⟩) (lt_cell d0))).trans d0)
    all_goals first
      | (have hx : ok x = false := by first | assumption | simpa using (by assumption : ¬ ok x = true)
         exact ⟨((keeps_below hBm).trans (KeepsOthers.alloc _ _)).from _, (hBm.mono hs3).alloc (by omega) _, ⟨fun y hy => (List.mem_append.1 hy).elim (hp y) (fun e => by rw [List.mem_singleton.1 e]; exact hx), hB3.alloc (by omega) _⟩⟩)
      | skip
    have hx : ok x = true := by first | assumption | simpa using (by assumption : ¬ ok x = false)
    refine ⟨((keeps_below hBm).trans ((KeepsOthers.alloc _ _).trans ((KeepsOthers.setCell _ _ _).trans ((KeepsOthers.setCell _ _ _).trans (KeepsOthers.setCell _ _ _))))).from _, ⟨rfl, pre, x, rfl, hp, hx, ?_, ?_, ?_⟩, ?_⟩
    · exact (World.cell?_setCell_other _ _ _ _ (by simp)).trans ((World.cell?_setCell_other _ _ _ _ (by simp)).trans (World.cell?_setCell_same' _ _ _ (by rw [r5]; rfl)))
    · exact (World.cell?_setCell_other _ _ _ _ (by simp)).trans (World.cell?_setCell_same' _ _ _ (by rw [World.cell?_setCell_other _ _ _ _ (by simp), r6]; rfl))
    · exact World.cell?_setCell_same' _ _ _ (by rw [World.cell?_setCell_other _ _ _ _ (by simp), World.cell?_setCell_other _ _ _ _ (by simp), r7]; rfl)
    · exact ((((hBw2.trans (hBm.mono hBw2.size)).alloc (by omega) _).setCell (p := ⟨w.heap.size + 1 + 1, 0, none⟩) (by show _ ≤ w.heap.size + 1 + 1; omega) _).setCell (p := ⟨w.heap.size + 1 + 1 + 1, 0, none⟩) (by show _ ≤ w.heap.size + 1 + 1 + 1; omega) _).setCell (p := ⟨w.heap.size + 1 + 1 + 1 + 1, 0, none⟩) (by show _ ≤ w.heap.size + 1 + 1 + 1 + 1; omega) _
  case done =>
    rintro D ys W hD ⟨k, h1, rfl, h2, h3⟩ ⟨hp, hB⟩ hK
    have hs3 := hB.size
    have r5 := (hB.cell (p := ⟨w.heap.size + 1 + 1, 0, none⟩) (by show w.heap.size + 1 + 1 < _; omega)).trans f5
    have r5f := (froz_below hB (p := ⟨w.heap.size + 1 + 1, 0, none⟩) (by show w.heap.size + 1 + 1 < _; omega)).trans f5f
    have r6 := (hB.cell (p := ⟨w.heap.size + 1 + 1 + 1, 0, none⟩) (by show w.heap.size + 1 + 1 + 1 < _; omega)).trans f6
    have r6f := (froz_below hB (p := ⟨w.heap.size + 1 + 1 + 1, 0, none⟩) (by show w.heap.size + 1 + 1 + 1 < _; omega)).trans f6f
    have r7 := (hB.cell (p := ⟨w.heap.size + 1 + 1 + 1 + 1, 0, none⟩) (by show w.heap.size + 1 + 1 + 1 + 1 < _; omega)).trans f7
    have r7f := (froz_below hB (p := ⟨w.heap.size + 1 + 1 + 1 + 1, 0, none⟩) (by show w.heap.size + 1 + 1 + 1 + 1 < _; omega)).trans f7f
    gi_wp2
    have hK1 := (KeepsOthers.setCell W ⟨w.heap.size + 1 + 1, 0, none⟩ (.string ⟨#[]⟩)).same D _ hK rfl
    have hK2 := (KeepsOthers.setCell (W.setCell ⟨w.heap.size + 1 + 1, 0, none⟩ (.string ⟨#[]⟩)) ⟨w.heap.size + 1 + 1 + 1, 0, none⟩ (.bool false)).same D _ hK1 rfl
    have hK' := (KeepsOthers.setCell ((W.setCell ⟨w.heap.size + 1 + 1, 0, none⟩ (.string ⟨#[]⟩)).setCell ⟨w.heap.size + 1 + 1 + 1, 0, none⟩ (.bool false)) ⟨w.heap.size + 1 + 1 + 1 + 1, 0, none⟩ (.int .i64 0)).same D _ hK2 rfl
    refine ⟨by simp, .inl ⟨_, _, rfl, run_takeDeferred hK', ?_⟩⟩
    have k0 : (((W.setCell ⟨w.heap.size + 1 + 1, 0, none⟩ (.string ⟨#[]⟩)).setCell ⟨w.heap.size + 1 + 1 + 1, 0, none⟩ (.bool false)).setCell ⟨w.heap.size + 1 + 1 + 1 + 1, 0, none⟩ (.int .i64 0)).cell? ⟨w.heap.size + 1 + 1, 0, none⟩ = some (.string ⟨#[]⟩) :=
      (World.cell?_setCell_other _ _ _ _ (by simp)).trans ((World.cell?_setCell_other _ _ _ _ (by simp)).trans (World.cell?_setCell_same' _ _ _ (by rw [r5]; rfl)))
    have k1 : (((W.setCell ⟨w.heap.size + 1 + 1, 0, none⟩ (.string ⟨#[]⟩)).setCell ⟨w.heap.size + 1 + 1 + 1, 0, none⟩ (.bool false)).setCell ⟨w.heap.size + 1 + 1 + 1 + 1, 0, none⟩ (.int .i64 0)).cell? ⟨w.heap.size + 1 + 1 + 1, 0, none⟩ = some (.bool false) :=
      (World.cell?_setCell_other _ _ _ _ (by simp)).trans (World.cell?_setCell_same' _ _ _ (by rw [World.cell?_setCell_other _ _ _ _ (by simp), r6]; rfl))
    have k2 : (((W.setCell ⟨w.heap.size + 1 + 1, 0, none⟩ (.string ⟨#[]⟩)).setCell ⟨w.heap.size + 1 + 1 + 1, 0, none⟩ (.bool false)).setCell ⟨w.heap.size + 1 + 1 + 1 + 1, 0, none⟩ (.int .i64 0)).cell? ⟨w.heap.size + 1 + 1 + 1 + 1, 0, none⟩ = some (.int .i64 0) :=
      World.cell?_setCell_same' _ _ _ (by rw [World.cell?_setCell_other _ _ _ _ (by simp), World.cell?_setCell_other _ _ _ _ (by simp), r7]; rfl)
    have hc5 := cell_kept k0 (grownBy_putObj' _ D (.deferred none)) (fun r e => by cases e; exact ⟨_, hK', rfl⟩)
    have hc6 := cell_kept k1 (grownBy_putObj' _ D (.deferred none)) (fun r e => by cases e; exact ⟨_, hK', rfl⟩)
    have hc7 := cell_kept k2 (grownBy_putObj' _ D (.deferred none)) (fun r e => by cases e; exact ⟨_, hK', rfl⟩)
    refine ⟨.tuple #[.string ⟨#[]⟩, .bool false, .int .i64 0], ?_, .inl ⟨k, h1, hp, h2, h3, rfl⟩, ((((hB0.trans (hB.mono (by omega))).setCell (p := ⟨w.heap.size + 1 + 1, 0, none⟩) (by show _ ≤ w.heap.size + 1 + 1; omega) _).setCell (p := ⟨w.heap.size + 1 + 1 + 1, 0, none⟩) (by show _ ≤ w.heap.size + 1 + 1 + 1; omega) _).setCell (p := ⟨w.heap.size + 1 + 1 + 1 + 1, 0, none⟩) (by show _ ≤ w.heap.size + 1 + 1 + 1 + 1; omega) _).trans (belowK_b (w := w) (Nat.le_refl _) _ D _ _ (by omega) hK' rfl rfl)⟩
    simp [results, Tryz.f20, go_sem, hc5, hc6, hc7]
  case stop =>
    rintro D c pre W hD ⟨k, h1, rfl, h2⟩ ⟨⟨rfl, ini, last, e1, e2, e3, e4, e5, e6⟩, hB⟩ hK
    gi_wp2
    obtain ⟨k', rfl⟩ : ∃ k', k = k' + 1 := by
      cases k with
      | zero => simp [dnL] at e1
      | succ k' => exact ⟨k', rfl⟩
    rw [dnL_succ] at e1
    obtain ⟨rfl, e7⟩ := List.append_inj' e1 rfl
    obtain rfl : a - k' = last := by simpa using e7
    refine ⟨by simp, .inl ⟨_, _, rfl, run_takeDeferred hK, ?_⟩⟩
    have hc5 := cell_kept e4 (grownBy_putObj' _ D (.deferred none)) (fun r e => by cases e; exact ⟨_, hK, rfl⟩)
    have hc6 := cell_kept e5 (grownBy_putObj' _ D (.deferred none)) (fun r e => by cases e; exact ⟨_, hK, rfl⟩)
    have hc7 := cell_kept e6 (grownBy_putObj' _ D (.deferred none)) (fun r e => by cases e; exact ⟨_, hK, rfl⟩)
    refine ⟨.tuple #[.string (s0 (a - k')), .bool true, .int .i64 0], ?_, .inr ⟨k', by omega, e2, e3, fun j h3 h4 => h2 j h3 (by omega), rfl⟩, hB.trans (belowK_b (w := w) (Nat.le_refl _) W D _ _ (by omega) hK rfl rfl)⟩
    simp [results, Tryz.f20, go_sem, hc5, hc6, hc7]
end Go.Proofs.YtdnpaifeoinjoaaGreatDoor

namespace Go.Proofs.YtdnpaifeoinjoaaGreatDoor
open Go.Sha Go.RowKit
set_option maxRecDepth 100000
def oriF (l:List Cu)(q:Prm):Nat→Option (List UInt8)
 |0=>if(movF (l.getD 0 default).moves q).isSome then some (l.getD 0 default).num else none
 |a+1=>if(movF (l.getD (a+1) default).moves q).isSome then some (l.getD (a+1) default).num else if(l.getD (a+1) default).block then none else oriF l q a
def oriV:Option (List UInt8)→V
 |none=>.tup [.str [],.bool false,.int .i64 0]
 |some s=>.tup [.str s,.bool true,.int .i64 0]
theorem oriF_at {l:List Cu}{q:Prm}:∀{a k:Nat},k≤a→(∀j,j<k→movF (l.getD (a-j) default).moves q=none∧(l.getD (a-j) default).block=false)→oriF l q a=oriF l q (a-k)
 |a,0,_,_=>rfl
 |0,k+1,h,_=>by omega
 |a+1,k+1,h,hj=>by
  obtain⟨h1,h2⟩:=hj 0 (by omega)
  simp only[Nat.sub_zero]at h1 h2
  rw[oriF,h1,h2]
  simp only[Bool.false_eq_true,if_false,Option.isSome_none]
  rw[oriF_at (a:=a) (k:=k) (by omega) (fun j hjk=>by have:=hj (j+1) (by omega);rwa [show a+1-(j+1)=a-j by omega]at this)]
  congr 1;omega
theorem ori_rep {w:World}{A:Abs}{s:List UInt8}{b:Bool}:Rep w A (.tuple #[.string ⟨s.toArray⟩,.bool b,.int .i64 0]) (.tup [.str s,.bool b,.int .i64 0]):=by
 refine Rep.tup [.string ⟨s.toArray⟩,.bool b,.int .i64 0] _ rfl (fun i v d h4 h5=>?_)
 match i,h4,h5 with
 |0,h4,h5=>simp at h4 h5;subst h4 h5;exact .str _
 |1,h4,h5=>simp at h4 h5;subst h4 h5;exact .bool _
 |2,h4,h5=>simp at h4 h5;subst h4 h5;exact .int _ _
 |n+3,h4,h5=>simp at h4
theorem callable20:Callable Tryz.prog 20:=⟨_,Tryz.func20,by kernel_rfl,by kernel_rfl⟩
theorem v20 {x:Lst}(hx:x.ok)(hP:lstP x=0){q:Prm}(hq1:prmC 1 q=0){s:List UInt8}(hsl:s.length<140737488355328)(hp:plcE x s=0)(st:St) :
  VRet Tryz.prog 20 [x.v,.str s,q.v] st (oriV (oriF x.cues q (plcV x s).toNat)) st:=by
 have h64:=(lst_parts hP).2.2.1
 have hm64:=lst_mov hP
 obtain⟨p1,ha⟩:=plc_at hp
 have hpV:plcV x s=(((plcV x s).toNat:Nat):Int):=by omega
 have hV32:VRet Tryz.prog 32 [x.v,.str s] st0 (.tup [.int .i64 (((plcV x s).toNat:Nat):Int),.int .i64 0]) st0:=by
  have:=run_sound mixed HH_ok _ _ _ _ _ (f32 (st:=st0) hx hsl)
  rw[hp]at this
  rw[←hpV]
  exact this
 have hq:okP q=true:=okP_of (prm_rng hq1)
 have hm:∀c∈x.cues,okMs c.moves=true:=fun c hc=>okMs_of (hm64 c hc).2.1 (hm64 c hc).2.2
 have hml:∀c∈x.cues,c.moves.length<140737488355328:=fun c hc=>by have:=(hm64 c hc).1;omega
 have hrng:=prm_rng hq1
 generalize (plcV x s).toNat=a at *
 obtain⟨nm,pr,l⟩:=x
 simp only[Lst.v]at *
 refine VRet_of_below callable20 (fun w A vs hw hv=>?_)
 obtain⟨u0,u1,u2,rfl,r0,r1,r2⟩:∃u0 u1 u2,vs=[u0,u1,u2]∧Rep w A u0 (.agg [.int .i64 nm,.int .i64 pr,.sl (l.map Cu.v)])∧Rep w A u1 (.str s)∧Rep w A u2 (.agg [.int .i64 q.chan,.int .i64 q.attr]):=by
  obtain⟨hlen,hr⟩:=hv
  match vs,hlen,hr with
  |[u0,u1,u2],_,hr=>exact⟨u0,u1,u2,rfl,hr 0 _ _ rfl rfl,hr 1 _ _ rfl rfl,hr 2 _ _ rfl rfl⟩
 obtain rfl:=r1.str_inv
 obtain rfl:=prm_inv r2
 obtain⟨us,rfl,hus,_,hur⟩:=r0.agg_inv
 obtain⟨t0,t1,t2,rfl⟩:∃t0 t1 t2,us=[t0,t1,t2]:=by
  match us,hus with
  |[t0,t1,t2],_=>exact⟨t0,t1,t2,rfl⟩
 have hne:l≠[]:=by intro e;rw[e]at ha;simp at ha
 obtain⟨b,o,cap,cell,rfl,hc⟩:=cues_at (hur 2 _ _ rfl rfl) hne
 have hget:∀j,j<l.length→l[j]?=some (l.getD j default):=fun j hj=>by rw[List.getD_eq_getElem?_getD,List.getElem?_eq_getElem hj];rfl
 have hb:b<w.heap.size:=hw.Clt _ _ (hc a _ (hget a ha) 0 _ rfl).1
 have hs:∀j,∃a2:Option Addr,∃n2 k2:Nat,∃a3:Option Addr,∃n3 k3:Nat,(j<l.length→w.cell? ⟨b,o+j*9+2,none⟩=some (.slice a2 n2 k2)∧w.cell? ⟨b,o+j*9+3,none⟩=some (.slice a3 n3 k3))∧Rep w A (.slice a2 n2 k2) (.sl ((l.getD j default).moves.map Mov.v))∧Rep w A (.slice a3 n3 k3) (.sl ((l.getD j default).parts.map Tim.v)):=fun j=>by
  by_cases hj:j<l.length
  ·obtain⟨_,g2,g3⟩:=hc j _ (hget j hj) 2 _ rfl
   obtain⟨_,g4,g5⟩:=hc j _ (hget j hj) 3 _ rfl
   obtain⟨a2,n2,k2,e2⟩:=rep_sl g3
   obtain⟨a3,n3,k3,e3⟩:=rep_sl g5
   rw[e2]at g2 g3
   rw[e3]at g4 g5
   exact⟨a2,n2,k2,a3,n3,k3,fun _=>⟨by rw[Nat.add_assoc];exact g2,by rw[Nat.add_assoc];exact g4⟩,g3,g5⟩
  ·have e:l.getD j default=default:=by rw[List.getD_eq_getElem?_getD,List.getElem?_eq_none (by omega)];rfl
   rw[e]
   exact⟨none,0,0,none,0,0,fun h=>absurd h hj,.slnil _,.slnil _⟩
 obtain⟨a2,hs⟩:=Classical.axiomOfChoice hs
 obtain⟨n2,hs⟩:=Classical.axiomOfChoice hs
 obtain⟨k2,hs⟩:=Classical.axiomOfChoice hs
 obtain⟨a3,hs⟩:=Classical.axiomOfChoice hs
 obtain⟨n3,hs⟩:=Classical.axiomOfChoice hs
 obtain⟨k3,hs⟩:=Classical.axiomOfChoice hs
 have hok:∀j,okMs (l.getD j default).moves=true∧(l.getD j default).moves.length<140737488355328:=fun j=>by
  by_cases hj:j<l.length
  ·have:=List.mem_of_getElem? (hget j hj)
   exact⟨hm _ this,hml _ this⟩
  ·have e:l.getD j default=default:=by rw[List.getD_eq_getElem?_getD,List.getElem?_eq_none (by omega)];rfl
   rw[e];exact⟨rfl,by decide⟩
 have hmove:∀j W,Below w.heap.size w W→Calls Tryz.prog 41 #[.agg #[.string ⟨(l.getD j default).num.toArray⟩,.string ⟨(l.getD j default).label.toArray⟩,.slice (a2 j) (n2 j) (k2 j),.slice (a3 j) (n3 j) (k3 j),.bool (l.getD j default).block,.bool (l.getD j default).mark,.int .i64 (l.getD j default).follow,.string ⟨(l.getD j default).link.toArray⟩,.int .i64 (l.getD j default).loops],.agg #[.int .i64 q.chan,.int .i64 q.attr]] W fun e W' =>
   e=.returned (.tuple #[.agg #[.int .i64 ((movF (l.getD j default).moves q).getD ⟨-1,0⟩).pal,.int .i64 ((movF (l.getD j default).moves q).getD ⟨-1,0⟩).lev],.bool (movF (l.getD j default).moves q).isSome])∧Below W.heap.size W W':=fun j W hB=>by
  obtain⟨_,g2,g3⟩:=hs j
  have hx:=Ext.below hw hB
  have hwW:=hw.below hB
  have h0:Reps W A [.agg #[.string ⟨(l.getD j default).num.toArray⟩,.string ⟨(l.getD j default).label.toArray⟩,.slice (a2 j) (n2 j) (k2 j),.slice (a3 j) (n3 j) (k3 j),.bool (l.getD j default).block,.bool (l.getD j default).mark,.int .i64 (l.getD j default).follow,.string ⟨(l.getD j default).link.toArray⟩,.int .i64 (l.getD j default).loops],.agg #[.int .i64 q.chan,.int .i64 q.attr]] [(l.getD j default).v,q.v] :=
   ⟨rfl,fun i v c h1 h2=>by
    match i,h1,h2 with
    |0,h1,h2=>simp at h1 h2;subst h1 h2;exact agg9 (g2.mono hx) (g3.mono hx)
    |1,h1,h2=>simp at h1 h2;subst h1 h2;exact prm_rep
    |n+2,h1,h2=>simp at h1⟩
  have h1:=h0.data (B:=abs0 W) (fun b o h=>hwW.Clt b o h) (by simp[V.bdL,Cu.bd,Prm.bd])
  have hV:VRet Tryz.prog 41 [(l.getD j default).v,q.v] st0 (.tup [((movF (l.getD j default).moves q).getD ⟨-1,0⟩).v,.bool (movF (l.getD j default).moves q).isSome]) st0:=run_sound mixed HN0_ok _ _ _ _ _ (f41 (hok j).1 hq (hok j).2)
  refine(calls_of Tryz.func41 (by kernel_rfl) (by kernel_rfl) hV h1).mono fun e W' ⟨⟨v,A',he,hr⟩,hb⟩=>⟨?_,hb⟩
  obtain⟨ws,rfl,hws,hwr⟩:=hr.tup_inv
  obtain⟨y0,y1,rfl⟩:∃y0 y1,ws=[y0,y1]:=by
   match ws,hws with
   |[y0,y1],_=>exact⟨y0,y1,rfl⟩
  obtain rfl:=prm_inv (hwr 0 _ _ rfl rfl)
  obtain rfl:=(hwr 1 _ _ rfl rfl).bool_inv
  exact he
 have hplace:∀W,Below w.heap.size w W→Calls Tryz.prog 32 #[.agg #[t0,t1,.slice (some ⟨b,o,none⟩) l.length cap],.string ⟨s.toArray⟩] W fun e W'=>e=.returned (.tuple #[.int .i64 a,.int .i64 0])∧Below W.heap.size W W':=fun W hB=>by
  have hx:=Ext.below hw hB
  have hwW:=hw.below hB
  have h0:Reps W A [.agg #[t0,t1,.slice (some ⟨b,o,none⟩) l.length cap],.string ⟨s.toArray⟩] [.agg [.int .i64 nm,.int .i64 pr,.sl (l.map Cu.v)],.str s] :=
   ⟨rfl,fun i v c h1 h2=>by
    match i,h1,h2 with
    |0,h1,h2=>simp at h1 h2;subst h1 h2;exact r0.mono hx
    |1,h1,h2=>simp at h1 h2;subst h1 h2;exact .str _
    |n+2,h1,h2=>simp at h1⟩
  have h1:=h0.data (B:=abs0 W) (fun b o h=>hwW.Clt b o h) (by simp[V.bdL,V.bd,bdL_map'])
  refine(calls_of Tryz.func32 (by kernel_rfl) (by kernel_rfl) hV32 h1).mono fun e W' ⟨⟨v,A',he,hr⟩,hb⟩=>⟨?_,hb⟩
  obtain⟨ws,rfl,hws,hwr⟩:=hr.tup_inv
  obtain⟨y0,y1,rfl⟩:∃y0 y1,ws=[y0,y1]:=by
   match ws,hws with
   |[y0,y1],_=>exact⟨y0,y1,rfl⟩
  obtain rfl:=(hwr 0 _ _ rfl rfl).int_inv
  obtain rfl:=(hwr 1 _ _ rfl rfl).int_inv
  exact he
 have hbox:∀j,j<l.length→Box9 (fun x=>.string ⟨(l.getD x default).num.toArray⟩) (fun x=>.string ⟨(l.getD x default).label.toArray⟩) (fun x=>.slice (a2 x) (n2 x) (k2 x)) (fun x=>.slice (a3 x) (n3 x) (k3 x)) (fun x=>(l.getD x default).block) (fun x=>.bool (l.getD x default).mark) (fun x=>.int .i64 (l.getD x default).follow) (fun x=>.string ⟨(l.getD x default).link.toArray⟩) (fun x=>.int .i64 (l.getD x default).loops) w b (o+j*9) j:=fun j hj=>by
  have hg:=hget j hj
  obtain⟨_,e0,d0⟩:=hc j _ hg 0 _ rfl
  obtain⟨_,e1,d1⟩:=hc j _ hg 1 _ rfl
  obtain⟨_,e4,d4⟩:=hc j _ hg 4 _ rfl
  obtain⟨_,e5,d5⟩:=hc j _ hg 5 _ rfl
  obtain⟨_,e6,d6⟩:=hc j _ hg 6 _ rfl
  obtain⟨_,e7,d7⟩:=hc j _ hg 7 _ rfl
  obtain⟨_,e8,d8⟩:=hc j _ hg 8 _ rfl
  rw[d0.str_inv]at e0
  rw[d1.str_inv]at e1
  rw[d4.bool_inv]at e4
  rw[d5.bool_inv]at e5
  rw[d6.int_inv]at e6
  rw[d7.str_inv]at e7
  rw[d8.int_inv]at e8
  obtain⟨e2,e3⟩:=(hs j).1 hj
  simp only[←Nat.add_assoc,Nat.add_zero]at e0 e1 e4 e5 e6 e7 e8
  exact⟨e0,e1,e2,e3,e4,e5,e6,e7,e8⟩
 have hcd:1≤q.chan∧q.chan≤999∧0≤q.attr∧q.attr≤14:=by
  unfold prmC at hq1;split at hq1
  ·cases hq1
  ·omega
 refine(origin_calls w b o l.length cap a (fun x=>⟨(l.getD x default).num.toArray⟩) (fun x=>⟨(l.getD x default).label.toArray⟩) (fun x=>⟨(l.getD x default).link.toArray⟩) a2 a3 n2 k2 n3 k3 (fun x=>(l.getD x default).mark) (fun x=>(l.getD x default).follow) (fun x=>(l.getD x default).loops) (fun x=>(l.getD x default).block) t0 t1 ⟨s.toArray⟩ q.chan q.attr hcd
  (fun x=>((movF (l.getD x default).moves q).getD ⟨-1,0⟩).pal) (fun x=>((movF (l.getD x default).moves q).getD ⟨-1,0⟩).lev) (fun x=>(movF (l.getD x default).moves q).isSome) (by omega) hb ha hbox hmove hplace).mono fun e W' ⟨he,hB⟩=>?_
 have hmem:∀{k j:Nat},j<k→(a-j)∈dnL a k:=fun {k j} hj=>by unfold dnL;exact List.mem_map.2 ⟨j,List.mem_range.2 hj,rfl⟩
 rcases he with⟨k,h1,h2,h3,h4,rfl⟩|⟨k,h1,h2,h3,h4,rfl⟩
 ·refine⟨_,rfl,fun w' A'=>?_,hB⟩
  have hk0:0<k:=by rcases h3 with h3|h3<;>omega
  have hn:∀j,j<k→movF (l.getD (a-j) default).moves q=none:=fun j hj=>by
   have:=h2 _ (hmem hj)
   cases hx:movF (l.getD (a-j) default).moves q with
   |none=>rfl
   |some v=>rw[hx]at this;simp at this
  have e1:=oriF_at (l:=l) (q:=q) (a:=a) (k:=k-1) (by omega) (fun j hj=>⟨hn j (by omega),by have:=h4 (j+1) (by omega) (by omega);rwa [show a+1-(j+1)=a-j by omega]at this⟩)
  have e2:oriF l q (a-(k-1))=none:=by
   have hz:=hn (k-1) (by omega)
   cases hy:a-(k-1) with
   |zero=>rw[oriF];rw[hy]at hz;rw[hz];rfl
   |succ y =>
    rw[hy]at hz
    rw[oriF,hz]
    rcases h3 with h3|⟨_,h3⟩
    ·omega
    ·rw[show a+1-k=y+1 by omega]at h3
     simp only[h3,if_true,Option.isSome_none,Bool.false_eq_true,if_false]
  rw[e1,e2]
  exact ori_rep (s:=[]) (b:=false)
 ·refine⟨_,rfl,fun w' A'=>?_,hB⟩
  have hn:∀j,j<k→movF (l.getD (a-j) default).moves q=none:=fun j hj=>by
   have:=h2 _ (hmem hj)
   cases hx:movF (l.getD (a-j) default).moves q with
   |none=>rfl
   |some v=>rw[hx]at this;simp at this
  have e1:=oriF_at (l:=l) (q:=q) (a:=a) (k:=k) (by omega) (fun j hj=>⟨hn j hj,by have:=h4 (j+1) (by omega) (by omega);rwa [show a+1-(j+1)=a-j by omega]at this⟩)
  rw[e1]
  have e2:oriF l q (a-k)=some (l.getD (a-k) default).num:=by
   cases hy:a-k with
   |zero=>rw[oriF,←hy,if_pos h3]
   |succ y=>rw[oriF,←hy,if_pos h3]
  rw[e2]
  exact ori_rep (s:=(l.getD (a-k) default).num) (b:=true)
def okCu (c:Cu):Bool:=decide (c.num.length<140737488355328)&&decide (c.label.length<140737488355328)&&decide (c.moves.length<140737488355328)&&decide (c.parts.length<140737488355328)&&decide (c.link.length<140737488355328)
def okLst (l:List Cu):Bool:=decide (l.length<140737488355328)&&l.all okCu
theorem okLst_iff {x:Lst}:okLst x.cues=true↔x.ok:=by
 simp only[okLst,okCu,Bool.and_eq_true,decide_eq_true_eq,List.all_eq_true]
 exact⟨fun h=>⟨h.1,fun c hc=>by obtain⟨⟨⟨⟨a,b⟩,c⟩,d⟩,e⟩:=h.2 c hc;exact⟨a,b,c,d,e⟩⟩,fun h=>⟨h.a,fun c hc=>by have:=h.b c hc;exact⟨⟨⟨⟨this.a,this.b⟩,this.c⟩,this.d⟩,this.e⟩⟩⟩
def hOri:List V→Option VRes
 |[.agg [.int .i64 n,.int .i64 p,.sl cs],.str s,.agg [.int .i64 c,.int .i64 d]]=>match rdL rdCu cs with
  |some l=>if okLst l&&decide (s.length<140737488355328)&&decide (lstP ⟨n,p,l⟩=0)&&decide (plcE ⟨n,p,l⟩ s=0)&&decide (prmC 1 ⟨c,d⟩=0) then some (.ret (oriV (oriF l ⟨c,d⟩ (plcV ⟨n,p,l⟩ s).toNat))) else none
  |none=>none
 |_=>none
def flat1:V→Bool
 | .int _ _ | .bool _ | .str _=>true
 |_=>false
def flatT:V→Bool
 | .tup vs=>vs.all flat1
 |v=>flat1 v
theorem flat1_rep {w w':World}{A A':Abs}{v:Value}{r:V}(hf:flat1 r=true)(h:Rep w A v r):Rep w' A' v r:=by
 cases r with
 |int k n=>rw[h.int_inv];exact .int _ _
 |bool b=>rw[h.bool_inv];exact .bool _
 |str s=>rw[h.str_inv];exact .str _
 |_=>simp[flat1]at hf
theorem flatT_rep {w w':World}{A A':Abs}{v:Value}{r:V}(hf:flatT r=true)(h:Rep w A v r):Rep w' A' v r:=by
 by_cases ht:∃vs,r=.tup vs
 ·obtain⟨vs,rfl⟩:=ht
  simp only[flatT,List.all_eq_true]at hf
  obtain⟨us,rfl,hl,hr⟩:=h.tup_inv
  exact .tup _ _ hl fun i v c h1 h2=>flat1_rep (hf c (List.mem_of_getElem? h2)) (hr i v c h1 h2)
 ·refine flat1_rep ?_ h
  cases r with
  |tup vs=>exact absurd ⟨vs,rfl⟩ ht
  |_=>exact hf
theorem VRet_read {f:FuncId}{fn:Func}(hF:Tryz.prog.funcs[f]?=some fn)(hname:(fn.name == "runtime.NumGoroutine")=false)(hbd:fn.body.isNone=false)(hc:Callable Tryz.prog f){args:List V}{st:St}{r:V}(hb:V.bdL 0 (args.map (shutA st))=true)(hr:flatT r=true)
  (h:VRet Tryz.prog f (args.map (shutA st)) st0 r st0):VRet Tryz.prog f args st r st :=
 VRet_of_below hc fun w A vs hs ha=>by
  have h1:Reps w A.shut vs (args.map (shutA st)):=⟨by rw[List.length_map];exact ha.1,fun i v c hv hc=>by
   rw[List.getElem?_map]at hc
   obtain⟨d,hd,rfl⟩:=Option.map_eq_some_iff.1 hc
   exact shutA_rep hs (ha.2 i v d hv hd)⟩
  have h2:=h1.data (B:=abs0 w) (fun b o h=>h.elim (hs.Clt b o) fun⟨id,h⟩=>(hs.ownlt b id h).1) hb
  exact(calls_of hF hname hbd h h2).mono fun e W' ⟨⟨v,A',he,hrr⟩,hB⟩=>⟨v,he,fun w' A'=>flatT_rep hr hrr,hB⟩
noncomputable def hRd (k:FuncId)(args:List V)(st:St):Rt:=match evK Tryz.prog HH 100 30 k (args.map (shutA st)) st0 with
 |some (.ret r,⟨0,[],[],⟨[],[],[]⟩⟩)=>if flatT r&&V.bdL 0 (args.map (shutA st)) then some (.ret r,st) else none
 |_=>none
theorem hRd_ok {f:FuncId}{fn:Func}(hF:Tryz.prog.funcs[f]?=some fn)(hname:(fn.name == "runtime.NumGoroutine")=false)(hbd:fn.body.isNone=false)(hc:Callable Tryz.prog f){args:List V}{st:St}{r:VRes}{s:St}(h:hRd f args st=some (r,s)):VCalls Tryz.prog f args st (fun r' s'=>r'=r∧s'=s):=by
 unfold hRd at h
 split at h
 ·rename_i r0 he
  split at h
  ·rename_i hc0
   cases h
   simp only[Bool.and_eq_true]at hc0
   exact VRet_read hF hname hbd hc hc0.2 hc0.1 (run_sound mixed HH_ok _ _ _ _ _ (evK_run he))
  ·cases h
 ·cases h
def oslI:List V→Option Nat
 |[]=>none
 | .agg cs::r=>match cs.findSome? (fun c=>match c with
  | .osl id _=>some id
  |_=>none) with
  |some id=>some id
  |none=>oslI r
 |_::r=>oslI r
noncomputable def hFzR (k:FuncId)(args:List V)(st:St):Rt:=if V.bdL 0 args then shutR st (evK Tryz.prog HH 100 30 k args (stG st.x.gl)) else none
noncomputable def hFz (k:FuncId)(args:List V)(st:St):Rt:=match oslI args with
 |some id=>match Sha.look st.arr id with
  |some r=>hFzR k (args.map fun a=>(snapA (frzS st id r) a).getD a) (frzS st id r)
  |none=>none
 |none=>none
theorem hFz_ok {k:FuncId}{args:List V}{st:St}{r:VRes}{s:St}(h:hFz k args st=some (r,s)):VCalls Tryz.prog k args st (fun r' s'=>r'=r∧s'=s):=by
 unfold hFz at h
 split at h
 ·split at h
  ·rename_i hl
   refine VCalls_freeze hl ?_
   unfold hFzR at h
   split at h
   ·rename_i hb
    generalize hz:evK Tryz.prog HH 100 30 k _ _=z at h
    cases z with
    |none=>simp only[shutR]at h;cases h
    |some z =>
     obtain⟨r1,s1⟩:=z
     exact VCalls_shut hb (run_sound mixed HH_ok _ _ _ _ _ (evK_run hz)) h
   ·cases h
  ·cases h
 ·cases h
theorem callable46:Callable Tryz.prog 46:=⟨_,Tryz.func46,by kernel_rfl,by kernel_rfl⟩
noncomputable def HG:EvF:=⟨[66,97,112],fun f args st=>bif Nat.beq f 20 then(hOri args).map fun r=>(r,st) else bif Nat.beq f 46 then hRd 46 args st else bif Nat.beq f 47 then hFz 47 args st else HH f args st⟩
theorem HG_ok:ESound Tryz.prog HG:=fun f args st r s h=>by
 simp only[HG]at h
 by_cases h1:f=20
 ·subst h1
  rw[show Nat.beq 20 20=true from rfl,cond_true]at h
  obtain⟨z,hz,e⟩:=Option.map_eq_some_iff.1 h
  cases e
  unfold hOri at hz
  split at hz
  ·rename_i n p cs t c d
   split at hz
   ·rename_i l hl
    split at hz
    ·rename_i hc
     simp only[Bool.and_eq_true,decide_eq_true_eq]at hc
     obtain⟨⟨⟨⟨c1,c2⟩,c3⟩,c4⟩,c5⟩:=hc
     cases hz
     have:=v20 (x:=⟨n,p,l⟩) (okLst_iff.1 c1) c3 c5 c2 c4 st
     simp only[Lst.v,Prm.v]at this
     rw[←rdL_map rdCu_v hl]at this
     exact this
    ·cases hz
   ·cases hz
  ·cases hz
 rw[show Nat.beq f 20=false from Bool.eq_false_iff.2 fun e=>h1 (Nat.eq_of_beq_eq_true e),cond_false]at h
 by_cases h1:f=46
 ·subst h1
  exact hRd_ok Tryz.func46 (by kernel_rfl) (by kernel_rfl) callable46 h
 rw[show Nat.beq f 46=false from Bool.eq_false_iff.2 fun e=>h1 (Nat.eq_of_beq_eq_true e),cond_false]at h
 by_cases h1:f=47
 ·subst h1
  exact hFz_ok h
 rw[show Nat.beq f 47=false from Bool.eq_false_iff.2 fun e=>h1 (Nat.eq_of_beq_eq_true e),cond_false]at h
 exact HH_ok _ _ _ _ _ h
end Go.Proofs.YtdnpaifeoinjoaaGreatDoor

namespace Go.Proofs.YtdnpaifeoinjoaaGreatDoor
open Go.Sha
set_option maxRecDepth 100000
theorem e14 (g:List (Nat×Obj)):evK Tryz.prog HG 100 30 14 [] (stG g)=some (.ret (.bool true),stG g):=by kernel_rfl
end Go.Proofs.YtdnpaifeoinjoaaGreatDoor

namespace Go.Proofs.YtdnpaifeoinjoaaGreatDoor
open Go.Sha
set_option maxRecDepth 100000
noncomputable def HK:EvF:=⟨[66,97,112],fun f args st=>bif memL f [4,5,6] then none else bif Nat.beq f 14 then(match args with
 |[]=>some (.ret (.bool true),st)
 |_=>none) else run Tryz.prog HH f args st⟩
@[push_cast]theorem HK_raw:HK.raw=[66,97,112]:=idq rfl
theorem v14 (st:St):VCalls Tryz.prog 14 [] st (fun r s=>r=.ret (.bool true)∧s=st) :=
 VCalls_shut rfl (run_sound mixed HG_ok _ _ _ _ _ (evK_run (e14 st.x.gl))) rfl
theorem HK_ok:ESound Tryz.prog HK:=fun f args st r s h=>by
 simp only[HK]at h
 cases hm:memL f [4,5,6] with
 |true=>rw[hm,cond_true]at h;cases h
 |false =>
 rw[hm,cond_false]at h
 by_cases h2:f=14
 ·subst h2
  rw[show Nat.beq 14 14=true from rfl,cond_true]at h
  split at h
  ·cases h;exact v14 st
  ·cases h
 rw[show Nat.beq f 14=false from Bool.eq_false_iff.2 fun e=>h2 (Nat.eq_of_beq_eq_true e),cond_false]at h
 exact run_sound mixed HH_ok _ _ _ _ _ h
theorem up {k:FuncId}{a:List V}{st:St}{r:VRes×St}(h:run Tryz.prog HH k a st=some r)(h1:memL k [4,5,6]=false:=by rfl)(h2:Nat.beq k 14=false:=by rfl):run Tryz.prog HK k a st=some r:=run_H (by
 show(bif memL k [4,5,6] then none else bif Nat.beq k 14 then _ else run Tryz.prog HH k a st)=_
 rw[h1,h2,cond_false,cond_false];exact h)
theorem f14 {st:St}:run Tryz.prog HK 14 [] st=some (.ret (.bool true),st):=run_H rfl
end Go.Proofs.YtdnpaifeoinjoaaGreatDoor

namespace Go.Proofs.YtdnpaifeoinjoaaGreatDoor
open Go.Sha
set_option maxRecDepth 100000
theorem f15 {x:Lst}(hx:x.ok):∃b,∀st,run Tryz.prog HH 15 [x.v] st=some (.ret (.bool (b&&lstP x == 0&&decide (x.cues.length≤8))),st):=by
 obtain⟨b,h26⟩:=f26 hx
 refine⟨b,fun st=>?_⟩
 have h27:=fun(st:St)=>f27 (x:=x) hx (st:=st)
 rw[←lst_eq]at h27
 have ha:=hx.a
 rw[run_shut F15 rfl rfl (by simp)]
 push_cast[Lst.v]at h26 h27
 have e:decide ((x.cues.length:Int)≤8)=decide (x.cues.length≤8):=by rw[decide_eq_decide];omega
 cases b with
 |true =>
  by_cases h:lstP x=0
  ·push_cast[Lst.v,h26,h27,h,e]
  ·have e0:(lstP x == 0)=false:=by simpa using h
   push_cast[Lst.v,h26,h27,h,e0]
 |false=>push_cast[Lst.v,h26]
end Go.Proofs.YtdnpaifeoinjoaaGreatDoor

namespace Go.Proofs.YtdnpaifeoinjoaaGreatDoor
open Go.Sha
set_option maxRecDepth 100000
variable {g:List (Nat×Obj)}{n:Nat}
theorem f85 {q:Prm}{c:Int}{st:St}:run Tryz.prog HH 85 [q.v,.int .i64 c] st=some (.ret (.int .i64 (prmC c q)),st):=by
 rw[run_shut F85 rfl rfl (by simp)]
 push_cast[Prm.v,prmC]
 all_goals first|with_reducible rfl|exact dn_eq (by omega) (by with_reducible rfl)|((repeat' split)<;>(try simp_all)<;>(try (with_reducible refine dn_eq ?_ ?_<;>first|trivial|omega|rfl))<;>(try omega))
theorem f89 {x y:Prm}{st:St}:run Tryz.prog HH 89 [x.v,y.v] st=some (.ret (.int .i64 (cmpP x y)),st):=by
 rw[run_shut F89 rfl rfl (by simp)]
 push_cast[Prm.v,cmpP]
 all_goals first|with_reducible rfl|exact dn_eq (by omega) (by with_reducible rfl)|((repeat' split)<;>(try simp_all)<;>(try (with_reducible refine dn_eq ?_ ?_<;>first|trivial|omega|rfl))<;>(try omega))
def entC (e:Prm×Val):Int:=if ¬prmC 1 e.1=0 then prmC 1 e.1 else valC e.2
theorem f84 {e:Prm×Val}{st:St}:run Tryz.prog HH 84 [entV e] st=some (.ret (.int .i64 (entC e)),st):=by
 have h1:=fun(st:St)=>f85 (q:=e.1) (c:=1) (st:=st)
 have h2:=fun(st:St)=>f86 (x:=e.2) (st:=st)
 unfold entC
 rw[run_shut F84 rfl rfl (by simp)]
 push_cast[Prm.v,Val.v]at h1 h2
 by_cases h:prmC 1 e.1=0
 ·push_cast[entV,Prm.v,Val.v,h1,h2,h]
 ·push_cast[entV,Prm.v,Val.v,h1,h2,h]
theorem f88 {a b:Prm×Val}{st:St}:run Tryz.prog HH 88 [entV a,entV b] st=some (.ret (.int .i64 (cmpP a.1 b.1)),st):=by
 have h1:=fun(st:St)=>f89 (x:=a.1) (y:=b.1) (st:=st)
 rw[run_shut F88 rfl rfl (by simp)]
 push_cast[Prm.v]at h1
 push_cast[entV,Prm.v,Val.v,h1]
def enP (l:List (Prm×Val)):List (Prm×Val)→Nat→Int
 |[],_=>0
 |e::r,j=>if ¬entC e=0 then entC e else if 0<j∧0≤cmpP (l.getD (j-1) default).1 e.1 then 9 else enP l r (j+1)
theorem L87 {l:List (Prm×Val)}(hl:l.length<140737488355328):∀r j,l.drop j=r→runL Tryz.prog HH [0,2,3,16,17,18] n B87_0 [(0,.sl (l.map entV)),(2,.fn (.func 84) [] []),(3,.fn (.func 88) [] []),(16,.sl (l.map entV)),(17,.int .i64 l.length),(18,.int .i64 j)] (stN g n)=lpX 0 (stN g n) [] 8 (enP l r j):=by
 refine drop_ind (fun j h=>?_) (fun e r j h hx hd ih=>?_)
 all_goals rw[runL_of B87_0.eq_1]
 ·have h1:¬(j:Int)<l.length:=by omega
  push_cast[h1,enP,lps]
 ·have h1:(j:Int)<l.length:=by omega
  have hw:=iw1 (j:=j) (by omega)
  have h84:=fun(st:St)=>f84 (e:=e) (st:=st)
  rw[enP]
  by_cases hc:entC e=0
  ·rw[hc]at h84
   by_cases hj0:j=0
   ·subst hj0
    have e2:¬(¬entC e=0):=by simp[hc]
    have h1z:(0:Int)<(l.length:Int):=by omega
    rw[if_neg e2,if_neg (by omega)]
    push_cast[entV]at h84
    push_cast[h,h1z,hw,hx,h84,entV]at ih ⊢
    exact ih
   ·have e2:¬(¬entC e=0):=by simp[hc]
    rw[if_neg e2]
    obtain⟨p,hp⟩:∃p,p=j-1:=⟨_,rfl⟩
    rw[←hp]
    have hpl:p<l.length:=by omega
    have hp0:(0:Int)<(j:Int):=by omega
    have hp1:(j:Int)-1=(p:Int):=by omega
    have hwp:IntKind.i64.wrap (p:Int)=(p:Int):=iwrap (by omega) (by omega)
    have hg:∀d,l.getD p d=l.getD p default:=fun d=>by rw[List.getD_eq_getElem?_getD,List.getD_eq_getElem?_getD,List.getElem?_eq_getElem hpl];rfl
    generalize l.getD p default=y at *
    have h88:=fun(st:St)=>f88 (a:=y) (b:=e) (st:=st)
    by_cases hq:0≤cmpP y.1 e.1
    ·rw[if_pos ⟨by omega,hq⟩]
     push_cast[entV]at h84 h88
     push_cast[h,h1,hw,hx,h84,h88,hg,hpl,hp0,hp1,hwp,hq,lps,entV]
     exact dn_eq (by omega) rfl
    ·rw[if_neg (fun h=>hq h.2)]
     push_cast[entV]at h84 h88
     push_cast[h,h1,hw,hx,h84,h88,hg,hpl,hp0,hp1,hwp,hq,entV]at ih ⊢
     exact dn_eq (by omega) ih
  ·rw[if_pos hc]
   generalize entC e=z at *
   push_cast[entV]at h84
   push_cast[h1,hw,hx,h84,hc,lps,entV]
def enS (l:List (Prm×Val)):Int:=if 4096<(l.length:Int) then 5 else enP l l 0
theorem f43 {l:List (Prm×Val)}(hl:l.length<140737488355328){st:St}:run Tryz.prog HH 43 [.sl (l.map entV)] st=some (.ret (.int .i64 (enS l)),st):=by
 have h87:∀st:St,run Tryz.prog HH 87 [.sl (l.map entV),.int .i64 4096,.fn (.func 84) [] [],.fn (.func 88) [] []] st=some (.ret (.int .i64 (enS l)),st):=fun st=>by
  have hL:=L87 (g:=st.x.gl) (n:=0) hl _ 0 rfl
  rw[List.drop_zero]at hL
  unfold enS
  rw[run_shut F87 rfl rfl (by simp)]
  by_cases h:4096<(l.length:Int)
  ·push_cast[h]
  ·rw[if_neg h]
   by_cases hz:enP l l 0=0
   ·rw[hz]at hL ⊢
    push_cast[lps]at hL
    push_cast[h,hL]
   ·push_cast[lps,hz]at hL
    push_cast[h,hL]
 rw[run_shut F43 rfl rfl (by simp)]
 push_cast[h87]
theorem f25 {l:List (Prm×Val)}{a:List V}{c:Int}{z:Bool}(hl:l.length<140737488355328)(h0:enS l=0)(hc:1≤c∧c≤999)(h57:∀st,run Tryz.prog HH 57 [.sl (l.map entV)] st=some (.ret (.agg a),st))(ha:W16 a)(h58:∀st,run Tryz.prog HH 58 [.agg a,.int .i64 c] st=some (.ret (.bool z),st)){st:St} :
  run Tryz.prog HH 25 [.sl (l.map entV),.int .i64 c] st=some (.ret (.tup [.bool (!z),.int .i64 0]),st):=by
 have h43:=fun(st:St)=>f43 (l:=l) (st:=st) hl
 rw[h0]at h43
 have c1:¬c<1:=by omega
 have c2:¬999<c:=by omega
 have s1:∀st:St,mapO (snap1 st) a=some a:=fun st=>w16_snap ha.2
 rw[run_shut F25 rfl rfl (by simp)]
 push_cast[h43,c1,c2,h57,h58,s1]
end Go.Proofs.YtdnpaifeoinjoaaGreatDoor

namespace Go.Proofs.YtdnpaifeoinjoaaGreatDoor
open Go.Sha
variable {x:Lst}
theorem val_ok (h:lstP x=0){p:Prm}:∀{k:Nat},k<x.cues.length→valC (valF x.cues p k)=0:=by
 have hf:=cue_fld h
 have h1:∀k,k<x.cues.length→∀v,movF (x.cues.getD k default).moves p=some v→valC v=0:=fun k hk v hv=>by
  have hc:x.cues.getD k default∈x.cues:=by rw[List.getD_eq_getElem?_getD,List.getElem?_eq_getElem hk];exact List.getElem_mem hk
  unfold movF at hv
  obtain⟨m,hm,rfl⟩:=Option.map_eq_some_iff.1 hv
  exact(hf _ hc m (List.mem_of_find?_eq_some hm)).1
 intro k
 induction k with
 |zero =>
  intro hk
  rw[valF]
  cases hv:movF (x.cues.getD 0 default).moves p with
  |none=>rfl
  |some v=>exact h1 0 hk v hv
 |succ k ih =>
  intro hk
  rw[valF]
  cases hv:movF (x.cues.getD (k+1) default).moves p with
  |none =>
   dsimp only
   split
   ·rfl
   ·exact ih (by omega)
  |some v=>exact h1 (k+1) hk v hv
theorem ftpL_asc (h:lstP x=0):(ftpL x).Pairwise fun a b=>cmpP a b<0:=by
 have h1:(ftpL x).Pairwise (fun a b=>leP a b=true):=sortO_sorted
 have h2:(ftpL x).Pairwise (fun a b=>a≠b):=ftpL_nodup
 have hr:=ftpL_rng h
 refine(h1.and h2).imp_of_mem ?_
 intro a b ha hb ⟨h3,h4⟩
 have ra:=prm_rng (hr a ha)
 have rb:=prm_rng (hr b hb)
 obtain⟨ac,aa⟩:=a
 obtain⟨bc,ba⟩:=b
 simp only at ra rb
 have h5:¬(ac=bc∧aa=ba):=fun e=>h4 (by rw[e.1,e.2])
 rw[leP_iff]at h3
 unfold cmpP
 dsimp only at h3 ⊢
 split
 ·rw[iwrap (by omega) (by omega)];omega
 ·rw[iwrap (by omega) (by omega)];omega
theorem enP_ok {l:List (Prm×Val)}(h1:∀e∈l,entC e=0)(h2:l.Pairwise fun a b=>cmpP a.1 b.1<0):∀r j,l.drop j=r→enP l r j=0
 |[],_,_=>rfl
 |e::r,j,hd=>by
  have hj:j<l.length:=by
   rcases Nat.lt_or_ge j l.length with h|h
   ·exact h
   ·rw[List.drop_eq_nil_of_le h]at hd;cases hd
  have hje:l[j]?=some e:=by rw[←List.head?_drop,hd];rfl
  have he:e∈l:=List.mem_of_getElem? hje
  have hd2:l.drop (j+1)=r:=by rw[←List.drop_drop,hd];rfl
  rw[enP,if_neg (by simp[h1 e he]),if_neg,enP_ok h1 h2 r (j+1) hd2]
  rintro⟨h0,hc⟩
  have hk:j-1<l.length:=by omega
  have h3:=List.pairwise_iff_getElem.1 h2 (j-1) j hk hj (by omega)
  rw[List.getD_eq_getElem?_getD,List.getElem?_eq_getElem hk]at hc
  rw[List.getElem?_eq_getElem hj]at hje
  rw[Option.some.inj hje]at h3
  simp only[Option.getD_some]at hc
  omega
theorem ent_ok (h:lstP x=0)(h8:x.cues.length≤8){k:Nat}(hk:k<x.cues.length):enS (entL x k)=0:=by
 have hl:(entL x k).length≤1024:=by
  have h1:=keyL_len (cs:=x.cues) (a:=[]) (fun c hc=>(lst_mov h c hc).1)
  rw[entL,List.length_map,ftpL,sortO_perm.length_eq]
  rw[List.length_nil]at h1;omega
 unfold enS
 rw[if_neg (by omega)]
 refine enP_ok (fun e he=>?_) ?_ _ 0 rfl
 ·obtain⟨p,hp,rfl⟩:=List.mem_map.1 he
  unfold entC
  have h1:prmC 1 (entF x k p).1=0:=ftpL_rng h p hp
  rw[if_neg (by simp[h1])]
  exact val_ok h hk
 ·exact List.pairwise_map.2 (ftpL_asc h)
end Go.Proofs.YtdnpaifeoinjoaaGreatDoor

namespace Go.Proofs.YtdnpaifeoinjoaaGreatDoor
open Go.Sha
set_option maxRecDepth 100000
variable {x:Lst}
theorem ix_holds {α:Type}{p:α→Bool}:∀{l:List α}{j t:Nat},ix p l j=((j+t:Nat):Int)→∃y,l[t]?=some y∧p y=true
 |[],j,t,h=>by rw[ix]at h;omega
 |y::r,j,t,h=>by
  rw[ix]at h
  by_cases hp:p y=true
  ·rw[if_pos hp]at h
   obtain rfl:t=0:=by omega
   exact⟨y,rfl,hp⟩
  ·rw[if_neg hp]at h
   cases t with
   |zero =>
    rcases ix_rng (p:=p) (l:=r) (j:=j+1) with h2|h2<;>omega
   |succ t =>
    obtain⟨z,h1,h2⟩:=ix_holds (l:=r) (j:=j+1) (t:=t) (by rw[h];omega)
    exact⟨z,h1,h2⟩
theorem setM_at {M:List (Prm×Val)}{q:Mov}{i:Nat}{e:Prm×Val}(h:M[i]?=some e):(setM M q)[i]?=some e∨q.prm=e.1∧(setM M q)[i]?=some (e.1,q.val):=by
 unfold setM
 split
 ·rename_i h0
  obtain⟨t,ht⟩:∃t:Nat,ix (fun e:Prm×Val=>decide (e.1=q.prm)) M 0=((0+t:Nat):Int):=⟨(ix (fun e:Prm×Val=>decide (e.1=q.prm)) M 0).toNat,by omega⟩
  obtain⟨y,y1,y2⟩:=ix_holds ht
  have e1:(ix (fun e:Prm×Val=>decide (e.1=q.prm)) M 0).toNat=t:=by omega
  rw[e1]
  by_cases hi:t=i
  ·subst hi
   rw[h]at y1;cases y1
   right
   have hl:=(List.getElem?_eq_some_iff.1 h).1
   refine⟨(of_decide_eq_true y2).symm,?_⟩
   rw[List.getElem?_set_self hl,List.getD_eq_getElem?_getD,h];rfl
  ·left;rw[List.getElem?_set_ne hi];exact h
 ·exact .inl h
theorem setMs_at:∀{E:List Mov}{M:List (Prm×Val)}{i:Nat}{e:Prm×Val},M[i]?=some e→∃v,(E.foldl setM M)[i]?=some (e.1,v)∧(v=e.2∨∃q∈E,q.prm=e.1∧q.val=v)
 |[],M,i,e,h=>⟨e.2,h,.inl rfl⟩
 |q::r,M,i,e,h=>by
  rw[List.foldl_cons]
  rcases setM_at (q:=q) h with h1|⟨h1,h2⟩
  ·obtain⟨v,v1,v2⟩:=setMs_at (E:=r) h1
   exact⟨v,v1,v2.imp_right fun⟨q,q1,q2⟩=>⟨q,List.mem_cons_of_mem _ q1,q2⟩⟩
  ·obtain⟨v,v1,v2⟩:=setMs_at (E:=r) h2
   refine⟨v,v1,?_⟩
   rcases v2 with v2|⟨q',q1,q2,q3⟩
   ·exact .inr ⟨q,List.mem_cons_self ..,h1,v2.symm⟩
   ·exact .inr ⟨q',List.mem_cons_of_mem _ q1,q2,q3⟩
structure MkD (x:Lst) (k:Nat) (a:List V) (E:List Mov):Prop where
 w:W16 a
 lit:∀st,run Tryz.prog HH 57 [.sl ((entL x k).map entV)] st=some (.ret (.agg a),st)
 len:E.length≤1000
 ear:∀q∈E,(k+1<x.cues.length∧q∈(x.cues.getD (k+1) default).moves)∧¬q.prm.attr=0∧∀st,run Tryz.prog HH 58 [.agg a,.int .i64 q.prm.chan] st=some (.ret (.bool false),st)
 out:∀st,run Tryz.prog HH 36 [.agg [.sl (x.cues.map Cu.v),.sl ((lkL x).map entS)],.int .i64 k] st=some (.ret (.sl ((E.foldl setM (entL x k)).map entV)),st)
theorem mkD_ex (h:lstP x=0)(hx:x.ok){k:Nat}(hk:k<x.cues.length):∃a E,MkD x k a E:=by
 obtain⟨a,E,ha,h57,hE,hdk,h76⟩:=f76 h hk
 exact⟨a,E,ha,h57,hE,hdk,fun st=>f36E h hk hE h76⟩
theorem MkD.at {k:Nat}{a:List V}{E:List Mov}(hD:MkD x k a E){i:Nat}{e:Prm×Val}(h:(entL x k)[i]?=some e) :
  ∃v,(E.foldl setM (entL x k))[i]?=some (e.1,v)∧(v=e.2∨¬e.1.attr=0∧∀st,run Tryz.prog HH 58 [.agg a,.int .i64 e.1.chan] st=some (.ret (.bool false),st)):=by
 obtain⟨v,v1,v2⟩:=setMs_at (E:=E) h
 refine⟨v,v1,v2.imp_right fun⟨q,q1,q2,_⟩=>?_⟩
 obtain⟨_,q3,q4⟩:=hD.ear q q1
 rw[q2]at q3 q4
 exact⟨q3,q4⟩
end Go.Proofs.YtdnpaifeoinjoaaGreatDoor

namespace Go.Proofs.YtdnpaifeoinjoaaGreatDoor
open Go.Sha
set_option maxRecDepth 100000
variable {g:List (Nat×Obj)}{n:Nat}{x:Lst}
theorem dark_at (h:lstP x=0)(h8:x.cues.length≤8){k:Nat}(hk:k<x.cues.length){a:List V}{E:List Mov}(hD:MkD x k a E)(i:Nat)(e:Prm×Val)(he:(entL x k)[i]?=some e) :
  ∃v,(E.foldl setM (entL x k))[i]?=some (e.1,v)∧(v=e.2∨¬e.1.attr=0∧∀st,run Tryz.prog HH 25 [.sl ((entL x k).map entV),.int .i64 e.1.chan] st=some (.ret (.tup [.bool true,.int .i64 0]),st)):=by
 obtain⟨v,v1,v2⟩:=hD.at he
 refine⟨v,v1,v2.imp_right fun⟨h1,h2⟩=>⟨h1,fun st=>?_⟩⟩
 have hm:=List.mem_of_getElem? he
 obtain⟨p,hp,rfl⟩:=List.mem_map.1 hm
 have hr:=prm_rng (ftpL_rng h p hp)
 exact f25 (z:=false) (by have:=ent_len h (k:=k);omega) (ent_ok h h8 hk) hr.1 hD.lit hD.w h2
end Go.Proofs.YtdnpaifeoinjoaaGreatDoor

namespace Go.Proofs.YtdnpaifeoinjoaaGreatDoor
open Go.Sha
set_option maxRecDepth 100000
variable {g:List (Nat×Obj)}{n:Nat}{x:Lst}
theorem f42 (h:lstP x=0)(hx:x.ok){k:Nat}(hk:k<x.cues.length){st:St}:run Tryz.prog HH 42 [x.v,.str (x.cues.getD k default).num] st=some (.ret (.tup [x.v,.int .i64 k,.int .i64 0]),st):=by
 obtain⟨p1,p2⟩:=plc_own h hk
 have hc:x.cues.getD k default∈x.cues:=by rw[List.getD_eq_getElem?_getD,List.getElem?_eq_getElem hk];exact List.getElem_mem hk
 have h67:=fun(st:St)=>f67 (x:=x) hx (s:=(x.cues.getD k default).num) (st:=st) (hx.b _ hc).a
 have hn:=(lst_parts h).2.2.2 _ hc
 have e:ix (fun c:Cu=>c.num == (x.cues.getD k default).num) x.cues 0=k:=by rw[plcV,if_pos p1]at p2;exact p2
 rw[e,if_neg (fun e=>e h),if_neg (fun e=>e hn),if_neg (by omega),decide_eq_true (show(0:Int)≤k by omega)]at h67
 generalize (x.cues.getD k default).num=s at *
 rw[run_shut F42 rfl rfl (by simp)]
 push_cast[Lst.v]at h67
 push_cast[Lst.v,h67]
end Go.Proofs.YtdnpaifeoinjoaaGreatDoor

namespace Go.Proofs.YtdnpaifeoinjoaaGreatDoor
open Go.Sha
set_option maxRecDepth 100000
variable {g:List (Nat×Obj)}{n:Nat}{x:Lst}
theorem f54 {st:St}:run Tryz.prog HH 54 [] st=some (.ret (.agg [.int .i64 (-1),.int .i64 0]),st):=by
 rw[run_shut F54 rfl rfl (by simp)]
 push_cast
 all_goals first|with_reducible rfl|exact dn_eq (by omega) (by with_reducible rfl)|((repeat' split)<;>(try simp_all)<;>(try (with_reducible refine dn_eq ?_ ?_<;>first|trivial|omega|rfl))<;>(try omega))
theorem f96 {m:Mov}{p:Prm}{st:St}:run Tryz.prog HH 96 [m.v,.ep p.v 0] st=some (.ret (.bool (decide (m.prm=p))),st):=by
 obtain⟨a,b⟩:=p
 obtain⟨⟨c,d⟩,u,z⟩:=m
 rw[run_shut F96 rfl rfl (by simp)]
 push_cast[Mov.v,Prm.v]
 have e:(c == a&&d == b)=decide ((⟨c,d⟩:Prm)=⟨a,b⟩):=by rw[Bool.eq_iff_iff];simp
 rw[e]
theorem f11p {l:List Mov}{p:Prm}(hl:l.length<140737488355328){st:St}:run Tryz.prog HH 11 [.sl (l.map Mov.v),.fn (.func 96) [] [.ep p.v 0]] st=some (.ret (.int .i64 (ix (fun m:Mov=>decide (m.prm=p)) l 0)),st) :=
 IxF (f:=Mov.v) (n:=some 5) (fun _=>rfl) (fun _=>rfl) F11 rfl (by simp) hl (fun q _ _=>f96) (fun _ _=>rfl) (fun _=>rfl)
theorem f95 {l:List Mov}{p:Prm}(hl:l.length<140737488355328){st:St}:run Tryz.prog HH 95 [.sl (l.map Mov.v),.fn (.func 96) [] [.ep p.v 0]] st=some (.ret (.bool (l.any fun m:Mov=>decide (m.prm=p))),st):=by
 have h11:=fun(st:St)=>f11p (l:=l) (p:=p) (st:=st) hl
 have e:decide (0≤ix (fun m:Mov=>decide (m.prm=p)) l 0)=l.any fun m:Mov=>decide (m.prm=p):=by
  rw[Bool.eq_iff_iff,decide_eq_true_iff,ix_ge]
 rw[←e]
 generalize ix (fun m:Mov=>decide (m.prm=p)) l 0=z at *
 rw[run_shut F95 rfl rfl (by simp)]
 push_cast[Prm.v]at h11
 push_cast[Prm.v,h11]
theorem f55 {k:Nat}(hk:k<x.cues.length)(hx:x.ok){p:Prm}{st:St}:run Tryz.prog HH 55 [x.v,.int .i64 k,p.v] st=some (.ret (.bool ((x.cues.getD k default).moves.any fun m:Mov=>decide (m.prm=p))),st):=by
 have hc:x.cues.getD k default∈x.cues:=by rw[List.getD_eq_getElem?_getD,List.getElem?_eq_getElem hk];exact List.getElem_mem hk
 have h95:=fun(st:St)=>f95 (l:=(x.cues.getD k default).moves) (p:=p) (st:=st) (hx.b _ hc).c
 have hg:∀d,x.cues.getD k d=x.cues.getD k default:=fun d=>by rw[List.getD_eq_getElem?_getD,List.getD_eq_getElem?_getD,List.getElem?_eq_getElem hk];rfl
 generalize x.cues.getD k default=c at *
 generalize (c.moves.any fun m:Mov=>decide (m.prm=p))=z at *
 have hk1:(k:Int)<x.cues.length:=by omega
 rw[run_shut F55 rfl rfl (by simp)]
 push_cast[Prm.v]at h95
 push_cast[Lst.v,Prm.v,Cu.v,hg,hk,hk1,h95]
end Go.Proofs.YtdnpaifeoinjoaaGreatDoor

namespace Go.Proofs.YtdnpaifeoinjoaaGreatDoor
open Go.Sha
set_option maxRecDepth 100000
variable {g:List (Nat×Obj)}{n:Nat}{x:Lst}
def keepB (x:Lst)(k:Nat)(e:Prm×Val):Bool:=!(e.2.pal == -1&&e.2.lev == 0)&&!((x.cues.getD k default).moves.any fun m:Mov=>decide (m.prm=e.1))
theorem f53 {k:Nat}(hk:k<x.cues.length)(hx:x.ok){e:Prm×Val}{st:St}:run Tryz.prog HH 53 [entV e,.ep x.v 0,.ep (.agg [.int .i64 k]) 0] st=some (.ret (.bool (keepB x k e)),st):=by
 have h54:=fun(st:St)=>f54 (st:=st)
 have h55:=fun(st:St)=>f55 hk hx (p:=e.1) (st:=st)
 obtain⟨⟨pc,pa⟩,⟨vp,vl⟩⟩:=e
 unfold keepB
 generalize ((x.cues.getD k default).moves.any fun m:Mov=>decide (m.prm=⟨pc,pa⟩))=z at *
 rw[run_shut F53 rfl rfl (by simp)]
 push_cast[Lst.v,Prm.v]at h55
 cases hq:(vp == -1&&vl == 0) with
 |true=>push_cast[entV,Lst.v,Prm.v,h54,h55,hq]
 |false=>push_cast[entV,Lst.v,Prm.v,h54,h55,hq]
theorem L52 {k:Nat}(hk:k<x.cues.length)(hx:x.ok){l:List (Prm×Val)}(hl:l.length≤8192):∀r j,l.drop j=r→∀a:List (Prm×Val),a.length≤j →
  runL Tryz.prog HH [1,5,8,9,10] (n+1) B52_0 [(1,.fn (.func 53) [] [.ep x.v 0,.ep (.agg [.int .i64 k]) 0]),(5,.osl n a.length),(8,.sl (l.map entV)),(9,.int .i64 l.length),(10,.int .i64 j)] (stLk g n a)
   = some (.exit 0,[(5,.osl n (a++r.filter (keepB x k)).length)],stLk g n (a++r.filter (keepB x k))):=by
 refine drop_ind (fun j hj a ha=>?_) (fun e r j hj hx1 hd ih a ha=>?_)
 all_goals rw[runL_of B52_0.eq_1]
 ·have h1:¬(j:Int)<l.length:=by omega
  push_cast[h1,List.filter_nil,List.append_nil]
 ·have h1:(j:Int)<l.length:=by omega
  have hw:=iw1 (j:=j) (by omega)
  have hro:roomV (a.length+1) 32=true:=roomV_lit (by omega) (by omega)
  have h53:=fun(st:St)=>f53 hk hx (e:=e) (st:=st)
  cases hq:keepB x k e with
  |true =>
   rw[hq]at h53
   have ih:=ih (a++[e]) (by simp;omega)
   rw[List.filter_cons,hq,if_pos rfl]
   generalize r.filter (keepB x k)=Q at *
   push_cast[Lst.v,entV]at h53
   push_cast[h1,hw,hx1,hro,h53,Lst.v,entV,List.map_append,List.map_cons,List.map_nil,List.append_assoc,List.singleton_append]at ih ⊢
   exact ih
  |false =>
   rw[hq]at h53
   have ih:=ih a (by omega)
   rw[List.filter_cons,hq,if_neg (by simp)]
   generalize r.filter (keepB x k)=Q at *
   push_cast[Lst.v,entV]at h53
   push_cast[h1,hw,hx1,hro,h53,Lst.v,entV]at ih ⊢
   exact ih
theorem f52 {k:Nat}(hk:k<x.cues.length)(hx:x.ok){l:List (Prm×Val)}(hl:l.length≤8192){st:St} :
  run Tryz.prog HH 52 [.sl (l.map entV),.fn (.func 53) [] [.ep x.v 0,.ep (.agg [.int .i64 k]) 0]] st=some (.ret (.sl ((l.filter (keepB x k)).map entV)),st):=by
 have hL:=fun n=>L52 (g:=st.x.gl) (n:=n) hk hx hl l 0 rfl [] (Nat.le_refl _)
 rw[List.nil_append]at hL
 generalize l.filter (keepB x k)=Q at *
 rw[run_shut F52 rfl rfl (by simp)]
 push_cast[Lst.v,List.map_nil,List.length_nil]at hL
 push_cast[Lst.v,hL]
end Go.Proofs.YtdnpaifeoinjoaaGreatDoor

namespace Go.Proofs.YtdnpaifeoinjoaaGreatDoor
open Go.Sha
set_option maxRecDepth 100000
variable {g:List (Nat×Obj)}{n:Nat}{x:Lst}
def toM (e:Prm×Val):Mov:=⟨e.1,e.2,1⟩
@[reducible] def zcu:List V:=[.str [],.str [],.nils,.nils,.bool false,.bool false,.int .i64 0,.str [],.int .i64 0]
def stW (g:List (Nat×Obj))(k m n:Nat)(a:List Mov):St:=⟨k,[(m,zcu)],[(n,⟨45,5,a.map Mov.v,false,false⟩)],⟨[],g,[]⟩⟩
@[push_cast]theorem stW_eq {k m n:Nat}{a:List Mov}:stW g k m n a=⟨k,[(m,zcu)],[(n,⟨45,5,a.map Mov.v,false,false⟩)],⟨[],g,[]⟩⟩:=idq rfl
theorem L94 {c:Cu}{l:List (Prm×Val)}(hl:l.length≤8192){k m:Nat}(hm:m<k)(hn:n<k)(hnm:¬m=n):∀r j,l.drop j=r→∀a:List Mov,a.length≤j →
  runL Tryz.prog HH [2,3,6,10,38,39,40] k B94_0 [(2,.int .i64 1),(3,.ep c.v 0),(6,.ptr m 0),(10,.osl n a.length),(38,.sl (l.map entV)),(39,.int .i64 l.length),(40,.int .i64 j)] (stW g k m n a)
   = some (.exit 0,[(3,.ep c.v 0),(6,.ptr m 0),(10,.osl n (a++r.map toM).length)],stW g k m n (a++r.map toM)):=by
 have hm2:¬m=k:=by omega
 have hn2:¬n=k:=by omega
 have hm3:¬k≤m:=by omega
 have hn3:¬k≤n:=by omega
 have hn4:¬k+1=n:=by omega
 have hn5:¬n=k+1:=by omega
 refine drop_ind (fun j hj a ha=>?_) (fun e r j hj hx1 hd ih a ha=>?_)
 all_goals rw[runL_of B94_0.eq_1]
 ·have h1:¬(j:Int)<l.length:=by omega
  push_cast[h1,hm,hn,hm2,hn2,hm3,hn3,List.map_nil,List.append_nil,Cu.v]
 ·have h1:(j:Int)<l.length:=by omega
  have hw:=iw1 (j:=j) (by omega)
  have hro:roomV (a.length+1) 40=true:=roomV_lit (by omega) (by omega)
  have ih:=ih (a++[toM e]) (by simp;omega)
  rw[List.map_cons]
  generalize r.map toM=Q at *
  push_cast[h1,hw,hx1,hro,hm,hn,hm2,hn2,hm3,hn3,hn4,hn5,toM,Cu.v,Mov.v,entV,List.map_append,List.map_cons,List.map_nil,List.append_assoc,List.singleton_append]at ih ⊢
  exact ih
theorem f124 {c:Cu}{vm:V}{k m m2:Nat}{ar:List (Nat×Arr)}(hm:m<k)(hp:c.parts.length≤4){cs:List V} :
  run Tryz.prog HH 124 [.ptr m 0] ⟨k,[(m,[.str c.num,.str c.label,vm,.sl (c.parts.map Tim.v),.bool c.block,.bool c.mark,.int .i64 c.follow,.str c.link,.int .i64 c.loops]),(m2,cs)],ar,⟨[],g,[]⟩⟩
   = some (.ret (.tup []),⟨k+1,[(m,[.str c.num,.str c.label,vm,.osl k c.parts.length,.bool c.block,.bool c.mark,.int .i64 c.follow,.str c.link,.int .i64 c.loops]),(m2,cs)],(k,⟨161,6,c.parts.map Tim.v,true,false⟩)::ar,⟨[],g,[]⟩⟩):=by
 have hcn:=fun(st:St)=>r_cln (k:=143) (e:=161) (es:=6) (b:=48) (f:=Tim.v) (l:=c.parts) (st:=st) (fun _ _=>rfl) (fun _=>rfl) (fun _=>rfl) (by omega) (by decide)
 push_cast[Tim.v]at hcn
 rw[run_open F124 rfl rfl (by simp[V.bdL,V.bd])]
 push_cast[hcn,hm,Tim.v]
theorem f94 {c:Cu}(hc:c.ok)(h0:cueP c=0){l:List (Prm×Val)}(hl:l.length≤4096)(he:enS l=0)(hr:∀e∈l,prmC 1 e.1=0){st:St} :
  run Tryz.prog HH 94 [c.v,.sl (l.map entV),.int .i64 1] st=some (.ret (if 128<(mrg c.moves (l.map toM)).length then .tup [(default:Cu).v,.int .i64 5] else .tup [({ c with moves:=mrg c.moves (l.map toM) }:Cu).v,.int .i64 0]),st):=by
 obtain⟨p1,p2,p3,p4,p5⟩:=cue_parts h0
 have h91:=fun(st:St)=>f91 hc (st:=st)
 have h43:=fun(st:St)=>f43 (l:=l) (by omega) (st:=st)
 rw[h0]at h91
 rw[he]at h43
 have hP:0<c.parts.length∧c.parts.length≤4:=by
  unfold parC at p4
  repeat' split at p4
  all_goals first|(cases p4;done)|omega
 have hL:=fun k m n hm hn hnm=>L94 (g:=st.x.gl) (c:=c) (l:=l) (by omega) (k:=k) (m:=m) (n:=n) hm hn hnm l 0 rfl [] (Nat.le_refl _)
 obtain⟨a1,a2⟩:=movs_asc p3
 have hm8:c.moves.length≤128:=by
  unfold movCP at p3;split at p3
  ·cases p3
  ·omega
 have h31:=fun(st:St)=>f31 (a:=c.moves) (b:=l.map toM) (st:=st) a2 a1 (fun q hq=>by
  obtain⟨e,e1,rfl⟩:=List.mem_map.1 hq;exact hr e e1) hm8 (by rw[List.length_map];omega)
 have h124:=fun(vm:V) (ar:List (Nat×Arr)) (cs:List V)=>f124 (g:=st.x.gl) (c:=c) (vm:=vm) (k:=4) (m:=3) (m2:=1) (ar:=ar) (cs:=cs) (by omega) hP.2
 have hp1:¬(c.parts.length:Int)<1:=by omega
 rw[run_shut F94 rfl rfl (by simp)]
 push_cast[Cu.v,Mov.v,Tim.v]at h91 hL h31 h124
 generalize mrg c.moves (l.map toM)=Z at *
 by_cases hZ:128<Z.length
 ·push_cast[hZ]at h31 ⊢
  push_cast[h91,h43,hp1,hL,h31,Cu.v,Tim.v]
  rfl
 ·push_cast[hZ]at h31 ⊢
  push_cast[h91,h43,hp1,hL,h31,h124,Cu.v,Tim.v]
end Go.Proofs.YtdnpaifeoinjoaaGreatDoor

namespace Go.Proofs.YtdnpaifeoinjoaaGreatDoor
open Go.Sha
set_option maxRecDepth 100000
variable {g:List (Nat×Obj)}{n:Nat}{x:Lst}
theorem f47 {k:Nat}{c:Cu}(h64:x.cues.length≤64)(hk:k<x.cues.length){st:St}:run Tryz.prog HH 47 [x.v,.int .i64 k,c.v] st=some (.ret (({ x with cues:=x.cues.set k c }:Lst).v),st):=by
 have hcn:=fun(st:St)=>r_cln (k:=93) (e:=30) (es:=9) (b:=120) (f:=Cu.v) (l:=x.cues) (st:=st) (fun _ _=>rfl) (fun _=>rfl) (fun _=>rfl) (by omega) (by decide)
 have hgi:x.cues[k]?=some (x.cues.getD k default):=by rw[List.getD_eq_getElem?_getD,List.getElem?_eq_getElem hk];rfl
 have hk1:(k:Int)<x.cues.length:=by omega
 have hbs:V.bdL 0 ((x.cues.set k c).map Cu.v)=true:=by rw[bdL_map',List.all_eq_true];intro q _;simp[Cu.v,V.bdL,V.bd,bdL_map',Mov.v,Tim.v]
 generalize x.cues.getD k default=y at *
 rw[run_shut F47 rfl rfl (by simp)]
 simp only[List.map_set]at hbs ⊢
 push_cast[Cu.v]at hcn hbs
 push_cast[hcn,hgi,hk,hk1,hbs,Lst.v,Cu.v,List.map_set,List.length_set,List.length_map]
theorem f49 {k:Nat}(h:lstP x=0)(hx:x.ok)(hk:k<x.cues.length){l:List (Prm×Val)}(hl:l.length≤4096)(he:enS l=0)(hr:∀e∈l,prmC 1 e.1=0){st:St} :
  run Tryz.prog HH 49 [x.v,.int .i64 k,.sl (l.map entV)] st=some (.ret (if 128<(mrg (x.cues.getD k default).moves (l.map toM)).length then .tup [(default:Lst).v,.int .i64 5] else .tup [({ x with cues:=x.cues.set k { x.cues.getD k default with moves:=mrg (x.cues.getD k default).moves (l.map toM) } }:Lst).v,.int .i64 0]),st):=by
 have h64:=(lst_parts h).2.2.1
 have hc:x.cues.getD k default∈x.cues:=by rw[List.getD_eq_getElem?_getD,List.getElem?_eq_getElem hk];exact List.getElem_mem hk
 have h94:=fun(st:St)=>f94 (hx.b _ hc) (lst_cue h _ hc) hl he hr (st:=st)
 have h47:=fun(st:St)=>f47 (x:=x) (k:=k) (c:={ x.cues.getD k default with moves:=mrg (x.cues.getD k default).moves (l.map toM) }) (by omega) hk (st:=st)
 have hg:∀d,x.cues.getD k d=x.cues.getD k default:=fun d=>by rw[List.getD_eq_getElem?_getD,List.getD_eq_getElem?_getD,List.getElem?_eq_getElem hk];rfl
 have hk1:(k:Int)<x.cues.length:=by omega
 generalize x.cues.getD k default=c at *
 generalize mrg c.moves (l.map toM)=Z at *
 rw[run_shut F49 rfl rfl (by simp)]
 by_cases hZ:128<Z.length
 ·push_cast[Cu.v,hZ]at h94 ⊢
  push_cast[Lst.v,Cu.v,hg,hk,hk1,h94]
  rfl
 ·push_cast[Cu.v,Lst.v,hZ]at h94 h47 ⊢
  push_cast[Lst.v,Cu.v,hg,hk,hk1,h94,h47]
theorem enP_sub {l:List (Prm×Val)}(h1:∀e∈l,entC e=0)(h2:l.Pairwise fun a b=>cmpP a.1 b.1<0){f:Prm×Val→Bool}:enP (l.filter f) (l.filter f) 0=0 :=
 enP_ok (fun e he=>h1 e ((List.mem_filter.1 he).1)) (h2.filter _) _ 0 rfl
theorem ent_sub (h:lstP x=0)(h8:x.cues.length≤8){k:Nat}(hk:k<x.cues.length){f:Prm×Val→Bool}:((entL x k).filter f).length≤4096∧enS ((entL x k).filter f)=0∧∀e∈(entL x k).filter f,prmC 1 e.1=0:=by
 have hl:(entL x k).length≤1024:=by
  have h1:=keyL_len (cs:=x.cues) (a:=[]) (fun c hc=>(lst_mov h c hc).1)
  rw[entL,List.length_map,ftpL,sortO_perm.length_eq]
  rw[List.length_nil]at h1;omega
 have hsl:=List.length_filter_le f (entL x k)
 have hr:∀e∈entL x k,prmC 1 e.1=0:=fun e he=>by
  obtain⟨p,hp,rfl⟩:=List.mem_map.1 he
  exact ftpL_rng h p hp
 refine⟨by omega,?_,fun e he=>hr e ((List.mem_filter.1 he).1)⟩
 unfold enS
 rw[if_neg (by omega)]
 refine enP_sub (fun e he=>?_) (List.pairwise_map.2 (ftpL_asc h))
 unfold entC
 rw[if_neg (by simp[hr e he])]
 obtain⟨p,hp,rfl⟩:=List.mem_map.1 he
 exact val_ok h hk
def blkM (x:Lst)(k:Nat):List Mov:=mrg (x.cues.getD k default).moves (((entL x k).filter (keepB x k)).map toM)
def blkL (x:Lst)(k:Nat):Lst:={ x with cues:=x.cues.set k { x.cues.getD k default with moves:=blkM x k,block:=true } }
theorem f23 {k:Nat}(h:lstP x=0)(hx:x.ok)(h8:x.cues.length≤8)(hk:k<x.cues.length){st:St} :
  run Tryz.prog HH 23 [x.v,.str (x.cues.getD k default).num] st=some (.ret (if 128<(blkM x k).length then .tup [(default:Lst).v,.int .i64 5] else .tup [(blkL x k).v,.int .i64 0]),st):=by
 have h64:=(lst_parts h).2.2.1
 have hc:x.cues.getD k default∈x.cues:=by rw[List.getD_eq_getElem?_getD,List.getElem?_eq_getElem hk];exact List.getElem_mem hk
 obtain⟨p1,p2⟩:=plc_own h hk
 have h10:=fun(st:St)=>f10 hx h (s:=(x.cues.getD k default).num) (st:=st) (hx.b _ hc).a
 rw[p1,p2,if_pos rfl,Int.toNat_natCast]at h10
 have h42:=fun(st:St)=>f42 h hx hk (st:=st)
 have hle:=ent_len h (k:=k)
 have h52:=fun(st:St)=>f52 hk hx (l:=entL x k) hle (st:=st)
 have hsl:=List.length_filter_le (keepB x k) (entL x k)
 have h49:=fun(st:St)=>f49 h hx hk (l:=(entL x k).filter (keepB x k)) (ent_sub h h8 hk).1 (ent_sub h h8 hk).2.1 (ent_sub h h8 hk).2.2 (st:=st)
 have h47:=fun(st:St)=>f47 (x:={ x with cues:=x.cues.set k { x.cues.getD k default with moves:=blkM x k } }) (k:=k) (c:={ x.cues.getD k default with moves:=blkM x k,block:=true }) (by rw[List.length_set];omega) (by rw[List.length_set];exact hk) (st:=st)
 rw[show mrg (x.cues.getD k default).moves (((entL x k).filter (keepB x k)).map toM)=blkM x k from rfl]at h49
 unfold blkL
 generalize blkM x k=Z at *
 generalize (entL x k).filter (keepB x k)=Q at *
 generalize entL x k=M at *
 generalize x.cues.getD k default=c at *
 rw[run_shut F23 rfl rfl (by simp)]
 by_cases hZ:128<Z.length
 ·push_cast[Cu.v,Lst.v,hZ]at h49 h42 h10 h52 ⊢
  push_cast[Lst.v,Cu.v,h42,h10,h52,h49]
  rfl
 ·have hgi:∀c d:Cu,(x.cues.set k c).getD k d=c:=fun c d=>by rw[List.getD_eq_getElem?_getD,List.getElem?_set_self hk];rfl
  have hk1:(k:Int)<x.cues.length:=by omega
  simp only[List.set_set]at h47
  push_cast[Cu.v,Lst.v,hZ]at h49 h42 h10 h52 h47 ⊢
  push_cast[Lst.v,Cu.v,h42,h10,h52,h49,h47,hgi,hk,hk1,List.length_set,List.length_map]
end Go.Proofs.YtdnpaifeoinjoaaGreatDoor

namespace Go.Proofs.YtdnpaifeoinjoaaGreatDoor
open Go.Sha
variable {x:Lst}
theorem getD_set {α:Type}{l:List α}{k:Nat}(hk:k<l.length){c:α}{j:Nat}{d:α}:(l.set k c).getD j d=if j=k then c else l.getD j d:=by
 rw[List.getD_eq_getElem?_getD,List.getElem?_set,List.getD_eq_getElem?_getD]
 by_cases h:j=k
 ·subst h;rw[if_pos rfl,if_pos hk,if_pos rfl];rfl
 ·rw[if_neg (fun e=>h e.symm),if_neg h]
theorem drop_cons {α:Type}[Inhabited α]{l:List α}{j:Nat}(hj:j<l.length):l.drop j=l.getD j default::l.drop (j+1):=by
 rw[List.drop_eq_getElem_cons hj,List.getD_eq_getElem?_getD,List.getElem?_eq_getElem hj];rfl
theorem cuesP_set {l:List Cu}{k:Nat}(hk:k<l.length){c:Cu}(hn:c.num=(l.getD k default).num)(hc:cueP c=0):∀(r:List Cu) (j:Nat),l.drop j=r→cuesP l r j=0→cuesP (l.set k c) ((l.set k c).drop j) j=0
 |[],j,hd,_=>by
  have:l.length≤j:=List.drop_eq_nil_iff.1 hd
  rw[List.drop_eq_nil_of_le (by rw[List.length_set];exact this)];rfl
 |q::r,j,hd,h=>by
  have hj:=drop_le hd
  have hq:l.getD j default=q:=by
   have:=drop_cons hj;rw[hd]at this;injection this with h1 h2;exact h1.symm
  rw[cuesP]at h
  split at h
  ·rename_i a;exact absurd h a
  split at h
  ·cases h
  rename_i a b
  have ih:=cuesP_set hk hn hc r (j+1) (drop_succ hd) h
  have hnum:∀i,((l.set k c).getD i default).num=(l.getD i default).num:=fun i=>by
   rw[getD_set hk];split
   ·rename_i e;rw[e,hn]
   ·rfl
  rw[drop_cons (by rw[List.length_set];exact hj),cuesP,hnum,hnum,hq,if_neg,if_neg b,ih]
  rw[getD_set hk]
  split
  ·simp[hc]
  ·rw[hq];exact a
theorem key_lt {a b:Prm}(ha:prmC 1 a=0)(hb:prmC 1 b=0)(hab:cmpP a b<0):keyN a<keyN b:=by
 have ra:=prm_rng ha
 have rb:=prm_rng hb
 have hc:cmpP a b=if a.chan=b.chan then a.attr-b.attr else a.chan-b.chan:=cmp_ok (okP_of ra) (okP_of rb)
 rw[hc]at hab
 unfold keyN
 split at hab<;>omega
theorem blkM_asc (h:lstP x=0){k:Nat}(hk:k<x.cues.length):Asc keyM ((((entL x k).filter (keepB x k))).map toM)∧∀q∈((entL x k).filter (keepB x k)).map toM,prmC 1 q.prm=0∧okF q:=by
 have hf:=ftpL_asc h
 refine⟨?_,fun q hq=>?_⟩
 ·unfold Asc
  rw[List.pairwise_map]
  refine List.Pairwise.filter _ ?_
  rw[entL,List.pairwise_map]
  refine hf.imp_of_mem fun {a b} ha hb hab=>?_
  exact key_lt (ftpL_rng h a ha) (ftpL_rng h b hb) hab
 ·obtain⟨e,he,rfl⟩:=List.mem_map.1 hq
  obtain⟨p,hp,rfl⟩:=List.mem_map.1 (List.mem_filter.1 he).1
  exact⟨ftpL_rng h p hp,val_ok h hk,by show ¬((1:Int)<1∨4<(1:Int));omega⟩
theorem any_movF {l:List Mov}{p:Prm}:(l.any fun m:Mov=>decide (m.prm=p))=(movF l p).isSome:=by
 unfold movF
 rw[Option.isSome_map,Bool.eq_iff_iff,List.any_eq_true,List.find?_isSome]
 constructor
 ·rintro⟨m,h1,h2⟩
  obtain rfl:=of_decide_eq_true h2
  exact⟨m,h1,by simp⟩
 ·rintro⟨m,h1,h2⟩
  refine⟨m,h1,?_⟩
  simp only[Bool.and_eq_true,decide_eq_true_eq]at h2
  obtain⟨⟨a,b⟩,v,z⟩:=m
  obtain⟨c,d⟩:=p
  simp only at h2
  rw[h2.1,h2.2];simp
theorem fk_add (h:lstP x=0){k:Nat}{p:Prm}(hp:p∈ftpL x):fk (((entL x k).filter (keepB x k)).map toM) (keyN p)=if keepB x k (p,valF x.cues p k)=true then some (toM (p,valF x.cues p k)) else none:=by
 have key:∀m∈((entL x k).filter (keepB x k)).map toM,keyM m=keyN p→m=toM (p,valF x.cues p k)∧keepB x k (p,valF x.cues p k)=true:=fun m hm e=>by
  obtain⟨e1,he,rfl⟩:=List.mem_map.1 hm
  obtain⟨h1,h2⟩:=List.mem_filter.1 he
  obtain⟨q,hq,rfl⟩:=List.mem_map.1 h1
  obtain rfl:q=p:=keyN_inj (ftpL_rng h q hq) (ftpL_rng h p hp) e
  exact⟨rfl,h2⟩
 by_cases hk:keepB x k (p,valF x.cues p k)=true
 ·rw[if_pos hk]
  have hm:toM (p,valF x.cues p k)∈((entL x k).filter (keepB x k)).map toM:=List.mem_map_of_mem (List.mem_filter.2 ⟨List.mem_map.2 ⟨p,hp,rfl⟩,hk⟩)
  have hs:(fk (((entL x k).filter (keepB x k)).map toM) (keyN p)).isSome=true:=by
   rw[fk,List.find?_isSome];exact⟨_,hm,by simp[keyM,toM]⟩
  obtain⟨m,hf⟩:=Option.isSome_iff_exists.1 hs
  rw[hf]
  have h1:=List.find?_some hf
  rw[(key m (List.mem_of_find?_eq_some hf) (of_decide_eq_true h1)).1]
 ·rw[if_neg hk,fk,List.find?_eq_none]
  intro m hm e
  exact hk (key m hm (of_decide_eq_true e)).2
theorem cue_mem {k:Nat}(hk:k<x.cues.length):x.cues.getD k default∈x.cues:=by rw[List.getD_eq_getElem?_getD,List.getElem?_eq_getElem hk];exact List.getElem_mem hk
theorem blkM_rng (h:lstP x=0){k:Nat}(hk:k<x.cues.length):Asc keyM (blkM x k)∧∀q∈blkM x k,prmC 1 q.prm=0∧okF q:=by
 obtain⟨a1,a2⟩:=blkM_asc h hk
 obtain⟨m1,m2,m3⟩:=lst_mov h _ (cue_mem hk)
 have h1:=mrg_asc (r:=((entL x k).filter (keepB x k)).map toM) (M:=(x.cues.getD k default).moves) m3 m2 (fun q hq=>(a2 q hq).1)
 refine⟨h1.1,fun q hq=>⟨h1.2 q hq,?_⟩⟩
 rcases mrg_mem hq with hq|hq
 ·exact cue_fld h _ (cue_mem hk) q hq
 ·exact(a2 q hq).2
theorem movF_blk (h:lstP x=0){k:Nat}(hk:k<x.cues.length){p:Prm}(hp:p∈ftpL x):movF (blkM x k) p=match movF (x.cues.getD k default).moves p with
  |some v=>some v
  |none=>if valF x.cues p k=⟨-1,0⟩ then none else some (valF x.cues p k):=by
 obtain⟨a1,a2⟩:=blkM_asc h hk
 obtain⟨m1,m2,m3⟩:=lst_mov h _ (cue_mem hk)
 have hr:=ftpL_rng h p hp
 have e1:keepB x k (p,valF x.cues p k)=(!decide (valF x.cues p k=⟨-1,0⟩)&&!(movF (x.cues.getD k default).moves p).isSome):=by
  unfold keepB
  rw[any_movF]
  congr 2
  rw[Bool.eq_iff_iff]
  generalize valF x.cues p k=v
  obtain⟨a,b⟩:=v
  simp
 rw[movF_fk (fun q hq=>((blkM_rng h hk).2 q hq).1) hr,blkM,fk_mrg m3 a1,fk_add h hp,e1,movF_fk m2 hr]
 cases fk (x.cues.getD k default).moves (keyN p) with
 |some m=>simp
 |none =>
  by_cases hv:valF x.cues p k=⟨-1,0⟩
  ·simp[hv]
  ·simp[hv,toM]
theorem blk_cue {k:Nat}(hk:k<x.cues.length)(j:Nat):(blkL x k).cues.getD j default=if j=k then { x.cues.getD k default with moves:=blkM x k,block:=true } else x.cues.getD j default:=getD_set hk
theorem valF_blk (h:lstP x=0){k:Nat}(hk:k<x.cues.length){p:Prm}(hp:p∈ftpL x):∀j,valF (blkL x k).cues p j=valF x.cues p j
 |0=>by
  rw[valF,blk_cue hk]
  by_cases h0:0=k
  ·subst h0
   rw[if_pos rfl]
   show(movF (blkM x 0) p).getD ⟨-1,0⟩=_
   rw[movF_blk h hk hp,valF]
   cases movF (x.cues.getD 0 default).moves p with
   |some v=>rfl
   |none=>rfl
  ·rw[if_neg h0,valF]
 |j+1=>by
  rw[valF,blk_cue hk,valF_blk h hk hp j]
  by_cases h0:j+1=k
  ·subst h0
   rw[if_pos rfl]
   show(match movF (blkM x (j+1)) p with|some v=>v|none=>if true=true then _ else _)=_
   rw[movF_blk h hk hp]
   cases hm:movF (x.cues.getD (j+1) default).moves p with
   |some v=>rw[valF,hm]
   |none =>
    by_cases hv:valF x.cues p (j+1)=⟨-1,0⟩
    ·simp only[if_pos hv];rw[hv];rfl
    ·simp only[if_neg hv]
  ·rw[if_neg h0];rfl
theorem asc_eq {α:Type}{R:α→α→Prop}(hR:∀a b,R a b→R b a→False):∀{l m:List α},l.Pairwise R→m.Pairwise R→(∀z,z∈l↔z∈m)→l=m
 |[],[],_,_,_=>rfl
 |[],b::s,_,_,h=>by have:=(h b).2 (List.mem_cons_self ..);cases this
 |a::r,[],_,_,h=>by have:=(h a).1 (List.mem_cons_self ..);cases this
 |a::r,b::s,hl,hm,h=>by
  have hl':=List.pairwise_cons.1 hl
  have hm':=List.pairwise_cons.1 hm
  have e:a=b:=by
   rcases List.mem_cons.1 ((h a).1 (List.mem_cons_self ..)) with e|e
   ·exact e
   ·rcases List.mem_cons.1 ((h b).2 (List.mem_cons_self ..)) with e2|e2
    ·exact e2.symm
    ·exact(hR _ _ (hl'.1 b e2) (hm'.1 a e)).elim
  subst e
  rw[asc_eq hR hl'.2 hm'.2 fun z=>⟨fun hz=>?_,fun hz=>?_⟩]
  ·rcases List.mem_cons.1 ((h z).1 (List.mem_cons_of_mem _ hz)) with e|e
   ·subst e;exact(hR _ _ (hl'.1 _ hz) (hl'.1 _ hz)).elim
   ·exact e
  ·rcases List.mem_cons.1 ((h z).2 (List.mem_cons_of_mem _ hz)) with e|e
   ·subst e;exact(hR _ _ (hm'.1 _ hz) (hm'.1 _ hz)).elim
   ·exact e
end Go.Proofs.YtdnpaifeoinjoaaGreatDoor

namespace Go.Proofs.YtdnpaifeoinjoaaGreatDoor
open Go.Sha
set_option maxRecDepth 100000
variable {x:Lst}
theorem blk_len {k:Nat}:(blkL x k).cues.length=x.cues.length:=List.length_set ..
theorem blk_cueP (h:lstP x=0){k:Nat}(hk:k<x.cues.length)(hm:(blkM x k).length≤128):cueP { x.cues.getD k default with moves:=blkM x k,block:=true }=0:=by
 obtain⟨p1,p2,p3,p4,p5⟩:=cue_parts (lst_cue h _ (cue_mem hk))
 obtain⟨b1,b2⟩:=blkM_rng h hk
 have q3:movCP (blkM x k)=0:=movCP_of hm b2 b1
 have hsub:∀q∈blkM x k,q∈(x.cues.getD k default).moves∨q.part=1:=fun q hq=>by
  rcases mrg_mem hq with hq|hq
  ·exact .inl hq
  ·obtain⟨e,_,rfl⟩:=List.mem_map.1 hq;exact .inr rfl
 generalize blkM x k=Z at *
 generalize x.cues.getD k default=c at *
 have q4:parC { c with moves:=Z,block:=true }=0:=by
  unfold parC at p4 ⊢
  simp only
  by_cases h1:(c.parts.length:Int)=0
  ·rw[if_pos h1]at p4;cases p4
  rw[if_neg h1]at p4 ⊢
  by_cases h2:4<(c.parts.length:Int)
  ·rw[if_pos h2]at p4;cases p4
  rw[if_neg h2]at p4 ⊢
  by_cases h3:timL c.parts=0
  ·rw[if_pos h3]at p4 ⊢
   rw[if_neg]
   intro hz
   obtain⟨q,hq,hq2⟩:=List.any_eq_true.1 hz
   have hq2:=of_decide_eq_true hq2
   rcases hsub q hq with hq|hq
   ·rw[if_pos (List.any_eq_true.2 ⟨q,hq,decide_eq_true hq2⟩)]at p4;cases p4
   ·omega
  ·rw[if_neg h3]at p4;exact absurd p4 h3
 have q5:nxtC { c with moves:=Z,block:=true }=0:=p5
 unfold cueP
 simp only[p1,p2,q3,q4,q5,not_true,if_false]
theorem blk_ok (h:lstP x=0)(hx:x.ok){k:Nat}(hk:k<x.cues.length)(hm:(blkM x k).length≤128):lstP (blkL x k)=0∧(blkL x k).ok:=by
 have hb:lstP x=0:=h
 unfold lstP lstB at hb
 split at hb
 ·cases hb
 rename_i b1
 split at hb
 ·cases hb
 rename_i b2
 refine⟨?_,⟨by rw[blk_len];exact hx.a,fun q hq=>?_⟩⟩
 ·unfold lstP
  rw[if_neg (show ¬lstB (blkL x k) from b1),if_neg (by rw[blk_len];exact b2)]
  exact cuesP_set (c:={ x.cues.getD k default with moves:=blkM x k,block:=true }) hk rfl (blk_cueP h hk hm) x.cues 0 rfl hb
 ·rcases List.mem_or_eq_of_mem_set hq with hq|rfl
  ·exact hx.b q hq
  ·have hc:=hx.b _ (cue_mem hk)
   exact⟨hc.a,hc.b,by show(blkM x k).length<_;omega,hc.d,hc.e⟩
theorem blk_ftp (h:lstP x=0)(hx:x.ok){k:Nat}(hk:k<x.cues.length)(hm:(blkM x k).length≤128):ftpL (blkL x k)=ftpL x:=by
 have hy:=(blk_ok h hx hk hm).1
 refine asc_eq (R:=fun a b=>keyN a<keyN b) (fun a b h1 h2=>by omega) ?_ ?_ fun p=>?_
 ·refine(ftpL_asc hy).imp_of_mem fun {a b} ha hb hab=>?_
  exact key_lt (ftpL_rng hy a ha) (ftpL_rng hy b hb) hab
 ·refine(ftpL_asc h).imp_of_mem fun {a b} ha hb hab=>?_
  exact key_lt (ftpL_rng h a ha) (ftpL_rng h b hb) hab
 ·constructor
  ·intro hp
   obtain⟨c,hc,hp⟩:=ftpL_mem.1 hp
   rcases List.mem_or_eq_of_mem_set hc with hc|rfl
   ·exact ftpL_mem.2 ⟨c,hc,hp⟩
   ·obtain⟨q,hq,rfl⟩:=List.mem_map.1 hp
    rcases mrg_mem (show q∈blkM x k from hq) with hq|hq
    ·exact ftpL_mem.2 ⟨_,cue_mem hk,List.mem_map_of_mem hq⟩
    ·obtain⟨e,he,rfl⟩:=List.mem_map.1 hq
     obtain⟨p,hp3,rfl⟩:=List.mem_map.1 (List.mem_filter.1 he).1
     exact hp3
  ·intro hp
   obtain⟨c,hc,hp2⟩:=ftpL_mem.1 hp
   obtain⟨j,hj⟩:=List.mem_iff_getElem?.1 hc
   have hjl:=(List.getElem?_eq_some_iff.1 hj).1
   by_cases e:j=k
   ·subst e
    have hcj:x.cues.getD j default=c:=by rw[List.getD_eq_getElem?_getD,hj];rfl
    have hmv:(movF c.moves p).isSome=true:=by
     obtain⟨q,hq,rfl⟩:=List.mem_map.1 hp2
     rw[←any_movF,List.any_eq_true];exact⟨q,hq,by simp⟩
    have hmb:(movF (blkM x j) p).isSome=true:=by
     rw[movF_blk h hk hp,hcj]
     obtain⟨v,hv⟩:=Option.isSome_iff_exists.1 hmv
     rw[hv];rfl
    rw[←any_movF,List.any_eq_true]at hmb
    obtain⟨q,hq,hq2⟩:=hmb
    obtain rfl:=of_decide_eq_true hq2
    exact ftpL_mem.2 ⟨_,List.mem_of_getElem? (List.getElem?_set_self hjl),List.mem_map_of_mem hq⟩
   ·exact ftpL_mem.2 ⟨c,List.mem_of_getElem? (i:=j) (by rw[blkL];simp only;rw[List.getElem?_set_ne (fun h=>e h.symm)];exact hj),hp2⟩
theorem blk_ent (h:lstP x=0)(hx:x.ok){k:Nat}(hk:k<x.cues.length)(hm:(blkM x k).length≤128)(j:Nat):entL (blkL x k) j=entL x j:=by
 unfold entL
 rw[blk_ftp h hx hk hm]
 exact List.map_congr_left fun p hp=>by unfold entF;rw[valF_blk h hk hp]
theorem ix_first {M:List (Prm×Val)}(hn:(M.map Prod.fst).Nodup){i:Nat}{e:Prm×Val}(h:M[i]?=some e):ix (fun e':Prm×Val=>decide (e'.1=e.1)) M 0=(i:Int):=by
 have hi:=(List.getElem?_eq_some_iff.1 h).1
 have h2:=ix_at (p:=fun e':Prm×Val=>decide (e'.1=e.1)) (l:=M) (j:=0) (k:=i) hi (by rw[List.getD_eq_getElem?_getD,h];simp) fun j hj=>by
  have hjl:j<M.length:=by omega
  rw[List.getD_eq_getElem?_getD,List.getElem?_eq_getElem hjl]
  simp only[Option.getD_some,decide_eq_false_iff_not]
  intro e2
  have:=List.pairwise_iff_getElem.1 hn j i (by simpa using hjl) (by simpa using hi) hj
  rw[List.getElem_map,List.getElem_map]at this
  rw[List.getElem?_eq_getElem hi]at h
  rw[Option.some.inj h]at this
  exact this e2
 rw[h2];simp
theorem setM_val {M:List (Prm×Val)}(hn:(M.map Prod.fst).Nodup){q:Mov}{i:Nat}{e:Prm×Val}(h:M[i]?=some e):(setM M q)[i]?=some (e.1,if q.prm=e.1 then q.val else e.2):=by
 by_cases hq:q.prm=e.1
 ·rw[if_pos hq]
  have hi:=(List.getElem?_eq_some_iff.1 h).1
  have:=ix_first hn h
  rw[←hq]at this
  unfold setM
  rw[this,if_pos (by omega),Int.toNat_natCast,List.getElem?_set_self hi,List.getD_eq_getElem?_getD,h];rfl
 ·rw[if_neg hq]
  rcases setM_at (q:=q) h with h1|⟨h1,_⟩
  ·exact h1
  ·exact absurd h1 hq
def lstF (E:List Mov)(p:Prm)(v:Val):Val:=E.foldl (fun v q=>if q.prm=p then q.val else v) v
theorem setMs_val:∀{E:List Mov}{M:List (Prm×Val)},(M.map Prod.fst).Nodup→∀{i:Nat}{e:Prm×Val},M[i]?=some e→(E.foldl setM M)[i]?=some (e.1,lstF E e.1 e.2)
 |[],M,_,i,e,h=>h
 |q::r,M,hn,i,e,h=>by
  rw[List.foldl_cons,setMs_val (E:=r) (by rw[setM_fst];exact hn) (setM_val hn h)];rfl
theorem lstF_none:∀{E:List Mov}{p:Prm}{v:Val},(∀q∈E,q.prm≠p)→lstF E p v=v
 |[],_,_,_=>rfl
 |q::r,p,v,h=>by
  show lstF r p (if q.prm=p then q.val else v)=v
  rw[if_neg (h q (List.mem_cons_self ..)),lstF_none fun q hq=>h q (List.mem_cons_of_mem _ hq)]
theorem lstF_some:∀{E:List Mov}{q:Mov}{v:Val},Asc keyM E→q∈E→lstF E q.prm v=q.val
 |y::r,q,v,ha,h=>by
  have ha':=List.pairwise_cons.1 ha
  show lstF r q.prm (if y.prm=q.prm then y.val else v)=q.val
  rcases List.mem_cons.1 h with rfl|h
  ·rw[if_pos rfl,lstF_none]
   intro z hz e
   have:=ha'.1 z hz
   unfold keyM at this;rw[e]at this;omega
  ·exact lstF_some ha'.2 h
theorem asc_inj {l:List Mov}(ha:Asc keyM l){q z:Mov}(hq:q∈l)(hz:z∈l)(e:keyM q=keyM z):q=z:=by
 obtain⟨i,hi⟩:=List.mem_iff_getElem?.1 hq
 obtain⟨j,hj⟩:=List.mem_iff_getElem?.1 hz
 obtain⟨i1,i2⟩:=List.getElem?_eq_some_iff.1 hi
 obtain⟨j1,j2⟩:=List.getElem?_eq_some_iff.1 hj
 rcases Nat.lt_trichotomy i j with h|h|h
 ·have:=List.pairwise_iff_getElem.1 ha i j i1 j1 h;rw[i2,j2]at this;omega
 ·subst h;rw[←i2,←j2]
 ·have:=List.pairwise_iff_getElem.1 ha j i j1 i1 h;rw[i2,j2]at this;omega
theorem lstF_filter {l:List Mov}(ha:Asc keyM l)(hl:∀q∈l,prmC 1 q.prm=0){p:Prm}(hp:prmC 1 p=0){D:Mov→Bool}{v:Val}:lstF (l.filter fun q=>!D q) p v=match fk l (keyN p) with
  |some q=>if D q=true then v else q.val
  |none=>v:=by
 cases hf:fk l (keyN p) with
 |none =>
  have hn:=List.find?_eq_none.1 hf
  exact lstF_none fun q hq e=>hn q (List.mem_filter.1 hq).1 (by rw[←e];exact decide_eq_true rfl)
 |some q =>
  have hq:=List.mem_of_find?_eq_some hf
  have h1:=List.find?_some hf
  have hk:keyM q=keyN p:=of_decide_eq_true h1
  obtain rfl:q.prm=p:=keyN_inj (hl q hq) hp hk
  cases hd:D q with
  |true =>
   dsimp only
   rw[if_pos hd]
   refine lstF_none fun z hz e=>?_
   obtain⟨z1,z2⟩:=List.mem_filter.1 hz
   have:q=z:=asc_inj ha hq z1 (by unfold keyM;rw[e])
   subst this
   rw[hd]at z2;cases z2
  |false =>
   dsimp only
   rw[if_neg (by simp[hd])]
   exact lstF_some (ha.filter _) (List.mem_filter.2 ⟨hq,by rw[hd];rfl⟩)
theorem mark_same (h:lstP x=0){b:Nat}(hb:b<x.cues.length){k:Nat}{D:Mov→Bool}{p:Prm}(hp:p∈ftpL x):lstF (mvsF D (blkL x b).cues (k+1)) p (valF x.cues p k)=lstF (mvsF D x.cues (k+1)) p (valF x.cues p k):=by
 unfold mvsF
 rw[blk_len,blk_cue hb]
 by_cases hkb:k+1=b
 ·subst hkb
  rw[if_pos rfl]
  simp only
  by_cases hc:(x.cues.getD (k+1) default).mark=true
  ·rw[if_pos ⟨hb,hc⟩,if_pos ⟨hb,hc⟩]
   obtain⟨m1,m2,m3⟩:=lst_mov h _ (cue_mem hb)
   have hr:=ftpL_rng h p hp
   obtain⟨b1,b2⟩:=blkM_rng h hb
   rw[lstF_filter b1 (fun q hq=>(b2 q hq).1) hr,lstF_filter m3 m2 hr,blkM,fk_mrg m3 (blkM_asc h hb).1,fk_add h hp]
   by_cases hq:keepB x (k+1) (p,valF x.cues p (k+1))=true
   ·rw[if_pos hq]
    unfold keepB at hq
    rw[any_movF,Bool.and_eq_true]at hq
    obtain⟨q1,q2⟩:=hq
    have hmn:movF (x.cues.getD (k+1) default).moves p=none:=by
     cases hm:movF (x.cues.getD (k+1) default).moves p with
     |none=>rfl
     |some v=>rw[hm]at q2;cases q2
    have hfn:fk (x.cues.getD (k+1) default).moves (keyN p)=none:=by
     rw[movF_fk m2 hr]at hmn
     exact Option.map_eq_none_iff.1 hmn
    rw[hfn]
    have hv:valF x.cues p (k+1)=valF x.cues p k:=by
     rw[valF,hmn]at q1 ⊢
     by_cases hbl:(x.cues.getD (k+1) default).block=true
     ·simp only[hbl,if_true]at q1;cases q1
     ·simp only[if_neg hbl]
    show(if D _=true then _ else(toM (p,valF x.cues p (k+1))).val)=_
    rw[show(toM (p,valF x.cues p (k+1))).val=valF x.cues p (k+1) from rfl,hv,ite_self]
   ·rw[if_neg hq,Option.none_or]
  ·rw[if_neg (fun e=>hc e.2),if_neg (fun e=>hc e.2)]
 ·rw[if_neg hkb]
theorem mark_blk (h:lstP x=0)(hx:x.ok){k b:Nat}(hk:k<x.cues.length)(hb:b<x.cues.length)(hm:(blkM x b).length≤128):∃a E,MkD x k a E∧∀st,run Tryz.prog HH 36 [.agg [.sl ((blkL x b).cues.map Cu.v),.sl ((lkL (blkL x b)).map entS)],.int .i64 k] st=some (.ret (.sl ((E.foldl setM (entL x k)).map entV)),st):=by
 obtain⟨y1,y2⟩:=blk_ok h hx hb hm
 obtain⟨a,c,ha,hc,h57a,h57b⟩:=bits_ex h k
 obtain⟨D,hQ⟩:=early_q ha (b:=if 0<k then c else z16) (by split<;>first|exact hc|exact z16_w)
 obtain⟨hD,hdk⟩:=early_D x h hQ
 obtain⟨hD',_⟩:=early_D (blkL x b) y1 hQ
 obtain⟨e1,e2⟩:=mvsF_sub h (D:=D) (j:=k+1)
 obtain⟨e3,e4⟩:=mvsF_sub y1 (D:=D) (j:=k+1)
 have h76:=fun st=>f76D h hk ha hc h57a h57b hD (st:=st)
 have hk':k<(blkL x b).cues.length:=by rw[blk_len];exact hk
 have h76':=fun st=>f76D y1 hk' ha hc (by rw[blk_ent h hx hb hm];exact h57a) (by rw[blk_ent h hx hb hm];exact h57b) hD' (st:=st)
 refine⟨a,mvsF D x.cues (k+1),⟨ha,h57a,e1,fun q hq=>⟨(e2 q hq).1,?_⟩,fun st=>f36E h hk e1 h76⟩,fun st=>?_⟩
 ·obtain⟨⟨q1,q2⟩,q3⟩:=e2 q hq
  exact hdk _ (cue_mem q1) q q2 q3
 ·rw[f36E y1 hk' e3 h76',blk_ent h hx hb hm]
  congr 5
  have hn:((entL x k).map Prod.fst).Nodup:=by
   rw[entL,List.map_map];exact(List.map_id _).symm▸ftpL_nodup
  apply List.ext_getElem?
  intro i
  cases hi:(entL x k)[i]? with
  |none =>
   have hl:=List.getElem?_eq_none_iff.1 hi
   have l1:=congrArg List.length (setMs_fst (E:=mvsF D (blkL x b).cues (k+1)) (M:=entL x k))
   have l2:=congrArg List.length (setMs_fst (E:=mvsF D x.cues (k+1)) (M:=entL x k))
   rw[List.length_map,List.length_map]at l1 l2
   rw[List.getElem?_eq_none (by omega),List.getElem?_eq_none (by omega)]
  |some e =>
   rw[setMs_val hn hi,setMs_val hn hi]
   obtain⟨p,hp,rfl⟩:=List.mem_map.1 (List.mem_of_getElem? hi)
   rw[show(entF x k p).1=p from rfl,show(entF x k p).2=valF x.cues p k from rfl,mark_same h hb hp]
end Go.Proofs.YtdnpaifeoinjoaaGreatDoor

namespace Go.Proofs.YtdnpaifeoinjoaaGreatDoor
open Go.Sha
set_option maxRecDepth 100000
variable {g:List (Nat×Obj)}{n:Nat}
theorem f51 {e:Prm×Val}{p:Prm}{st:St}:run Tryz.prog HH 51 [entV e,.ep p.v 0] st=some (.ret (.bool (decide (e.1=p))),st):=by
 obtain⟨⟨a,b⟩,w⟩:=e
 obtain⟨c,d⟩:=p
 rw[run_shut F51 rfl rfl (by simp)]
 push_cast[Prm.v,entV]
 have e:(a == c&&b == d)=decide ((⟨a,b⟩:Prm)=⟨c,d⟩):=by rw[Bool.eq_iff_iff];simp
 rw[e]
theorem f50p {l:List (Prm×Val)}{p:Prm}(hl:l.length<140737488355328){st:St}:run Tryz.prog HH 50 [.sl (l.map entV),.fn (.func 51) [] [.ep p.v 0]] st=some (.ret (.int .i64 (ix (fun e:Prm×Val=>decide (e.1=p)) l 0)),st) :=
 IxF (f:=entV) (n:=some 4) (fun _=>rfl) (fun _=>rfl) F50 rfl (by simp) hl (fun q _ _=>f51) (fun _ _=>rfl) (fun _=>rfl)
def rvL (l:List (Prm×Val))(p:Prm):Val:=if ix (fun e:Prm×Val=>decide (e.1=p)) l 0<0 then⟨-1,0⟩ else(l.getD (ix (fun e:Prm×Val=>decide (e.1=p)) l 0).toNat default).2
theorem f22 {l:List (Prm×Val)}{p:Prm}(hl:l.length<140737488355328){st:St}:run Tryz.prog HH 22 [.sl (l.map entV),p.v] st=some (.ret (rvL l p).v,st):=by
 have h50:=fun(st:St)=>f50p (l:=l) (p:=p) hl (st:=st)
 unfold rvL
 rcases ix_rng (p:=fun e:Prm×Val=>decide (e.1=p)) (l:=l) (j:=0) with h|h
 ·rw[h]at h50 ⊢
  rw[if_pos (by omega)]
  rw[run_shut F22 rfl rfl (by simp)]
  push_cast[Prm.v,entV]at h50
  push_cast[Prm.v,entV,h50]
 ·obtain⟨t,ht⟩:∃t:Nat,ix (fun e:Prm×Val=>decide (e.1=p)) l 0=t:=⟨(ix (fun e:Prm×Val=>decide (e.1=p)) l 0).toNat,by omega⟩
  have htl:t<l.length:=by omega
  rw[ht]at h50 ⊢
  rw[if_neg (by omega),Int.toNat_natCast]
  have h1:¬(t:Int)<0:=by omega
  have h2:(t:Int)<l.length:=by omega
  have hg:∀d,l.getD t d=l.getD t default:=fun d=>by rw[List.getD_eq_getElem?_getD,List.getD_eq_getElem?_getD,List.getElem?_eq_getElem htl];rfl
  rw[run_shut F22 rfl rfl (by simp)]
  push_cast[Prm.v,entV]at h50
  push_cast[Prm.v,entV,h50,h1,h2,hg,htl]
theorem r_grw {m:Nat}{st:St}(hm:m≤1000000):run Tryz.prog HH 97 [.nils,.int .i64 m] st=some (.ret (.osl st.nx 0),⟨st.nx+1,st.mem,(st.nx,⟨42,4,[],true,false⟩)::st.arr,st.x⟩):=by
 refine run_H ((show HH 97 _ st=hGrw 42 4 32 _ st from rfl).trans ?_)
 have h6:roomV m 32=true:=roomV_lit (by omega) (by omega)
 simp only[hGrw]
 rw[if_pos ⟨by omega,by omega,by rw[Int.toNat_natCast];exact h6⟩]
theorem mapO_en {st:St}:∀{l:List (Prm×Val)},mapO (snapA st) (l.map entV)=some (l.map entV)
 |[]=>rfl
 |e::r=>by rw[List.map_cons,mapO,mapO_en];rfl
theorem f56 {a b:List (Prm×Val)}(ha:a.length≤100000)(hb:b.length≤100000){st:St}:run Tryz.prog HH 56 [.sl [.sl (a.map entV),.sl (b.map entV)]] st=some (.ret (.sl ((a++b).map entV)),st):=by
 have h2:=fun(st:St)=>r_grw (m:=a.length+b.length) (st:=st) (by omega)
 have hw:IntKind.i64.wrap (0+(a.length:Int))=(a.length:Int):=by rw[Int.zero_add];exact iwrap (by omega) (by omega)
 have hw2:IntKind.i64.wrap ((a.length:Int)+b.length)=((a.length+b.length:Nat):Int):=iwrap (by omega) (by omega)
 have n1:¬(a.length:Int)<0:=by omega
 have n2:¬((a.length+b.length:Nat):Int)<0:=by omega
 have r1:roomV a.length 32=true:=roomV_lit (by omega) (by omega)
 have r2:roomV (a.length+b.length) 32=true:=roomV_lit (by omega) (by omega)
 have s1:=fun(st:St) (l:List (Prm×Val))=>mapO_en (st:=st) (l:=l)
 have c1:∀l:List (Prm×Val),((l.map entV).all fun y=>y.cells.length == 4)=true:=fun l=>by rw[List.all_map,List.all_eq_true];intro y _;rfl
 rw[run_shut F56 rfl rfl (by simp)]
 push_cast at h2
 have n3:¬(a.length:Int)+b.length<0:=by omega
 push_cast[h2,hw,hw2,n1,n2,n3,r1,r2,s1,c1,runL_of B56_0.eq_1,runL_of B56_1.eq_1,appS_s,appG_osl,List.map_append]
def st24 (g:List (Nat×Obj))(M:List (Prm×Val)):St:=⟨1,[],[(0,⟨34,1,[.sl (M.map entV),.sl (M.map entV)],false,false⟩)],⟨[],g,[]⟩⟩
@[push_cast]theorem st24_eq {M:List (Prm×Val)}:st24 g M=⟨1,[],[(0,⟨34,1,[.sl (M.map entV),.sl (M.map entV)],false,false⟩)],⟨[],g,[]⟩⟩:=idq rfl
theorem L24 {M l:List (Prm×Val)}(hM:M.length<140737488355328)(hl:l.length<140737488355328):∀r j,l.drop j=r→runL Tryz.prog HH [0,1,10,11,12] 1 B24_0 [(0,.sl (M.map entV)),(1,.sl (M.map entV)),(10,.sl (l.map entV)),(11,.int .i64 l.length),(12,.int .i64 j)] (st24 g M)=some (.exit 0,[],st24 g M):=by
 refine drop_ind (fun j h=>?_) (fun e r j h hx hd ih=>?_)
 all_goals rw[runL_of B24_0.eq_1]
 ·have h1:¬(j:Int)<l.length:=by omega
  push_cast[h1]
 ·have h1:(j:Int)<l.length:=by omega
  have hw:=iw1 (j:=j) (by omega)
  have h22:=fun(st:St)=>f22 (l:=M) (p:=e.1) (st:=st) hM
  generalize rvL M e.1=v at *
  push_cast[Prm.v,Val.v,entV]at h22
  push_cast[h1,hw,hx,h22,beq_self_eq_true,Prm.v,Val.v,entV]at ih ⊢
  exact ih
theorem f24 {M:List (Prm×Val)}(hM:M.length≤100000){st:St}:run Tryz.prog HH 24 [.sl (M.map entV),.sl (M.map entV)] st=some (.ret (.bool true),st):=by
 have h56:=fun(st:St)=>f56 (a:=M) (b:=M) hM hM (st:=st)
 have hL:=L24 (g:=st.x.gl) (M:=M) (l:=M++M) (by omega) (by rw[List.length_append];omega) _ 0 rfl
 generalize M++M=l at *
 rw[run_shut F24 rfl rfl (by simp)]
 push_cast at hL
 push_cast[h56,hL]
end Go.Proofs.YtdnpaifeoinjoaaGreatDoor

namespace Go.Proofs.YtdnpaifeoinjoaaGreatDoor
open Go.Sha
set_option maxRecDepth 100000
variable {g:List (Nat×Obj)}{n:Nat}{x:Lst}
theorem L6_0 {L M:List (Prm×Val)}{w:Int}{s:List UInt8}(hl:L.length<140737488355328)(hM:∀(i:Nat) e,L[i]?=some e→∃v,M[i]?=some (e.1,v)∧(v=e.2∨¬e.1.attr=0∧∀st,run Tryz.prog HK 25 [.sl (L.map entV),.int .i64 e.1.chan] st=some (.ret (.tup [.bool true,.int .i64 0]),st))):∀r j,L.drop j=r →
  runL Tryz.prog HK [2,3,7,8,10,65,66,67] n B6_0 [(2,.int .u8 w),(3,.ep x.v 0),(7,.str s),(8,.sl (L.map entV)),(10,.sl (M.map entV)),(65,.sl (L.map entV)),(66,.int .i64 L.length),(67,.int .i64 j)] (stN g n)
   = some (.exit 0,[(2,.int .u8 w),(3,.ep x.v 0),(7,.str s),(10,.sl (M.map entV))],stN g n):=by
 refine drop_ind (fun j h=>?_) (fun e r j h hx hd ih=>?_)
 all_goals rw[runL_of B6_0.eq_1]
 ·have h1:¬(j:Int)<L.length:=by omega
  push_cast[h1,Lst.v]
 ·have h1:(j:Int)<L.length:=by omega
  have hw:=iw1 (j:=j) (by omega)
  have hje:L[j]?=some e:=by rw[←List.head?_drop,hd];rfl
  obtain⟨v,hm,hv⟩:=hM j e hje
  have hjm:j<M.length:=(List.getElem?_eq_some_iff.1 hm).1
  have hg:∀d,M.getD j d=(e.1,v):=fun d=>by rw[List.getD_eq_getElem?_getD,hm];rfl
  obtain⟨⟨ec,ea⟩,⟨ep,el⟩⟩:=e
  obtain⟨vp,vl⟩:=v
  by_cases hq:(⟨vp,vl⟩:Val)=⟨ep,el⟩
  ·cases hq
   push_cast[h1,hw,hx,hg,hjm,beq_self_eq_true,Lst.v,entV]at ih ⊢
   exact dn_eq (by omega) ih
  ·rcases hv with hv|⟨ha,hk⟩
   ·exact absurd hv hq
   ·have hqb:(vp == ep&&vl == el)=false:=by rw[Bool.eq_false_iff];intro e;simp at e;exact hq (by rw[e.1,e.2])
    have ha':¬ea=0:=ha
    push_cast[entV]at hk
    push_cast[h1,hw,hx,hg,hjm,hqb,hk,ha',beq_self_eq_true,Bool.true_and,Lst.v,entV]at ih ⊢
    exact dn_eq (by omega) ih
theorem u8_mod {w:Int}(hw:0≤w∧w≤255){n:Nat}(hn:0<n)(h8:n≤8):∃k:Nat,k<n∧IntKind.i64.wrap w=w∧w.tmod (n:Int)=(k:Int):=by
 obtain⟨m,rfl⟩:∃m:Nat,w=m:=⟨w.toNat,by omega⟩
 have:=Nat.mod_lt m hn
 refine⟨m % n,this,iwrap (by omega) (by omega),?_⟩
 rfl
theorem l6 {x:Lst}(hx:x.ok){w z:Int}(hw:0≤w∧w≤255)(hz:0≤z∧z≤255){st:St}:run Tryz.prog HK 6 [x.v,.int .u8 w,.int .u8 z] st=some (.ret (.bool true),st):=by
 obtain⟨b,h15⟩:=f15 hx
 have h15:=fun st:St=>up (h15 st)
 have h14:=fun(st:St)=>f14 (st:=st)
 rw[run_shut F6 rfl rfl (by simp)]
 by_cases h:b=true∧lstP x=0∧x.cues.length≤8
 ·obtain⟨rfl,hP,h8⟩:=h
  have e1:(true&&lstP x == 0&&decide (x.cues.length≤8))=true:=by simp[hP,h8]
  rw[e1]at h15
  by_cases h0:x.cues.length=0
  ·have h0':(x.cues.length:Int)=0:=by omega
   push_cast[Lst.v]at h15
   push_cast[Lst.v,h14,h15,h0',h0]
  ·obtain⟨k,hk,k1,k2⟩:=u8_mod hw (n:=x.cues.length) (by omega) h8
   obtain⟨j,hj,j1,j2⟩:=u8_mod hz (n:=x.cues.length) (by omega) h8
   have h0':¬(x.cues.length:Int)=0:=by omega
   have hgk:∀d,x.cues.getD k d=x.cues.getD k default:=fun d=>by rw[List.getD_eq_getElem?_getD,List.getD_eq_getElem?_getD,List.getElem?_eq_getElem hk];rfl
   have hgj:∀d,x.cues.getD j d=x.cues.getD j default:=fun d=>by rw[List.getD_eq_getElem?_getD,List.getD_eq_getElem?_getD,List.getElem?_eq_getElem hj];rfl
   have kw:IntKind.i64.wrap (k:Int)=(k:Int):=iwrap (by omega) (by omega)
   have jw:IntKind.i64.wrap (j:Int)=(j:Int):=iwrap (by omega) (by omega)
   have hck:=cue_mem hk
   obtain⟨p1,p2⟩:=plc_own hP hk
   have h10:=fun(st:St)=>up (f10 hx hP (s:=(x.cues.getD k default).num) (st:=st) (hx.b _ hck).a)
   rw[p1,p2,if_pos rfl,Int.toNat_natCast]at h10
   have h23:=fun(st:St)=>up (f23 hP hx h8 hj (st:=st))
   have hle:=ent_len hP (k:=k)
   have kl:(k:Int)<x.cues.length:=by omega
   have jl:(j:Int)<x.cues.length:=by omega
   obtain⟨a,E,hD,hy⟩:∃a E,MkD x k a E∧((blkM x j).length≤128→∀st,run Tryz.prog HK 17 [(blkL x j).v,.str (x.cues.getD k default).num] st=some (.ret (.tup [.sl ((E.foldl setM (entL x k)).map entV),.int .i64 0]),st)):=by
    by_cases hm:(blkM x j).length≤128
    ·obtain⟨a,E,hD,h36⟩:=mark_blk hP hx hk hj hm
     obtain⟨y1,y2⟩:=blk_ok hP hx hj hm
     refine⟨a,E,hD,fun _ st=>up ?_⟩
     have:=f17o y1 y2 (by rw[blk_len];exact hk) h36 (st:=st)
     rw[blk_cue hj]at this
     have e:(if k=j then { x.cues.getD j default with moves:=blkM x j,block:=true } else x.cues.getD k default).num=(x.cues.getD k default).num:=by
      split
      ·rename_i e;rw[e]
      ·rfl
     rw[e]at this;exact this
    ·obtain⟨a,E,hD⟩:=mkD_ex hP hx hk
     exact⟨a,E,hD,fun h=>absurd h hm⟩
   have h17:=fun(st:St)=>up (f17o hP hx hk hD.out (st:=st))
   have hdk:=dark_at hP h8 hk hD
   have hlen:(E.foldl setM (entL x k)).length=(entL x k).length:=by
    have:=congrArg List.length (setMs_fst (E:=E) (M:=entL x k));simpa using this
   have hL:=fun s n=>L6_0 (g:=st.x.gl) (n:=n) (x:=x) (L:=entL x k) (M:=E.foldl setM (entL x k)) (w:=z) (s:=s) (by omega) (fun i e he=>by
    obtain⟨v,v1,v2⟩:=hdk i e he
    exact⟨v,v1,v2.imp_right fun⟨a1,a2⟩=>⟨a1,fun st=>up (a2 st)⟩⟩) _ 0 rfl
   have h24:=fun(st:St)=>up (f24 (M:=E.foldl setM (entL x k)) (by omega) (st:=st))
   generalize E.foldl setM (entL x k)=M at *
   generalize entL x k=L at *
   have hlM:¬¬(L.length:Int)=M.length:=by rw[hlen];simp
   generalize hs:(x.cues.getD k default).num=s at *
   push_cast[Lst.v]at h15 h10 h17 hL
   by_cases hm:128<(blkM x j).length
   ·push_cast[Lst.v,hm]at h23
    push_cast[Lst.v,Cu.v,h14,h15,h0',h0,k1,k2,kw,j1,j2,jw,kl,jl,hk,hj,hgk,hgj,h10,h17,hs,hlM,hlen,hL,h23]
   ·have hy:=hy (by omega)
    push_cast[Lst.v,hm]at h23 hy
    push_cast[Lst.v,Cu.v,h14,h15,h0',h0,k1,k2,kw,j1,j2,jw,kl,jl,hk,hj,hgk,hgj,h10,h17,hs,hlM,hlen,hL,h23,hy,h24]
 ·have e1:(b&&lstP x == 0&&decide (x.cues.length≤8))=false:=by rw[Bool.eq_false_iff];intro e;simp at e;exact h ⟨e.1.1,e.1.2,e.2⟩
  rw[e1]at h15
  push_cast[Lst.v]at h15
  push_cast[Lst.v,h14,h15]
end Go.Proofs.YtdnpaifeoinjoaaGreatDoor

namespace Go.Proofs.YtdnpaifeoinjoaaGreatDoor
open Go.ChangeShapes Go.WideShapes Go.ChangeAt Go.RowKit Go.Sha
theorem sound:ESound Tryz.prog HK:=HK_ok
theorem law6 {x:Lst}(h:x.Dk){w z:Int}(hw:0≤w∧w≤255)(hz:0≤z∧z≤255){st:St}:run Tryz.prog HK 6 [x.v,.int .u8 w,.int .u8 z] st=some (.ret (.bool true),st):=l6 h.ok hw hz
theorem sk1:(laidOutB Tryz.prog)=true:=by kernel_rfl
theorem sk2:(mapsRowed Tryz.prog)=true:=by kernel_rfl
theorem sk6:(Tryz.prog.stops == [])=true:=by kernel_rfl
theorem sk8:(Tryz.prog.stopKnobs == [])=true:=by kernel_rfl
theorem sk22:(Rows.topMarksMoveTheDarkRow.plainKeys == Tryz.prog.plainKeys)=true:=by kernel_rfl
theorem sk24:(Tryz.prog.stopsHeard)=true:=by kernel_rfl
theorem sk25:(Tryz.prog.mayEnter)=true:=by kernel_rfl
theorem sk26:(Rows.topMarksMoveTheDarkRow.lifted == Tryz.prog.liftsFinal)=true:=by kernel_rfl
theorem sk27:(Tryz.prog.make == some Rows.topMarksMoveTheDarkRow.make)=true:=by kernel_rfl
theorem sk15:(Rows.topMarksMoveTheDarkRow.mapsOut == Tryz.prog.mapsAmong Tryz.f6.resultTypes.toList)=true:=by kernel_rfl
theorem sown:ownKnob Tryz.prog.godebug=none:=by kernel_rfl
theorem smain:Tryz.prog.mainIs=some (Rows.topMarksMoveTheDarkCard.stood.harness.1,Rows.topMarksMoveTheDarkCard.stood.harness.2.toList):=by kernel_rfl
theorem slooks:Rows.topMarksMoveTheDarkCard.stood.looks=Tryz.prog.looks []:=by kernel_rfl
end Go.Proofs.YtdnpaifeoinjoaaGreatDoor

