/- slices.SortFunc of up to 16 cues; cues of a right list are in order. A cue put into a list. An edit of a list of cues: its closures. edit.apply at the kinds whose methods leave an owned slice in the s .. -/
import Derived.Test.YtmjkgajnpmiomaaGreatDoorL2
import Derived.Test.YtmjkgajnpmiomaaGreatDoorLShbYB
import Derived.Test.YtmjkgajnpmiomaaGreatDoorProg
import Derived.KernelRfl
import Derived.Test.YtmjkgajnpmiomaaGreatDoorLShbAC
import Derived.Test.YtmjkgajnpmiomaaGreatDoorL1
import Derived.Shelf.Small.Utf8
import Derived.Shelf.Small.Bits
import Derived.Shelf.Small.Strs
import Derived.Shelf.Strconv.Atoi
import Derived.Shelf.Strconv.Itoa0
import Derived.Shelf.Strconv.Itoa1
import Derived.Shelf.LaysM
import Derived.Shelf.Strconv.Itoa2
import Derived.Shelf.Strconv.Itoa3
import Derived.Shelf.Strconv.AtoiErrFast
import Derived.Shelf.Strconv.ParseIntEmpty
import Derived.Shelf.Strconv.AtoiFail
import Derived.Shelf.Strconv.Clone
import Derived.Shelf.Strconv.SyntaxError
import Derived.Shelf.LaysC
import Derived.Shelf.Strconv.ToError
import Derived.Shelf.Strconv.Lower
import Derived.Shelf.Strconv.ParseUint10
import Derived.Shelf.Strconv.ParseUint10Empty
import Derived.Shelf.Strconv.ParseUint10Any
import Derived.Shelf.Strconv.ParseInt10
import Derived.Shelf.Strconv.AtoiLong
import Derived.Shelf.Strconv.AtoiInnerAll
import Derived.Shelf.Strconv.RangeError
import Derived.Shelf.Strconv.ToErrorRange
import Derived.Shelf.Strconv.AtoiAll
import Derived.Shelf.Strings.Search1
import Derived.Shelf.Strings.Search2
import Derived.Shelf.Strings.Cut
import Derived.Shelf.Strings.Shaped
import Derived.Shelf.GgClosure.StringsIndexFunc
import Derived.Ground.GgwProg
import Derived.Shelf.GgClosure.StringsIndexFuncTop
import Derived.Shelf.Unicode.Decode
import Derived.Shelf.Strings.Runes
import Derived.Shelf.Strings.AsciiSet
import Derived.Shelf.Unicode.DecodeSlow
import Derived.Shelf.Unicode.DecodeAny
import Derived.Shelf.Unicode.DecodeLast
import Derived.Ground.Names2Prog
import Derived.Shelf.Slices.SearchI
import Derived.Test.YtmjkgajnpmiomaaGreatDoorLShbT
import Derived.Lib.AtoiAllCases
import Derived.Laws.RangeAny
import Derived.Test.YtmjkgajnpmiomaaGreatDoorCards
import Derived.SizedLaws
import Derived.WalkKit
import Derived.ProofKit
import Derived.OpenShut
import Derived.ChangeMaps5
import Derived.LaidLaws
import Derived.LaidHandle
import Derived.Lay
import Derived.SevenTiedAt
set_option linter.unusedSimpArgs false
set_option linter.unusedVariables false
namespace Go.Proofs.YtmjkgajnpmiomaaGreatDoor
open Go.Sha
set_option maxRecDepth 100000
variable {g:List (Nat×Obj)}{n:Nat}
def Ord1 (l:List Cu):Prop:=∀i j,i<j→j<l.length-1→cmpC (l.getD i default) (l.getD j default)<0∧¬cmpC (l.getD j default) (l.getD i default)<0
theorem lenK {m:Nat}{k:Int}(h:∀g,evK Tryz.prog HH 40 40 305 [.int .u64 m] (stG g)=some (.ret (.int .i64 k),stG g)):∀st,run Tryz.prog HH 305 [.int .u64 m] st=some (.ret (.int .i64 k),st):=fun st=>at_gl (evK_run (h st.x.gl)) (by kernel_rfl) (fun _=>rfl) rfl
theorem len16:∀{m:Nat},m≤16→∃k:Int,(13≤m→¬k=0)∧∀st,run Tryz.prog HH 305 [.int .u64 m] st=some (.ret (.int .i64 k),st):=fun {m} h=>by
 match m,h with
 |0,_=>exact⟨0,by decide,lenK fun g=>by kernel_rfl⟩
 |1,_=>exact⟨1,by decide,lenK fun g=>by kernel_rfl⟩
 |2,_=>exact⟨2,by decide,lenK fun g=>by kernel_rfl⟩
 |3,_=>exact⟨2,by decide,lenK fun g=>by kernel_rfl⟩
 |4,_=>exact⟨3,by decide,lenK fun g=>by kernel_rfl⟩
 |5,_=>exact⟨3,by decide,lenK fun g=>by kernel_rfl⟩
 |6,_=>exact⟨3,by decide,lenK fun g=>by kernel_rfl⟩
 |7,_=>exact⟨3,by decide,lenK fun g=>by kernel_rfl⟩
 |8,_=>exact⟨4,by decide,lenK fun g=>by kernel_rfl⟩
 |9,_=>exact⟨4,by decide,lenK fun g=>by kernel_rfl⟩
 |10,_=>exact⟨4,by decide,lenK fun g=>by kernel_rfl⟩
 |11,_=>exact⟨4,by decide,lenK fun g=>by kernel_rfl⟩
 |12,_=>exact⟨4,by decide,lenK fun g=>by kernel_rfl⟩
 |13,_=>exact⟨4,by decide,lenK fun g=>by kernel_rfl⟩
 |14,_=>exact⟨4,by decide,lenK fun g=>by kernel_rfl⟩
 |15,_=>exact⟨4,by decide,lenK fun g=>by kernel_rfl⟩
 |16,_=>exact⟨5,by decide,lenK fun g=>by kernel_rfl⟩
 |m+17,h=>exact absurd h (by omega)
theorem f243x {k id:Nat}{M:List (Nat×List V)}(hid:id<k)(hM:dropM k M=M)(hB:belowL k (V.bdL k) M=true)(hK:keepL k M=M){l:List Cu}(hol:∀q∈l,q.ok)(hN:l.length≤16)(ho:Ord1 l) :
  ∃X:List Cu,X.length=l.length∧(∀z∈X,z∈l)∧∀g:List (Nat×Obj),run Tryz.prog HH 243 [.osl id l.length,cmpV] (stC g k M id l)=some (.ret (.tup []),stC g k M id X):=by
 obtain⟨kk,hk0,hk⟩:=len16 (m:=l.length) hN
 have key:∃X:List Cu,X.length=l.length∧(∀z∈X,z∈l)∧∀g:List (Nat×Obj),run Tryz.prog HH 304 [.osl id l.length,.int .i64 0,.int .i64 l.length,.int .i64 kk,cmpV] (stC g k M id l)=some (.ret (.tup []),stC g k M id X):=by
  by_cases c:l.length<13
  ·obtain⟨X,x1,x2,x3⟩:=rng (M:=M) hid (X:=l) rfl (by omega) hol (a:=0) (b:=l.length) (by omega) (by omega)
   exact⟨X,x1,x2,fun g=>f304s (a:=0) hid rfl x1 (by omega) (by omega) (by omega) (by omega) (x3 g)⟩
  ·exact f304l hid hM hB hK rfl ⟨by omega,hN⟩ hol ho (hk0 (by omega))
 obtain⟨X,x1,x2,x3⟩:=key
 refine⟨X,x1,x2,fun g=>?_⟩
 have h304:=x3 g
 have hni:¬id=k:=by omega
 have hnk:¬k≤id:=by omega
 have hw:IntKind.u64.wrap (l.length:Int)=l.length:=by
  simp[IntKind.wrap,IntKind.signed,IntKind.bits];omega
 rw[run_open F243 rfl rfl (by simp[V.bdL,V.bd,hid])]
 push_cast at h304
 push_cast[hid,hni,hnk,h304,hk,hw,x1]
theorem cmpN_lt {s t:List UInt8}:cmpN s t<0↔numC s=0∧numC t=0∧valN s<valN t:=by
 unfold cmpN
 by_cases h1:numC s=0
 ·by_cases h2:numC t=0
  ·by_cases h3:valN s<valN t
   ·simp[h1,h2,h3]
   ·by_cases h4:valN t<valN s<;>simp[h1,h2,h3,h4]
  ·simp[h2]
 ·simp[h1]
def ascC (l:List Cu):Prop:=l.Pairwise fun a b=>cmpC a b<0
theorem cmpC_tr {a b c:Cu}(h:cmpC a b<0)(h':cmpC b c<0):cmpC a c<0:=by
 unfold cmpC at *
 rw[cmpN_lt]at *
 exact⟨h.1,h'.2.1,by omega⟩
theorem cues_asc {l:List Cu}:∀(r:List Cu) (j:Nat),l.drop j=r→cuesP l r j=0→(∀p,0<j→l[j-1]?=some p→∀q∈r,cmpC p q<0)∧ascC r
 |[],_,_,_=>⟨fun _ _ _ q hq=>(by cases hq),List.Pairwise.nil⟩
 |q::r,j,hd,h=>by
  unfold cuesP at h
  split at h
  ·rename_i c;exact absurd h c
  split at h
  ·cases h
  rename_i _ hc
  have hq:l[j]?=some q:=by rw[←List.head?_drop,hd];rfl
  obtain⟨i1,i2⟩:=cues_asc r (j+1) (by rw[←List.drop_drop,hd];rfl) h
  have i3:=i1 q (by omega) (by simpa using hq)
  refine⟨fun p hj hp z hz=>?_,.cons (fun z hz=>i3 z hz) i2⟩
  have hpD:l.getD (j-1) default=p:=by rw[List.getD_eq_getElem?_getD,hp];rfl
  have hpq:cmpC p q<0:=by
   rw[hpD]at hc
   unfold cmpC
   exact Int.not_le.1 fun e=>hc ⟨hj,e⟩
  rcases List.mem_cons.1 hz with rfl|hz
  ·exact hpq
  ·exact cmpC_tr hpq (i3 z hz)
theorem lst_asc {x:Lst}(h:lstP x=0):ascC x.cues:=by
 unfold lstP at h
 split at h
 ·cases h
 split at h
 ·cases h
 exact(cues_asc x.cues 0 rfl h).2
theorem put_ord {x:Lst}{c:Cu}(h:lstP x=0):Ord1 (woC c.num x.cues++[c]):=fun i j hij hj=>by
 have ha:ascC (woC c.num x.cues):=(lst_asc h).filter _
 simp only[List.length_append,List.length_cons,List.length_nil]at hj
 have hj':j<(woC c.num x.cues).length:=by omega
 have hi':i<(woC c.num x.cues).length:=by omega
 have e1:∀m,m<(woC c.num x.cues).length→(woC c.num x.cues++[c]).getD m default=(woC c.num x.cues).getD m default:=fun m hm=>by
  rw[List.getD_eq_getElem?_getD,List.getD_eq_getElem?_getD,List.getElem?_append_left hm]
 rw[e1 _ hi',e1 _ hj']
 have e2:∀m (hm:m<(woC c.num x.cues).length),(woC c.num x.cues).getD m default=(woC c.num x.cues)[m]:=fun m hm=>by
  rw[List.getD_eq_getElem?_getD,List.getElem?_eq_getElem hm];rfl
 rw[e2 _ hi',e2 _ hj']
 have h1:=(List.pairwise_iff_getElem.1 ha) i j hi' hj' hij
 refine⟨h1,fun h2=>?_⟩
 unfold cmpC at h1 h2
 rw[cmpN_lt]at h1 h2
 omega
end Go.Proofs.YtmjkgajnpmiomaaGreatDoor

namespace Go.Proofs.YtmjkgajnpmiomaaGreatDoor
open Go.Sha
set_option maxRecDepth 100000
variable {g:List (Nat×Obj)}{n:Nat}
def memV:List Nat:=[138,157,243]
noncomputable def HV:EvF:=⟨[103,113,173,179,183,265,270,241,243],fun f args st=>bif Nat.beq f 158 then hOpn Tryz.prog HU 158 args st else bif memL f memV then run Tryz.prog HU f args st else none⟩
@[push_cast]theorem HV_raw:HV.raw=[103,113,173,179,183,265,270,241,243]:=idq rfl
theorem HV_ok (h1:ESound Tryz.prog HH):ESound Tryz.prog HV:=fun f args st r s h=>by
 simp only[HV]at h
 cases h2:Nat.beq f 158 with
 |true=>rw[h2]at h;rw[Nat.eq_of_beq_eq_true h2];exact opn_ok mixed (HU_ok h1) h
 |false =>
  rw[h2]at h
  cases hi:memL f memV with
  |false=>rw[hi]at h;cases h
  |true=>rw[hi]at h;exact run_sound mixed (HU_ok h1) _ _ _ _ _ h
theorem upV {k:Nat}{args:List V}{st:St}{r:VRes×St}(h:run Tryz.prog HU k args st=some r)(h1:Nat.beq k 158=false:=by rfl)(h3:memL k memV=true:=by rfl):run Tryz.prog HV k args st=some r:=by
 refine run_H ?_
 simp only[HV,h1,h3,cond_false,cond_true,h]
theorem e158 {x:Lst}{s:List UInt8}(hl:x.cues.length<1000):run Tryz.prog HV 158 [x.v,.str s] (st94 g)=some (.ret (.osl 6 (woC s x.cues).length),st94' g (woC s x.cues)):=run_H (o158 hl)
def puE (x:Lst)(c:Cu):Int:=if ¬lstP x=0 then lstP x else cueP c
theorem woC_len {s:List UInt8}{l:List Cu}:(woC s l).length≤l.length:=List.length_filter_le _ _
theorem f159 {x:Lst}{l:List Cu}(hol:∀q∈l,q.ok)(hl:l.length≤16)(ho:Ord1 l):∃X:List Cu,X.length=l.length∧(∀z∈X,z∈l)∧∀g:List (Nat×Obj),run Tryz.prog HV 159 [x.v,.osl 6 l.length] ⟨7,[(2,[.i 0,.i 0,.nils])],[(6,⟨41,9,l.map Cu.v,true,false⟩)],⟨[],g,[]⟩⟩=some (.ret (.agg [.int .i64 x.num,.int .i64 x.prio,.osl 6 l.length]),⟨7,[(2,[.i 0,.i 0,.nils])],[(6,⟨41,9,X.map Cu.v,true,false⟩)],⟨[],g,[]⟩⟩):=by
 obtain⟨X,x1,x2,x3⟩:=f243x (k:=9) (id:=6) (M:=[(8,[.i 0,.i 0,.nils]),(7,x.v.cells),(2,[.i 0,.i 0,.nils])]) (by decide) rfl (by simp[belowL,V.bdL,V.bd,V.cells,Lst.v]) rfl hol hl ho
 refine⟨X,x1,x2,fun g=>?_⟩
 have h243:run Tryz.prog HV 243 [.osl 6 l.length,cmpV] _=_:=upV (upU (x3 g))
 rw[run_open F159 rfl rfl (by simp[V.bdL,V.bd])]
 push_cast[Lst.v,V.cells]at h243
 push_cast[Lst.v,V.cells,h243,x1]
 simp[consO,V.bd,V.bdL]
theorem f94e {x:Lst}{c:Cu}(hx:x.ok)(hc:c.ok)(hl:x.cues.length<16)(c1:lstP x=0)(c2:cueP c=0):∃X:List Cu,X.length≤x.cues.length+1∧(∀z∈X,z∈x.cues∨z=c)∧∀st:St,run Tryz.prog HV 94 [x.v,c.v] st=some (.ret (.tup [(⟨x.num,x.prio,X⟩:Lst).v,.int .i64 0]),st):=by
 have hwl:=woC_len (s:=c.num) (l:=x.cues)
 have hok:∀q∈woC c.num x.cues++[c],q.ok:=fun q hq=>by
  rcases List.mem_append.1 hq with h|h
  ·exact hx.2 q (List.mem_filter.1 h).1
  ·rw[List.mem_singleton.1 h];exact hc
 obtain⟨X,x1,x2,x3⟩:=f159 (x:=x) hok (by simp;omega) (put_ord c1)
 have hX:X.length=(woC c.num x.cues).length+1:=by rw[x1];simp
 refine⟨X,by omega,fun z hz=>?_,fun st=>?_⟩
 ·rcases List.mem_append.1 (x2 z hz) with h|h
  ·exact .inl (List.mem_filter.1 h).1
  ·exact .inr (List.mem_singleton.1 h)
 have h138:=fun(st:St)=>upV (upU (f138 hx (st:=st)))
 have h157:=fun(st:St)=>upV (upU (f157 hc (st:=st)))
 have h158:=fun g=>e158 (g:=g) (x:=x) (s:=c.num) (by omega)
 unfold st94 st94' at h158
 have hro:roomV ((woC c.num x.cues).length+1) 120=true:=roomV_lit (by omega) (by omega)
 have h64:¬(64:Int)<((woC c.num x.cues).length:Int)+1:=by omega
 have h159:=x3
 rw[run_shut F94 rfl rfl (by simp)]
 push_cast[Lst.v,Cu.v]at h138 h157 h158
 simp only[List.length_append,List.length_cons,List.length_nil,Nat.zero_add,List.map_append,List.map_cons,List.map_nil]at h159
 push_cast[Lst.v,Cu.v]at h159
 push_cast[Lst.v,Cu.v,h138,h157,c1,c2,h158,hro,h64,h159,hX]
def putP (x:Lst)(c:Cu):Prop:=x.ok∧c.ok∧x.cues.length<16∧lstP x=0∧cueP c=0
theorem putP_ex {x:Lst}{c:Cu}(h:putP x c):∃X:List Cu,X.length≤x.cues.length+1∧(∀z∈X,z∈x.cues∨z=c)∧∀st:St,run Tryz.prog HV 94 [x.v,c.v] st=some (.ret (.tup [(⟨x.num,x.prio,X⟩:Lst).v,.int .i64 0]),st):=f94e h.1 h.2.1 h.2.2.1 h.2.2.2.1 h.2.2.2.2
open Classical in
noncomputable def puL (x:Lst)(c:Cu):Lst:=⟨x.num,x.prio,if h:putP x c then(putP_ex h).choose else[]⟩
theorem puL_spec {x:Lst}{c:Cu}:(puL x c).cues.length≤x.cues.length+1∧∀z∈(puL x c).cues,z∈x.cues∨z=c:=by
 unfold puL
 dsimp only
 split
 ·rename_i h;exact⟨(putP_ex h).choose_spec.1,(putP_ex h).choose_spec.2.1⟩
 ·exact⟨by simp,fun z hz=>by cases hz⟩
theorem f94 {x:Lst}{c:Cu}(hx:x.ok)(hc:c.ok)(hl:x.cues.length<16){st:St}:run Tryz.prog HV 94 [x.v,c.v] st=some (.ret (.tup [(if puE x c=0 then puL x c else L0).v,.int .i64 (puE x c)]),st):=by
 by_cases c1:lstP x=0
 ·have e1:puE x c=cueP c:=if_neg (by simp[c1])
  by_cases c2:cueP c=0
  ·have hp:putP x c:=⟨hx,hc,hl,c1,c2⟩
   rw[e1,c2,if_pos rfl,(putP_ex hp).choose_spec.2.2 st]
   have:(⟨x.num,x.prio,(putP_ex hp).choose⟩:Lst)=puL x c:=by rw[puL,dif_pos hp]
   rw[this]
  ·have h138:=fun(st:St)=>upV (upU (f138 hx (st:=st)))
   have h157:=fun(st:St)=>upV (upU (f157 hc (st:=st)))
   rw[run_shut F94 rfl rfl (by simp)]
   push_cast[Lst.v,Cu.v]at h138 h157
   push_cast[Lst.v,Cu.v,h138,h157,c1,c2,e1,L0,List.map_nil]
 ·have e1:puE x c=lstP x:=if_pos c1
  have h138:=fun(st:St)=>upV (upU (f138 hx (st:=st)))
  rw[run_shut F94 rfl rfl (by simp)]
  push_cast[Lst.v,Cu.v]at h138
  push_cast[Lst.v,Cu.v,h138,c1,e1,L0,List.map_nil]
end Go.Proofs.YtmjkgajnpmiomaaGreatDoor

namespace Go.Proofs.YtmjkgajnpmiomaaGreatDoor
open Go.Sha
set_option maxRecDepth 100000
variable {g:List (Nat×Obj)}{n:Nat}
def memP:List Nat:=[156,102,96,97,98]
noncomputable def HP:EvF:=⟨HH.raw,fun f args st=>bif Nat.beq f 94 then run Tryz.prog HV f args st else bif memL f memP then run Tryz.prog HH f args st else none⟩
@[push_cast]theorem HP_raw:HP.raw=[103,113,173,179,183,265,270]:=idq rfl
theorem HP_ok (h1:ESound Tryz.prog HH):ESound Tryz.prog HP:=fun f args st r s h=>by
 simp only[HP]at h
 cases h2:Nat.beq f 94 with
 |true=>rw[h2]at h;exact run_sound mixed (HV_ok h1) _ _ _ _ _ h
 |false =>
  rw[h2]at h
  cases hi:memL f memP with
  |false=>rw[hi]at h;cases h
  |true=>rw[hi]at h;exact run_sound mixed h1 _ _ _ _ _ h
theorem upP {k:Nat}{args:List V}{st:St}{r:VRes×St}(h:run Tryz.prog HH k args st=some r)(h1:Nat.beq k 94=false:=by rfl)(h3:memL k memP=true:=by rfl):run Tryz.prog HP k args st=some r:=by
 refine run_H ?_
 simp only[HP,h1,h3,cond_false,cond_true,h]
theorem e94 {x:Lst}{c:Cu}(hx:x.ok)(hc:c.ok)(hl:x.cues.length<16){st:St}:run Tryz.prog HP 94 [x.v,c.v] st=some (.ret (.tup [(if puE x c=0 then puL x c else L0).v,.int .i64 (puE x c)]),st):=run_H (by
 simp only[HP,show Nat.beq 94 94=true from rfl,cond_true];exact f94 hx hc hl)
theorem f93 {s:Sho}{e:Edi}{y:Lst}(hy:y.ok)(hc:e.cue.ok)(hl:y.cues.length<16) :
  run Tryz.prog HP 93 [y.v,.ep (.agg [.ptr 3 0]) 0] (stF g s e)=some (.ret (.tup [(if puE y e.cue=0 then puL y e.cue else L0).v,.int .i64 (puE y e.cue)]),stF g s e):=by
 have h94:=fun(st:St)=>e94 hy hc hl (st:=st)
 generalize (if puE y e.cue=0 then puL y e.cue else L0)=z at *
 generalize puE y e.cue=c at *
 unfold stF
 rw[edC_eq]
 rw[run_open F93 rfl rfl (by simp)]
 push_cast[Lst.v,Cu.v]at h94
 push_cast[Lst.v,Cu.v,h94]
def goE (y:Lst)(k:List UInt8):Int:=if ¬numC k=0 then numC k else gonE (drB y k) (drE y k)
def goL (y:Lst)(k:List UInt8):Lst:=if numC k=0 then drL y k else L0
theorem f95 {s:Sho}{e:Edi}{y:Lst}(hy:y.ok)(hl:y.cues.length<1000)(hk:e.key.length<140737488355328) :
  run Tryz.prog HP 95 [y.v,.ep (.agg [.ptr 3 0]) 0] (stF g s e)=some (.ret (.tup [(goL y e.key).v,.int .i64 (goE y e.key)]),stF g s e):=by
 have h96:=fun(st:St)=>upP (f96 (s:=e.key) hk (st:=st))
 have h97:=fun(st:St)=>upP (f97 hy hl hk (st:=st))
 have h98:=fun(b:Bool) (c:Int) (st:St)=>upP (f98 (b:=b) (c:=c) (st:=st))
 by_cases c1:numC e.key=0
 ·have e1:goE y e.key=gonE (drB y e.key) (drE y e.key):=if_neg (by simp[c1])
  have e2:goL y e.key=drL y e.key:=if_pos c1
  unfold stF
  rw[edC_eq,e1,e2]
  rw[run_open F95 rfl rfl (by simp)]
  generalize drL y e.key=z at *
  push_cast[Lst.v]at h97
  push_cast[Lst.v,h96,h97,h98,c1]
 ·have e1:goE y e.key=numC e.key:=if_pos c1
  have e2:goL y e.key=L0:=if_neg c1
  unfold stF
  rw[edC_eq,e1,e2]
  rw[run_open F95 rfl rfl (by simp)]
  push_cast[Lst.v,h96,c1,L0,List.map_nil]
theorem f94c {s:Sho}{e:Edi}{k i:Nat}(hk:k=93∨k=95){y y':Lst}{c:Int}(hs:s.ok)(hl:s.lsts.length<1000000)(c1:fndC s e.num=0)(hi:lstI s.lsts e.num=i)(hy:s.lsts[i]?=some y)
  (hC:run Tryz.prog HP k [y.v,.ep (.agg [.ptr 3 0]) 0] (stF g s e)=some (.ret (.tup [y'.v,.int .i64 c]),stF g s e)) :
  hCls (run Tryz.prog HP) 92 [.ptr 3 0,.fn (.func k) [] [.ep (.agg [.ptr 3 0]) 0]] (stF g s e)=some (.ret (.int .i64 c),stF g { s with lsts:=if c=0 then s.lsts.set i y' else s.lsts } e):=by
 have h158:=fun(st:St)=>upP (f156 (v:=e.num) hs (by omega) (st:=st))
 have h104:=fun(st:St)=>upP (r_cln (k:=102) (e:=98) (es:=3) (b:=40) (f:=Lst.v) (l:=s.lsts) (st:=st) (fun _ _=>rfl) (fun _=>rfl) (fun _=>rfl) (by omega) (by omega))
 rw[hi]at h158
 have hlt:i<s.lsts.length:=(List.getElem?_eq_some_iff.1 hy).1
 have i2:(i:Int)<s.lsts.length:=by omega
 have hyD:s.lsts.getD i default=y:=by rw[List.getD_eq_getElem?_getD,hy];rfl
 push_cast[Sho.v,Lst.v]at h158 h104
 by_cases c3:c=0
 ·rw[c3]at hC ⊢
  rw[if_pos rfl]
  have hset:(s.lsts.map Lst.v).set i y'.v=(s.lsts.set i y').map Lst.v:=by rw[List.map_set]
  have hraw:run Tryz.prog HP 92 [.ptr 3 0,.fn (.func k) [] [.ep (.agg [.ptr 3 0]) 0]] (stF g s e)=some (.ret (.int .i64 0),⟨8,[(3,(edC s e).set 6 (.osl 7 (s.lsts.set i y').length)),(2,[.str [],.nils,.nils,.nils,.nils,.nils,.nils,.nils,.nils])],[(7,⟨98,3,(s.lsts.set i y').map Lst.v,true,false⟩)],⟨[],g,[]⟩⟩):=by
   unfold stF at hC ⊢
   rw[edC_eq]at hC ⊢
   rw[run_open F92 rfl rfl (by simp)]
   push_cast[Lst.v]at hset
   rcases hk with rfl|rfl
   all_goals
    push_cast[Lst.v]at hC
    push_cast[h158,c1,hlt,i2,hy,hyD,hC,h104,updM,Lst.v,V.cells,V.recell,stoB,hset,List.length_set,List.set_cons_succ,List.set_cons_zero]
  rw[hCls,hraw]
  generalize s.lsts.set i y'=L
  push_cast[stF,edC_eq,clsS,clsK,frzA,frzK,clsV,snap1,List.map,List.set_cons_succ,List.set_cons_zero]
 ·rw[if_neg c3]
  have hraw:run Tryz.prog HP 92 [.ptr 3 0,.fn (.func k) [] [.ep (.agg [.ptr 3 0]) 0]] (stF g s e)=some (.ret (.int .i64 c),stF g s e):=by
   unfold stF at hC ⊢
   rw[edC_eq]at hC ⊢
   rw[run_open F92 rfl rfl (by simp)]
   rcases hk with rfl|rfl
   all_goals
    push_cast[Lst.v]at hC
    push_cast[h158,c1,hlt,i2,hy,hyD,hC,c3,updM,Lst.v]
  rw[hCls,hraw]
  push_cast[stF,edC_eq,clsS,clsK,frzA,frzK,clsV,List.map]
theorem f94n {s:Sho}{e:Edi}{k:Nat}(hs:s.ok)(hl:s.lsts.length<1000000)(c1:¬fndC s e.num=0) :
  hCls (run Tryz.prog HP) 92 [.ptr 3 0,.fn (.func k) [] [.ep (.agg [.ptr 3 0]) 0]] (stF g s e)=some (.ret (.int .i64 (fndC s e.num)),stF g s e):=by
 have h158:=fun(st:St)=>upP (f156 (v:=e.num) hs (by omega) (st:=st))
 push_cast[Sho.v,Lst.v]at h158
 have hraw:run Tryz.prog HP 92 [.ptr 3 0,.fn (.func k) [] [.ep (.agg [.ptr 3 0]) 0]] (stF g s e)=some (.ret (.int .i64 (fndC s e.num)),stF g s e):=by
  unfold stF
  rw[edC_eq]
  rw[run_open F92 rfl rfl (by simp)]
  push_cast[h158,c1,updM]
 rw[hCls,hraw]
 push_cast[stF,edC_eq,clsS,clsK,frzA,frzK,clsV,List.map]
end Go.Proofs.YtmjkgajnpmiomaaGreatDoor

namespace Go.Proofs.YtmjkgajnpmiomaaGreatDoor
open Go.Sha
set_option maxRecDepth 100000
variable {g:List (Nat×Obj)}{n:Nat}
def memT:List Nat:=[21,45,188,189,190]
def clsT:List Nat:=[48,55,56]
def oldK:List V→Bool
 |[_,.agg (.int _ k::_)]=>k == 3||k == 4||k == 5||k == 6||k == 7||k == 8||k == 12||k == 13
 |_=>false
noncomputable def HT:EvF:=⟨HH.raw,fun f args st=>bif Nat.beq f 92 then hCls (run Tryz.prog HP) f args st else bif memL f clsT then hCls (run Tryz.prog HH) f args st else bif Nat.beq f 191 then hFzE (run Tryz.prog HH) f args st else bif memL f memT||(Nat.beq f 22&&oldK args) then run Tryz.prog HH f args st else none⟩
@[push_cast]theorem HT_raw:HT.raw=[103,113,173,179,183,265,270]:=idq rfl
theorem HT_ok (h1:ESound Tryz.prog HH):ESound Tryz.prog HT:=fun f args st r s h=>by
 simp only[HT]at h
 cases h92:Nat.beq f 92 with
 |true=>rw[h92]at h;exact cls_ok (run_sound mixed (HP_ok h1)) h
 |false =>
  rw[h92]at h
  cases hf:memL f clsT with
  |true=>rw[hf]at h;exact cls_ok (run_sound mixed h1) h
  |false =>
   rw[hf]at h
   cases h3:Nat.beq f 191 with
   |true=>rw[h3]at h;exact fz_ok (run_sound mixed h1) h
   |false =>
    rw[h3]at h
    cases hi:memL f memT||(Nat.beq f 22&&oldK args) with
    |false=>rw[hi]at h;cases h
    |true=>rw[hi]at h;exact run_sound mixed h1 _ _ _ _ _ h
theorem upT {k:Nat}{args:List V}{st:St}{r:VRes×St}(h:run Tryz.prog HH k args st=some r)(h0:Nat.beq k 92=false:=by rfl)(h1:memL k clsT=false:=by rfl)(h2:memL k memT=true:=by rfl)(h3:Nat.beq k 191=false:=by rfl):run Tryz.prog HT k args st=some r:=by
 refine run_H ?_
 simp only[HT,h0,h1,h2,h3,Bool.true_or,cond_false,cond_true,h]
theorem up24 {x:V}{e:Edi}{st:St}{r:VRes×St}(hk:e.kind=3∨e.kind=4∨e.kind=5∨e.kind=6∨e.kind=7∨e.kind=8∨e.kind=12∨e.kind=13)(h:run Tryz.prog HH 22 [x,e.v] st=some r):run Tryz.prog HT 22 [x,e.v] st=some r:=by
 refine run_H ?_
 have h1:memL 22 clsT=false:=rfl
 have h2:(memL 22 memT||(Nat.beq 22 22&&oldK [x,e.v]))=true:=by
  have h3:oldK [x,e.v]=true:=by
   simp only[Edi.v,oldK]
   rcases hk with hk|hk|hk|hk|hk|hk|hk|hk<;>simp[hk]
  rw[h3];rfl
 simp only[HT,h1,h2,show Nat.beq 22 92=false from rfl,show Nat.beq 22 191=false from rfl,cond_false,cond_true,h]
theorem new24 {x:V}{e:Edi}{st:St}(hk:¬(e.kind=3∨e.kind=4∨e.kind=5∨e.kind=6∨e.kind=7∨e.kind=8∨e.kind=12∨e.kind=13)):HT 22 [x,e.v] st=none:=by
 have h1:memL 22 clsT=false:=rfl
 have h2:(memL 22 memT||(Nat.beq 22 22&&oldK [x,e.v]))=false:=by
  have h3:oldK [x,e.v]=false:=by
   simp only[not_or]at hk
   simp only[Edi.v,oldK]
   simp[hk]
  rw[h3];rfl
 simp only[HT,h1,h2,show Nat.beq 22 92=false from rfl,show Nat.beq 22 191=false from rfl,cond_false]
theorem f55 {s:Sho}{e:Edi}(hl:s.effs.length<1000000):run Tryz.prog HT 55 [.ptr 3 0] (stE g s e)=some (.ret (.int .i64 0),stE g { s with effs:=effN e.eff s.effs } e):=run_H (f57c hl)
theorem f56 {s:Sho}{e:Edi}(hv:-9223372036854775808≤e.num∧e.num≤9223372036854775807)(hl:s.effs.length<1000000)(hb:∀q∈s.effs,q.wave.length<140737488355328):run Tryz.prog HT 56 [.ptr 3 0] (stE g s e)=some (.ret (.int .i64 (effDl s.effs e.num)),stE g { s with effs:=if effDl s.effs e.num=0 then delT Eff.num e.num s.effs else s.effs } e):=run_H (f58c hv hl hb)
theorem f48 {s:Sho}{e:Edi}(hl:s.lsts.length<1000000):run Tryz.prog HT 48 [.ptr 3 0] (stE g s e)=some (.ret (.int .i64 0),stE g { s with lsts:=priN e.num e.prio s.lsts } e):=run_H (f50c hl)
set_option maxHeartbeats 4000000 in
theorem f22_t {k:Nat}(hk0:k=0∨k=1∨k=2∨k=9∨k=10∨k=11){s s':Sho}{e:Edi}{c:Int}(hk:e.kind=k)(hm:e.cue.moves.length<140737488355328)(hp:e.cue.parts.length<140737488355328)
  (hM:∀g:List (Nat×Obj),run Tryz.prog HT (46+k) [.ptr 3 0] (stE g s e)=some (.ret (.int .i64 c),stE g s' e)) (hok:c=0→s'.ok) {st:St} :
  run Tryz.prog HT 22 [s.v,e.v] st=some (.ret (.tup [(if appR e s' c=0 then s' else S0).v,.int .i64 (appR e s' c)]),st):=by
 rcases hk0 with rfl|rfl|rfl|rfl|rfl|rfl
 all_goals
  push_cast at hk
  simp only[Nat.reduceAdd]at hM
  have h14:=fun(st:St)=>upT (f45 hm hp (st:=st))
  have hM':=hM st.x.gl
  unfold stE at hM'
  rw[edC_eq,edC_eq,hk]at hM'
  rw[run_shut F22 (new24 (by simp[hk])) rfl (by simp)]
  push_cast[Edi.v,Sho.v,hk]at h14
  by_cases c1:edtC e=0
  ·by_cases c2:c=0
   ·have h18:=fun(st:St)=>upT (f21 (hok c2) (st:=st))
    have e1:appR e s' 0=shoC s':=by rw[appR,if_neg (by simp[c1]),if_neg (by simp)]
    push_cast[Sho.v]at h18
    by_cases c3:shoC s'=0
    ·push_cast[Edi.v,Sho.v,hk,h14,c1,hM',c2,e1,c3,h18]
    ·push_cast[Edi.v,Sho.v,hk,h14,c1,hM',c2,e1,c3,h18,S0,List.map_nil]
   ·have e1:appR e s' c=c:=by rw[appR,if_neg (by simp[c1]),if_pos c2]
    push_cast[Edi.v,Sho.v,hk,h14,c1,hM',c2,e1,S0,List.map_nil]
  ·have e1:appR e s' c=edtC e:=if_pos c1
   push_cast[Edi.v,Sho.v,hk,h14,c1,e1,S0,List.map_nil]
end Go.Proofs.YtmjkgajnpmiomaaGreatDoor

namespace Go.Proofs.YtmjkgajnpmiomaaGreatDoor
open Go.Sha
set_option maxRecDepth 100000
variable {g:List (Nat×Obj)}{n:Nat}
theorem f193T {l:List Fixt}{ps:List Prof}(hl:l.length<140737488355328)(hb:∀x∈l,x.cable.length<140737488355328)(hp:ps.length<140737488355328){id k:Nat}{wr:Bool}{st:St}(h:Sha.look st.arr id=some ⟨55,7,l.map Fixt.v,wr,false⟩)(hk:l.length=k) :
  run Tryz.prog HT 191 [.osl id k,.sl (ps.map Prof.v)] st=some (.ret (.tup [.sl ((if fixCR l ps=0 then l else[]).map Fixt.v),.int .i64 (fixCR l ps)]),frzS st id ⟨55,7,l.map Fixt.v,wr,false⟩):=by
 refine run_H ?_
 have h1:memL 191 clsT=false:=rfl
 have h2:Nat.beq 191 191=true:=rfl
 simp only[HT,h1,h2,show Nat.beq 191 92=false from rfl,cond_false,cond_true,hFzE,oslI,h,List.map]
 have e1:(snapA (frzS st id ⟨55,7,l.map Fixt.v,wr,false⟩) (.osl id k)).getD (.osl id k)=.sl (l.map Fixt.v):=by
  simp[snapA,snap1,frzS,look_updA,h,hk]
 rw[e1]
 exact f191 hl hb hp
def fixN (x:Fixt)(l:List Fixt):List Fixt:=if fixI l x.chan x.part<0 then l++[x] else l.set (fixI l x.chan x.part).toNat x
def fixP (l:List Fixt)(ps:List Prof)(x:Fixt):Int:=if fixCR l ps=0 then fixCR (fixN x l) ps else fixCR l ps
theorem f116 {l:List Fixt}{ps:List Prof}{x:Fixt}(hl:l.length<1000000)(hb:∀x∈l,x.cable.length<140737488355328)(hx:x.cable.length<140737488355328)(hp:ps.length<140737488355328){st:St} :
  run Tryz.prog HT 116 [.sl (l.map Fixt.v),.sl (ps.map Prof.v),x.v] st=some (.ret (.tup [.sl ((if fixP l ps x=0 then fixN x l else[]).map Fixt.v),.int .i64 (fixP l ps x)]),st):=by
 have h190:=fun(st:St)=>upT <| f188 (l:=l) (ps:=ps) (st:=st) (by omega) hb hp
 have h192:=fun(st:St)=>upT <| f190 (l:=l) (ps:=dedP ps) (c:=x.chan) (d:=x.part) (st:=st) (by omega)
 have h191:=fun(st:St)=>upT <| r_cln (k:=189) (e:=55) (es:=7) (b:=72) (f:=Fixt.v) (l:=l) (st:=st) (fun _ _=>rfl) (fun _=>rfl) (fun _=>rfl) (by omega) (by omega)
 have hN:(fixN x l).length<140737488355328:=by unfold fixN;split<;>simp<;>omega
 have hB:∀y∈fixN x l,y.cable.length<140737488355328:=by
  intro y hy
  unfold fixN at hy
  split at hy
  ·rcases List.mem_append.1 hy with h|h
   ·exact hb y h
   ·rw[List.mem_singleton.1 h];exact hx
  ·rcases List.mem_or_eq_of_mem_set hy with h|h
   ·exact hb y h
   ·rw[h];exact hx
 rw[run_shut F116 rfl rfl (by simp)]
 rw[show ix (fun y:Fixt=>decide (y.chan=x.chan)&&y.part == x.part) l 0=fixI l x.chan x.part from rfl]at h192
 obtain⟨i1,i2⟩:=fixI_lt (l:=l) (c:=x.chan) (d:=x.part)
 by_cases c1:fixCR l ps=0
 ·rw[c1,if_pos rfl]at h190
  have eP:fixP l ps x=fixCR (fixN x l) ps:=if_pos c1
  rw[eP]
  push_cast[rigV,Fixt.v]at h190 h191 h192
  by_cases c2:fixI l x.chan x.part<0
  ·have c3:¬0≤fixI l x.chan x.part:=by omega
   have e1:fixN x l=l++[x]:=if_pos c2
   have hro:roomV (l.length+1) 72=true:=room_ok (by omega) (by omega)
   have e2:(fixN x l).map Fixt.v=l.map Fixt.v++[x.v]:=by rw[e1];simp
   rw[Fixt.v]at e2
   push_cast[h190,h191,h192,c1,c2,c3,hro,Fixt.v,List.map_append,List.map_cons,List.map_nil]
   rw[f193T (l:=fixN x l) (ps:=ps) (id:=2) (k:=l.length+1) (wr:=true) hN hB hp (by rw[e2];rfl) (by simp[e1])]
   push_cast[frzS]
  ·have c3:0≤fixI l x.chan x.part:=by omega
   have e1:fixN x l=l.set (fixI l x.chan x.part).toNat x:=if_neg c2
   obtain⟨k,hk⟩:∃k:Nat,fixI l x.chan x.part=k:=⟨(fixI l x.chan x.part).toNat,by omega⟩
   rw[hk]at h192 e1 i2
   rw[Int.toNat_natCast]at e1
   have hlt:k<l.length:=by omega
   have hy:l[k]?=some (l[k]'hlt):=List.getElem?_eq_getElem hlt
   generalize l[k]'hlt=y at *
   have hset:(l.map Fixt.v).set k x.v=(l.set k x).map Fixt.v:=by rw[List.map_set]
   rw[e1]at hN hB ⊢
   push_cast[Fixt.v]at hset
   push_cast[h190,h191,h192,c1,hlt,i2,hy,Fixt.v,V.cells,V.recell,stoB,hset,List.length_set]
   rw[f193T (l:=l.set k x) (ps:=ps) (id:=2) (k:=l.length) (wr:=true) hN hB hp rfl (by simp)]
   push_cast[frzS]
 ·rw[if_neg c1]at h190
  have eP:fixP l ps x=fixCR l ps:=if_neg c1
  push_cast[h190,eP,c1,List.map_nil]
theorem f57 {s:Sho}{e:Edi}(hl:s.fixts.length<1000000)(hb:∀x∈s.fixts,x.cable.length<140737488355328)(hx:e.fix.cable.length<140737488355328)(hp:s.profs.length<140737488355328) :
  run Tryz.prog HT 57 [.ptr 3 0] (stE g s e)=some (.ret (.int .i64 (fixP s.fixts s.profs e.fix)),stE g { s with fixts:=if fixP s.fixts s.profs e.fix=0 then fixN e.fix s.fixts else[] } e):=by
 have h118:=fun(st:St)=>f116 hl hb hx hp (st:=st)
 unfold stE
 rw[edC_eq,edC_eq]
 rw[run_open F57 rfl rfl (by simp)]
 push_cast[Fixt.v,Prof.v]at h118
 push_cast[h118]
end Go.Proofs.YtmjkgajnpmiomaaGreatDoor

namespace Go.Proofs.YtmjkgajnpmiomaaGreatDoor
open Go.Sha
set_option maxRecDepth 100000
variable {g:List (Nat×Obj)}{n:Nat}
theorem f48_of {s s':Sho}{e:Edi}{c:Int}(h:hCls (run Tryz.prog HP) 92 [.ptr 3 0,.fn (.func 93) [] [.ep (.agg [.ptr 3 0]) 0]] (stF g s e)=some (.ret (.int .i64 c),stF g s' e)) :
  run Tryz.prog HT 46 [.ptr 3 0] (stE g s e)=some (.ret (.int .i64 c),stE g s' e):=by
 have h94:run Tryz.prog HT 92 [.ptr 3 0,.fn (.func 93) [] [.ep (.agg [.ptr 3 0]) 0]] (stF g s e)=some (.ret (.int .i64 c),stF g s' e):=run_H h
 unfold stF at h94
 unfold stE
 rw[edC_eq,edC_eq]at h94 ⊢
 rw[run_open F46 rfl rfl (by simp)]
 push_cast[h94]
theorem f49_of {s s':Sho}{e:Edi}{c:Int}(h:hCls (run Tryz.prog HP) 92 [.ptr 3 0,.fn (.func 95) [] [.ep (.agg [.ptr 3 0]) 0]] (stF g s e)=some (.ret (.int .i64 c),stF g s' e)) :
  run Tryz.prog HT 47 [.ptr 3 0] (stE g s e)=some (.ret (.int .i64 c),stE g s' e):=by
 have h94:run Tryz.prog HT 92 [.ptr 3 0,.fn (.func 95) [] [.ep (.agg [.ptr 3 0]) 0]] (stF g s e)=some (.ret (.int .i64 c),stF g s' e):=run_H h
 unfold stF at h94
 unfold stE
 rw[edC_eq,edC_eq]at h94 ⊢
 rw[run_open F47 rfl rfl (by simp)]
 push_cast[h94]
end Go.Proofs.YtmjkgajnpmiomaaGreatDoor

namespace Go.Proofs.YtmjkgajnpmiomaaGreatDoor
open Go.Sha
set_option maxRecDepth 100000
variable {g:List (Nat×Obj)}{n:Nat}
def lC (l:List Lst)(v:Int)(E:Lst→Int):Int:=if lstI l v<0 then 6 else E (l.getD (lstI l v).toNat default)
def lSet (l:List Lst)(v:Int)(L:Lst→Lst):List Lst:=l.set (lstI l v).toNat (L (l.getD (lstI l v).toNat default))
theorem f46 {s:Sho}{e:Edi}(hs:s.ok)(h0:shoC s=0)(hl:s.lsts.length<1000000)(hq:∀q∈s.lsts,q.cues.length<16)(hc:e.cue.ok) :
  run Tryz.prog HT 46 [.ptr 3 0] (stE g s e)=some (.ret (.int .i64 (lC s.lsts e.num fun y=>puE y e.cue)),stE g { s with lsts:=if lC s.lsts e.num (fun y=>puE y e.cue)=0 then lSet s.lsts e.num (fun y=>puL y e.cue) else s.lsts } e):=by
 have hlt:=@lstI_lt s.lsts e.num
 by_cases h:lstI s.lsts e.num<0
 ·have c1:fndC s e.num=6:=by rw[fndC,if_neg (by simp[h0]),if_pos h]
  have e1:∀E,lC s.lsts e.num E=6:=fun E=>if_pos h
  have:=f94n (g:=g) (e:=e) (k:=93) hs hl (by rw[c1];decide)
  rw[c1]at this
  rw[e1,if_neg (by decide)]
  exact f48_of this
 ·have c1:fndC s e.num=0:=by rw[fndC,if_neg (by simp[h0]),if_neg h]
  obtain⟨i,hi⟩:∃i:Nat,lstI s.lsts e.num=i:=⟨(lstI s.lsts e.num).toNat,by omega⟩
  have hil:i<s.lsts.length:=by omega
  obtain⟨y,hy⟩:∃y,s.lsts[i]?=some y:=⟨_,List.getElem?_eq_getElem hil⟩
  have hyD:s.lsts.getD i default=y:=by rw[List.getD_eq_getElem?_getD,hy];rfl
  have hym:y∈s.lsts:=List.mem_of_getElem? hy
  have e1:∀E:Lst→Int,lC s.lsts e.num E=E y:=fun E=>by rw[lC,if_neg h,hi,Int.toNat_natCast,hyD]
  have e2:∀L:Lst→Lst,lSet s.lsts e.num L=s.lsts.set i (L y):=fun L=>by rw[lSet,hi,Int.toNat_natCast,hyD]
  have:=f94c (g:=g) (s:=s) (e:=e) (k:=93) (i:=i) (.inl rfl) (y:=y) hs hl c1 hi hy (f93 (g:=g) (s:=s) (hs.k.2 y hym) hc (hq y hym))
  rw[e1,e2]
  have k:=f48_of this
  by_cases c:puE y e.cue=0
  ·simpa [c] using k
  ·simpa [c] using k
theorem f47 {s:Sho}{e:Edi}(hs:s.ok)(h0:shoC s=0)(hl:s.lsts.length<1000000)(hq:∀q∈s.lsts,q.cues.length<16)(hk:e.key.length<140737488355328) :
  run Tryz.prog HT 47 [.ptr 3 0] (stE g s e)=some (.ret (.int .i64 (lC s.lsts e.num fun y=>goE y e.key)),stE g { s with lsts:=if lC s.lsts e.num (fun y=>goE y e.key)=0 then lSet s.lsts e.num (fun y=>goL y e.key) else s.lsts } e):=by
 have hlt:=@lstI_lt s.lsts e.num
 by_cases h:lstI s.lsts e.num<0
 ·have c1:fndC s e.num=6:=by rw[fndC,if_neg (by simp[h0]),if_pos h]
  have e1:∀E,lC s.lsts e.num E=6:=fun E=>if_pos h
  have:=f94n (g:=g) (e:=e) (k:=95) hs hl (by rw[c1];decide)
  rw[c1]at this
  rw[e1,if_neg (by decide)]
  exact f49_of this
 ·have c1:fndC s e.num=0:=by rw[fndC,if_neg (by simp[h0]),if_neg h]
  obtain⟨i,hi⟩:∃i:Nat,lstI s.lsts e.num=i:=⟨(lstI s.lsts e.num).toNat,by omega⟩
  have hil:i<s.lsts.length:=by omega
  obtain⟨y,hy⟩:∃y,s.lsts[i]?=some y:=⟨_,List.getElem?_eq_getElem hil⟩
  have hyD:s.lsts.getD i default=y:=by rw[List.getD_eq_getElem?_getD,hy];rfl
  have hym:y∈s.lsts:=List.mem_of_getElem? hy
  have e1:∀E:Lst→Int,lC s.lsts e.num E=E y:=fun E=>by rw[lC,if_neg h,hi,Int.toNat_natCast,hyD]
  have e2:∀L:Lst→Lst,lSet s.lsts e.num L=s.lsts.set i (L y):=fun L=>by rw[lSet,hi,Int.toNat_natCast,hyD]
  have:=f94c (g:=g) (s:=s) (e:=e) (k:=95) (i:=i) (.inr rfl) (y:=y) hs hl c1 hi hy (f95 (g:=g) (s:=s) (hs.k.2 y hym) (by have:=hq y hym;omega) hk)
  rw[e1,e2]
  exact f49_of this
theorem f21_n {s:Sho}{e:Edi}(hk:¬(e.kind=3∨e.kind=4∨e.kind=5∨e.kind=6∨e.kind=7∨e.kind=8∨e.kind=12∨e.kind=13))(hc:¬edtC e=0)(hm:e.cue.moves.length<140737488355328)(hp:e.cue.parts.length<140737488355328){st:St} :
  run Tryz.prog HT 22 [s.v,e.v] st=some (.ret (.tup [S0.v,.int .i64 (edtC e)]),st):=by
 have h14:=fun(st:St)=>upT (f45 hm hp (st:=st))
 rw[run_shut F22 (new24 hk) rfl (by simp)]
 push_cast[Edi.v,Sho.v]at h14
 push_cast[Edi.v,Sho.v,h14,hc,S0,List.map_nil]
end Go.Proofs.YtmjkgajnpmiomaaGreatDoor

namespace Go.Proofs.YtmjkgajnpmiomaaGreatDoor
open Go.Sha
set_option maxRecDepth 100000
variable {g:List (Nat×Obj)}{n:Nat}
theorem shoC_all {x:Sho}:shoC x=0↔labC x.title=0∧cursC x.curves=0∧profsCR x.profs x.curves=0∧fixCR x.fixts x.profs=0∧grpsC x.grps=0∧palsCR x.pals=0∧lstsC x.lsts=0∧subsCR x.subs=0∧effsC x.effs=0:=by
 constructor
 ·intro h
  unfold shoC uniC at h
  repeat' split at h
  all_goals first|(rename_i a;exact absurd h a)|skip
  simp_all
 ·rintro⟨h1,h2,h3,h4,h5,h6,h7,h8,h9⟩
  simp[shoC,uniC,h1,h2,h3,h4,h5,h6,h7,h8,h9]
structure Edi.ok (e:Edi):Prop where
 n:-9223372036854775808≤e.num∧e.num≤9223372036854775807
 k:e.key.length<140737488355328
 c:e.cue.ok
 p:e.pal.hues.length<140737488355328
 g:e.grp.chans.length<140737488355328
 s:e.sub.gains.length<140737488355328
 x:e.eff.wave.length<140737488355328
 f:e.fix.cable.length<140737488355328
def tV (e:Edi)(t:List UInt8):List UInt8:=if e.kind=13 then e.key else t
noncomputable def lV (e:Edi)(l:List Lst):List Lst:=if e.kind=0 then lSet l e.num (fun y=>puL y e.cue) else if e.kind=1 then lSet l e.num (fun y=>goL y e.key) else if e.kind=2 then priN e.num e.prio l else l
def pV (e:Edi)(l:List Pal):List Pal:=if e.kind=3 then insT Pal.num e.pal l else if e.kind=4 then delT Pal.num e.num l else l
def gV (e:Edi)(l:List Grp):List Grp:=if e.kind=5 then insT Grp.num e.grp l else if e.kind=6 then delT Grp.num e.num l else l
def sV (e:Edi)(l:List Sb):List Sb:=if e.kind=7 then insT Sb.num e.sub l else if e.kind=8 then delT Sb.num e.num l else l
def xV (e:Edi)(l:List Eff):List Eff:=if e.kind=9 then effN e.eff l else if e.kind=10 then delT Eff.num e.num l else l
def fV (e:Edi)(l:List Fixt):List Fixt:=if e.kind=11 then fixN e.fix l else if e.kind=12 then fixX l e.chan e.num else l
noncomputable def eS (s:Sho)(e:Edi):Sho:=⟨tV e s.title,s.curves,s.profs,fV e s.fixts,gV e s.grps,pV e s.pals,lV e s.lsts,sV e s.subs,xV e s.effs⟩
def eC (s:Sho)(e:Edi):Int :=
 if e.kind=0 then lC s.lsts e.num (fun y=>puE y e.cue) else if e.kind=1 then lC s.lsts e.num (fun y=>goE y e.key) else if e.kind=3 then palT s.pals e.pal else if e.kind=4 then palD s.pals e.num
 else if e.kind=5 then grpT s.grps e.grp else if e.kind=6 then grpD s.grps e.num else if e.kind=7 then sbT s.subs e.sub else if e.kind=8 then sbD s.subs e.num else if e.kind=10 then effDl s.effs e.num
 else if e.kind=11 then fixP s.fixts s.profs e.fix else if e.kind=12 then fixD s.fixts s.profs e.chan e.num else 0
noncomputable def apC (s:Sho)(e:Edi):Int:=appR e (eS s e) (eC s e)
def Sz {α:Type}(P:α→Prop)(l r:List α):Prop:=r.length≤2*l.length+1∧∀q∈r,q∈l∨P q
theorem Sz.refl {α:Type}{P:α→Prop}{l:List α}:Sz P l l:=⟨by omega,fun q h=>.inl h⟩
theorem Sz.ins {α:Type}{key:α→Int}{x:α}{l:List α}{P:α→Prop}(h:P x):Sz P l (insT key x l):=by
 have h1:=List.length_filter_le (fun y=>decide (key y<key x)) l
 have h2:=List.length_filter_le (fun y=>decide (key x<key y)) l
 refine⟨by simp only[insT,List.length_append,List.length_cons];omega,fun q hq=>?_⟩
 simp only[insT,List.mem_append,List.mem_cons,List.mem_filter]at hq
 rcases hq with hq|hq|hq
 ·exact .inl hq.1
 ·rw[hq];exact .inr h
 ·exact .inl hq.1
theorem Sz.del {α:Type}{key:α→Int}{v:Int}{l:List α}{P:α→Prop}:Sz P l (delT key v l) :=
 ⟨by have:=List.length_filter_le (fun y=>decide (¬key y=v)) l;simp only[delT];omega,fun q hq=>.inl (List.mem_filter.1 hq).1⟩
theorem Sz.set {α:Type}{x:α}{i:Nat}{l:List α}{P:α→Prop}(h:P x):Sz P l (l.set i x) :=
 ⟨by rw[List.length_set];omega,fun q hq=>(List.mem_or_eq_of_mem_set hq).elim .inl fun e=>by rw[e];exact .inr h⟩
theorem Sz.put {α:Type}{x:α}{i:Nat}{l:List α}{P:α→Prop}(h:P x):Sz P l (l.take i++[x]++l.drop i):=by
 refine⟨by simp;omega,fun q hq=>?_⟩
 simp only[List.mem_append,List.mem_singleton]at hq
 rcases hq with(hq|hq)|hq
 ·exact .inl (List.mem_of_mem_take hq)
 ·rw[hq];exact .inr h
 ·exact .inl (List.mem_of_mem_drop hq)
theorem Sz.all {α:Type}{P:α→Prop}{l r:List α}(h:Sz P l r)(hl:l.length<1000000)(ha:∀q∈l,P q):r.length<140737488355328∧∀q∈r,P q :=
 ⟨by have:=h.1;omega,fun q hq=>(h.2 q hq).elim (ha q) fun a=>a⟩
theorem cuD:(default:Lst).ok:=⟨by decide,fun q hq=>by cases hq⟩
theorem getD_P {α:Type}[Inhabited α]{P:α→Prop}{l:List α}{i:Nat}(ha:∀q∈l,P q)(hd:P default):P (l.getD i default):=by
 rw[List.getD_eq_getElem?_getD]
 cases h:l[i]? with
 |none=>exact hd
 |some x=>exact ha x (List.mem_of_getElem? h)
def cq (x:Lst):Prop:=x.ok∧x.cues.length<16
theorem pu_ok {x:Lst}{c:Cu}(h:cq x)(hc:c.ok):(puL x c).ok:=by
 obtain⟨h1,h2⟩:=puL_spec (x:=x) (c:=c)
 have:=h.2
 exact⟨by omega,fun q hq=>(h2 q hq).elim (fun a=>h.1.2 q a) fun a=>by rw[a];exact hc⟩
theorem go_ok {x:Lst}{k:List UInt8}(h:cq x):(goL x k).ok:=by
 unfold goL drL
 have h0:L0.ok:=⟨by decide,fun q hq=>by cases hq⟩
 split
 ·split
  ·split
   ·refine⟨?_,fun q hq=>?_⟩
    ·have:=h.2
     simp only[drC,List.length_append,List.length_take,List.length_drop];omega
    ·rcases List.mem_append.1 hq with h1|h1
     ·exact h.1.2 q (List.mem_of_mem_take h1)
     ·exact h.1.2 q (List.mem_of_mem_drop h1)
   ·exact h.1
  ·exact h0
 ·exact h0
structure Sho.rt (s:Sho):Prop where
 o:s.ok
 c:shoC s=0
 q:∀q∈s.lsts,q.cues.length<16
theorem Sho.rt.len {s:Sho}(h:s.rt):s.fixts.length<1000000∧s.grps.length<1000000∧s.pals.length<1000000∧s.lsts.length<1000000∧s.subs.length<1000000∧s.effs.length<1000000:=by
 obtain⟨_,_,_,h4,h5,h6,h7,h8,h9⟩:=shoC_all.1 h.c
 unfold fixCR at h4
 unfold grpsC at h5
 unfold palsCR at h6
 unfold lstsC at h7
 unfold subsCR at h8
 unfold effsC at h9
 refine⟨?_,?_,?_,?_,?_,?_⟩
 ·split at h4<;>omega
 ·split at h5<;>omega
 ·split at h6<;>omega
 ·split at h7<;>omega
 ·split at h8<;>omega
 ·split at h9<;>omega
theorem eS_ok {s:Sho}{e:Edi}(h:s.rt)(he:e.ok):(eS s e).ok:=by
 obtain⟨l1,l2,l3,l4,l5,l6⟩:=h.len
 have hcq:∀i,cq (s.lsts.getD i default):=fun i=>getD_P (fun q hq=>⟨h.o.k.2 q hq,h.q q hq⟩) ⟨cuD,by decide⟩
 refine⟨?_,h.o.c,h.o.p,?_,?_,?_,?_,?_,?_⟩
 ·show(tV e s.title).length<_
  unfold tV
  split
  ·exact he.k
  ·exact h.o.t
 ·refine Sz.all (l:=s.fixts) (P:=fun x=>x.cable.length<140737488355328) (r:=fV e s.fixts) ?_ l1 h.o.f.2
  unfold fV fixN fixX
  repeat' split
  ·refine⟨by simp;omega,fun q hq=>?_⟩
   rcases List.mem_append.1 hq with a|a
   ·exact .inl a
   ·rw[List.mem_singleton.1 a];exact .inr he.f
  ·exact .set he.f
  ·exact .refl
  ·refine⟨by simp;omega,fun q hq=>.inl ?_⟩
   rcases List.mem_append.1 hq with a|a
   ·exact List.mem_of_mem_take a
   ·exact List.mem_of_mem_drop a
  ·exact .refl
 ·refine Sz.all (l:=s.grps) (P:=fun x=>x.chans.length<140737488355328) (r:=gV e s.grps) ?_ l2 h.o.g.2
  unfold gV
  repeat' split
  ·exact .ins he.g
  ·exact .del
  ·exact .refl
 ·refine Sz.all (l:=s.pals) (P:=fun x=>x.hues.length<140737488355328) (r:=pV e s.pals) ?_ l3 h.o.l.2
  unfold pV
  repeat' split
  ·exact .ins he.p
  ·exact .del
  ·exact .refl
 ·refine Sz.all (l:=s.lsts) (P:=Lst.ok) (r:=lV e s.lsts) ?_ l4 h.o.k.2
  unfold lV lSet priN
  repeat' split
  ·exact .set (pu_ok (hcq _) he.c)
  ·exact .set (go_ok (hcq _))
  ·rename_i y hy _
   exact .set ⟨(h.o.k.2 y (List.mem_of_getElem? (by assumption))).1,(h.o.k.2 y (List.mem_of_getElem? (by assumption))).2⟩
  ·exact .put ⟨by show 0<_;decide,fun q hq=>by cases hq⟩
  ·exact .refl
 ·refine Sz.all (l:=s.subs) (P:=fun x=>x.gains.length<140737488355328) (r:=sV e s.subs) ?_ l5 h.o.s.2
  unfold sV
  repeat' split
  ·exact .ins he.s
  ·exact .del
  ·exact .refl
 ·refine Sz.all (l:=s.effs) (P:=fun x=>x.wave.length<140737488355328) (r:=xV e s.effs) ?_ l6 h.o.e.2
  unfold xV effN
  repeat' split
  ·exact .set he.x
  ·exact .put he.x
  ·exact .del
  ·exact .refl
end Go.Proofs.YtmjkgajnpmiomaaGreatDoor

namespace Go.Proofs.YtmjkgajnpmiomaaGreatDoor
open Go.Sha
set_option maxRecDepth 100000
variable {g:List (Nat×Obj)}{n:Nat}
theorem app_eq {s s':Sho}{e:Edi}{c:Int}(hc:eC s e=c)(hs:c=0→s'=eS s e):appR e s' c=apC s e∧(if appR e s' c=0 then s' else S0)=if apC s e=0 then eS s e else S0:=by
 subst hc
 by_cases h:eC s e=0
 ·rw[hs h];exact⟨rfl,rfl⟩
 ·by_cases h1:edtC e=0
  ·have e1:∀z,appR e z (eC s e)=eC s e:=fun z=>by rw[appR,if_neg (by simp[h1]),if_pos h]
   rw[apC,e1,e1]
   exact⟨rfl,by rw[if_neg h,if_neg h]⟩
  ·have e1:∀z,appR e z (eC s e)=edtC e:=fun z=>if_pos h1
   rw[apC,e1,e1]
   exact⟨rfl,by rw[if_neg h1,if_neg h1]⟩
theorem f22 {s:Sho}{e:Edi}(h:s.rt)(he:e.ok){st:St} :
  run Tryz.prog HT 22 [s.v,e.v] st=some (.ret (.tup [(if apC s e=0 then eS s e else S0).v,.int .i64 (apC s e)]),st):=by
 obtain⟨l1,l2,l3,l4,l5,l6⟩:=h.len
 have ho:=eS_ok h he
 have hm:=he.c.c
 have hp:=he.c.d
 by_cases k0:e.kind=0
 ·have hs:lC s.lsts e.num (fun y=>puE y e.cue)=0→({ s with lsts:=if lC s.lsts e.num (fun y=>puE y e.cue)=0 then lSet s.lsts e.num (fun y=>puL y e.cue) else s.lsts }:Sho)=eS s e:=fun c=>by simp[eS,tV,lV,pV,gV,sV,xV,fV,k0,c]
  have hc:eC s e=lC s.lsts e.num (fun y=>puE y e.cue):=by simp[eC,k0]
  obtain⟨a1,a2⟩:=app_eq hc hs
  have:=f22_t (k:=0) (by decide) (s:=s) (e:=e) (st:=st) k0 hm hp (fun g=>f46 h.o h.c l4 h.q he.c) (fun c=>by rw[hs c];exact ho)
  rwa [a2,a1]at this
 by_cases k1:e.kind=1
 ·have hs:lC s.lsts e.num (fun y=>goE y e.key)=0→({ s with lsts:=if lC s.lsts e.num (fun y=>goE y e.key)=0 then lSet s.lsts e.num (fun y=>goL y e.key) else s.lsts }:Sho)=eS s e:=fun c=>by simp[eS,tV,lV,pV,gV,sV,xV,fV,k1,c]
  have hc:eC s e=lC s.lsts e.num (fun y=>goE y e.key):=by simp[eC,k1]
  obtain⟨a1,a2⟩:=app_eq hc hs
  have:=f22_t (k:=1) (by decide) (s:=s) (e:=e) (st:=st) k1 hm hp (fun g=>f47 h.o h.c l4 h.q he.k) (fun c=>by rw[hs c];exact ho)
  rwa [a2,a1]at this
 by_cases k2:e.kind=2
 ·have hs:(0:Int)=0→({ s with lsts:=priN e.num e.prio s.lsts }:Sho)=eS s e:=fun _=>by simp[eS,tV,lV,pV,gV,sV,xV,fV,k2]
  have hc:eC s e=0:=by simp[eC,k2]
  obtain⟨a1,a2⟩:=app_eq hc hs
  have:=f22_t (k:=2) (by decide) (s:=s) (e:=e) (st:=st) k2 hm hp (fun g=>f48 l4) (fun c=>by rw[hs c];exact ho)
  rwa [a2,a1]at this
 by_cases k3:e.kind=3
 ·have hs:palT s.pals e.pal=0→({ s with pals:=if palT s.pals e.pal=0 then insT Pal.num e.pal s.pals else[] }:Sho)=eS s e:=fun c=>by simp[eS,tV,lV,pV,gV,sV,xV,fV,k3,c]
  have hc:eC s e=palT s.pals e.pal:=by simp[eC,k3]
  obtain⟨a1,a2⟩:=app_eq hc hs
  have:=f22_o (k:=3) (by decide) (s:=s) (e:=e) (st:=st) k3 hm hp (fun id st hid=>f49 hid l3 h.o.l.2 he.p) (fun c=>by rw[hs c];exact ho)
  rw[a2,a1]at this
  exact up24 (by simp[k3]) this
 by_cases k4:e.kind=4
 ·have hg:palD s.pals e.num=0→palsCR s.pals=0:=fun c=>(shoC_all.1 h.c).2.2.2.2.2.1
  have hs:palD s.pals e.num=0→({ s with pals:=if palsCR s.pals=0 then delT Pal.num e.num s.pals else[] }:Sho)=eS s e:=fun c=>by simp[eS,tV,lV,pV,gV,sV,xV,fV,k4,hg c]
  have hc:eC s e=palD s.pals e.num:=by simp[eC,k4]
  obtain⟨a1,a2⟩:=app_eq hc hs
  have:=f22_o (k:=4) (by decide) (s:=s) (e:=e) (st:=st) k4 hm hp (fun id st hid=>f50 hid l3 h.o.l.2) (fun c=>by rw[hs c];exact ho)
  rw[a2,a1]at this
  exact up24 (by simp[k4]) this
 by_cases k5:e.kind=5
 ·have hs:grpT s.grps e.grp=0→({ s with grps:=if grpT s.grps e.grp=0 then insT Grp.num e.grp s.grps else[] }:Sho)=eS s e:=fun c=>by simp[eS,tV,lV,pV,gV,sV,xV,fV,k5,c]
  have hc:eC s e=grpT s.grps e.grp:=by simp[eC,k5]
  obtain⟨a1,a2⟩:=app_eq hc hs
  have:=f22_o (k:=5) (by decide) (s:=s) (e:=e) (st:=st) k5 hm hp (fun id st hid=>f51 hid l2 h.o.g.2 he.g) (fun c=>by rw[hs c];exact ho)
  rw[a2,a1]at this
  exact up24 (by simp[k5]) this
 by_cases k6:e.kind=6
 ·have hs:grpD s.grps e.num=0→({ s with grps:=if grpD s.grps e.num=0 then delT Grp.num e.num s.grps else[] }:Sho)=eS s e:=fun c=>by simp[eS,tV,lV,pV,gV,sV,xV,fV,k6,c]
  have hc:eC s e=grpD s.grps e.num:=by simp[eC,k6]
  obtain⟨a1,a2⟩:=app_eq hc hs
  have:=f22_o (k:=6) (by decide) (s:=s) (e:=e) (st:=st) k6 hm hp (fun id st hid=>f52 hid l2 h.o.g.2) (fun c=>by rw[hs c];exact ho)
  rw[a2,a1]at this
  exact up24 (by simp[k6]) this
 by_cases k7:e.kind=7
 ·have hs:sbT s.subs e.sub=0→({ s with subs:=if sbT s.subs e.sub=0 then insT Sb.num e.sub s.subs else[] }:Sho)=eS s e:=fun c=>by simp[eS,tV,lV,pV,gV,sV,xV,fV,k7,c]
  have hc:eC s e=sbT s.subs e.sub:=by simp[eC,k7]
  obtain⟨a1,a2⟩:=app_eq hc hs
  have:=f22_o (k:=7) (by decide) (s:=s) (e:=e) (st:=st) k7 hm hp (fun id st hid=>f53 hid l5 h.o.s.2 he.s) (fun c=>by rw[hs c];exact ho)
  rw[a2,a1]at this
  exact up24 (by simp[k7]) this
 by_cases k8:e.kind=8
 ·have hs:sbD s.subs e.num=0→({ s with subs:=if sbD s.subs e.num=0 then delT Sb.num e.num s.subs else[] }:Sho)=eS s e:=fun c=>by simp[eS,tV,lV,pV,gV,sV,xV,fV,k8,c]
  have hc:eC s e=sbD s.subs e.num:=by simp[eC,k8]
  obtain⟨a1,a2⟩:=app_eq hc hs
  have:=f22_o (k:=8) (by decide) (s:=s) (e:=e) (st:=st) k8 hm hp (fun id st hid=>f54 hid he.n l5 h.o.s.2) (fun c=>by rw[hs c];exact ho)
  rw[a2,a1]at this
  exact up24 (by simp[k8]) this
 by_cases k9:e.kind=9
 ·have hs:(0:Int)=0→({ s with effs:=effN e.eff s.effs }:Sho)=eS s e:=fun _=>by simp[eS,tV,lV,pV,gV,sV,xV,fV,k9]
  have hc:eC s e=0:=by simp[eC,k9]
  obtain⟨a1,a2⟩:=app_eq hc hs
  have:=f22_t (k:=9) (by decide) (s:=s) (e:=e) (st:=st) k9 hm hp (fun g=>f55 l6) (fun c=>by rw[hs c];exact ho)
  rwa [a2,a1]at this
 by_cases k10:e.kind=10
 ·have hs:effDl s.effs e.num=0→({ s with effs:=if effDl s.effs e.num=0 then delT Eff.num e.num s.effs else s.effs }:Sho)=eS s e:=fun c=>by simp[eS,tV,lV,pV,gV,sV,xV,fV,k10,c]
  have hc:eC s e=effDl s.effs e.num:=by simp[eC,k10]
  obtain⟨a1,a2⟩:=app_eq hc hs
  have:=f22_t (k:=10) (by decide) (s:=s) (e:=e) (st:=st) k10 hm hp (fun g=>f56 he.n l6 h.o.e.2) (fun c=>by rw[hs c];exact ho)
  rwa [a2,a1]at this
 by_cases k11:e.kind=11
 ·have hs:fixP s.fixts s.profs e.fix=0→({ s with fixts:=if fixP s.fixts s.profs e.fix=0 then fixN e.fix s.fixts else[] }:Sho)=eS s e:=fun c=>by simp[eS,tV,lV,pV,gV,sV,xV,fV,k11,c]
  have hc:eC s e=fixP s.fixts s.profs e.fix:=by simp[eC,k11]
  obtain⟨a1,a2⟩:=app_eq hc hs
  have:=f22_t (k:=11) (by decide) (s:=s) (e:=e) (st:=st) k11 hm hp (fun g=>f57 l1 h.o.f.2 he.f h.o.p.1) (fun c=>by rw[hs c];exact ho)
  rwa [a2,a1]at this
 by_cases k12:e.kind=12
 ·have hg:fixCR s.fixts s.profs=0:=(shoC_all.1 h.c).2.2.2.1
  have hs:fixD s.fixts s.profs e.chan e.num=0→({ s with fixts:=if fixCR s.fixts s.profs=0 then fixX s.fixts e.chan e.num else[] }:Sho)=eS s e:=fun c=>by simp[eS,tV,lV,pV,gV,sV,xV,fV,k12,hg]
  have hc:eC s e=fixD s.fixts s.profs e.chan e.num:=by simp[eC,k12]
  obtain⟨a1,a2⟩:=app_eq hc hs
  have:=f22_o (k:=12) (by decide) (s:=s) (e:=e) (st:=st) k12 hm hp (fun id st hid=>f58 hid l1 h.o.f.2 h.o.p.1) (fun c=>by rw[hs c];exact ho)
  rw[a2,a1]at this
  exact up24 (by simp[k12]) this
 by_cases k13:e.kind=13
 ·have hs:(0:Int)=0→({ s with title:=e.key }:Sho)=eS s e:=fun _=>by simp[eS,tV,lV,pV,gV,sV,xV,fV,k13]
  have hc:eC s e=0:=by simp[eC,k13]
  obtain⟨a1,a2⟩:=app_eq hc hs
  have:=f22_o (k:=13) (by decide) (s:=s) (e:=e) (st:=st) k13 hm hp (fun id st hid=>f59 hid) (fun c=>by rw[hs c];exact ho)
  rw[a2,a1]at this
  exact up24 (by simp[k13]) this
 have h1:edtC e=1:=if_pos (by omega)
 have h2:apC s e=1:=by rw[apC,appR,if_pos (by rw[h1];decide),h1]
 rw[h2,if_neg (by decide)]
 have:=f21_n (s:=s) (e:=e) (st:=st) (by omega) (by rw[h1];decide) hm hp
 rwa [h1]at this
theorem f8T {s:Sho}{e:Edi}(h:s.rt)(he:e.ok){st:St} :
  run Tryz.prog HT 19 [s.v,e.v] st=some (.ret (.tup [(if apC s e=0 then eS s e else S0).v,.int .i64 (apC s e)]),st):=by
 have h20:=fun(st:St)=>upT (f21 h.o (st:=st))
 have h21:=fun(st:St)=>f22 h he (st:=st)
 rw[h.c]at h20
 rw[run_shut F19 rfl rfl (by simp)]
 generalize (if apC s e=0 then eS s e else S0)=z at *
 push_cast[Edi.v,Sho.v]at h20 h21
 push_cast[Edi.v,Sho.v,h20,h21]
end Go.Proofs.YtmjkgajnpmiomaaGreatDoor

namespace Go.Proofs.YtmjkgajnpmiomaaGreatDoor
open Go.Sha
set_option maxRecDepth 10000
theorem F9:compF Tryz.prog 9=some ⟨66,[.tmp 4],(.g [.q 2 31 0,.q 3 31 1,.k 4 false] (.z [2,3] (.join [4] (.reg [.a 5 0 2,.l 6 5,.a 7 0 3,.l 8 7,.b 9 .eql 6 8,.m 10 9,.ay 11 1 2 10,.ly 12 11 10,.ay 13 1 3 10,.ly 14 13 10,.y 15 (.f 23 [.t 12,.t 14]) 10,.e 16 10 15,.m 17 16,.ay 18 2 2 17,.ly 19 18 17,.ay 20 2 3 17,.ly 21 20 17,.y 22 (.f 24 [.t 19,.t 21]) 17,.e 23 17 22,.m 24 23,.ay 25 3 2 24,.ly 26 25 24,.ay 27 3 3 24,.ly 28 27 24,.y 29 (.f 25 [.t 26,.t 28]) 24,.e 30 24 29,.m 31 30,.ay 32 4 2 31,.ly 33 32 31,.ay 34 4 3 31,.ly 35 34 31,.y 36 (.f 26 [.t 33,.t 35]) 31,.e 37 31 36,.m 38 37,.ay 39 5 2 38,.ly 40 39 38,.ay 41 5 3 38,.ly 42 41 38,.y 43 (.f 27 [.t 40,.t 42]) 38,.e 44 38 43,.m 45 44,.ay 46 6 2 45,.ly 47 46 45,.ay 48 6 3 45,.ly 49 48 45,.y 50 (.f 28 [.t 47,.t 49]) 45,.e 51 45 50,.m 52 51,.ay 53 7 2 52,.ly 54 53 52,.ay 55 7 3 52,.ly 56 55 52,.y 57 (.f 29 [.t 54,.t 56]) 52,.e 58 52 57,.m 59 58,.ay 60 8 2 59,.ly 61 60 59,.ay 62 8 3 59,.ly 63 62 59,.y 64 (.f 30 [.t 61,.t 63]) 59,.e 65 59 64,.m 4 65]) (.ret [4]))))⟩:=by kernel_rfl
def B23_0:Cd:=(.join [0,1,5] (.g [.m 11 5,.m 12 0,.u 13 12,.b 14 .lss 11 13] (.i 14 .skip (.exit [] 0))) (.join [0,1,5] (.block 1 (.q (.dreg 10 [.m 17 0,.m 18 5,.r 19 1 17 18,.l 20 19,.m 21 1,.m 22 5,.r 23 1 21 22,.l 24 23,.g' 25 60 20 24,.z 26 25]) (.i 26 (.g [.k 4 false] (.ret [4])) .skip))) (.reg [.m 15 5,.v 16 .add 15 1,.m 5 16])))
theorem F23:compF Tryz.prog 23=some ⟨27,[.tmp 4],(.g [.k 4 false] (.join [0,1] (.g [.m 6 0,.u 7 6,.m 8 1,.u 9 8,.b 10 .neq 7 9] (.i 10 (.g [.k 4 false] (.ret [4])) .skip)) (.join [] (.g [.c 5 0] (.block 0 (.loop [0,1,5] [] B23_0))) (.g [.k 4 true] (.ret [4])))))⟩:=by kernel_rfl
def B24_0:Cd:=(.join [0,1,5] (.g [.m 11 5,.m 12 0,.u 13 12,.b 14 .lss 11 13] (.i 14 .skip (.exit [] 0))) (.join [0,1,5] (.block 1 (.q (.dreg 10 [.m 17 0,.m 18 5,.r 19 4 17 18,.d 20 4 19,.m 21 1,.m 22 5,.r 23 4 21 22,.d 24 4 23,.g' 25 61 20 24,.z 26 25]) (.i 26 (.g [.k 4 false] (.ret [4])) .skip))) (.reg [.m 15 5,.v 16 .add 15 1,.m 5 16])))
theorem F24:compF Tryz.prog 24=some ⟨27,[.tmp 4],(.g [.k 4 false] (.join [0,1] (.g [.m 6 0,.u 7 6,.m 8 1,.u 9 8,.b 10 .neq 7 9] (.i 10 (.g [.k 4 false] (.ret [4])) .skip)) (.join [] (.g [.c 5 0] (.block 0 (.loop [0,1,5] [] B24_0))) (.g [.k 4 true] (.ret [4])))))⟩:=by kernel_rfl
def B25_0:Cd:=(.join [0,1,5] (.g [.m 11 5,.m 12 0,.u 13 12,.b 14 .lss 11 13] (.i 14 .skip (.exit [] 0))) (.join [0,1,5] (.block 1 (.q (.dreg 9 [.m 17 0,.m 18 5,.r 19 7 17 18,.d 20 7 19,.m 21 1,.m 22 5,.r 23 7 21 22,.d 24 7 23,.s 25 (.eqs true [.i,.i,.s,.i,.i,.i,.s] (.t 20) (.t 24))]) (.i 25 (.g [.k 4 false] (.ret [4])) .skip))) (.reg [.m 15 5,.v 16 .add 15 1,.m 5 16])))
theorem F25:compF Tryz.prog 25=some ⟨26,[.tmp 4],(.g [.k 4 false] (.join [0,1] (.g [.m 6 0,.u 7 6,.m 8 1,.u 9 8,.b 10 .neq 7 9] (.i 10 (.g [.k 4 false] (.ret [4])) .skip)) (.join [] (.g [.c 5 0] (.block 0 (.loop [0,1,5] [] B25_0))) (.g [.k 4 true] (.ret [4])))))⟩:=by kernel_rfl
def B26_0:Cd:=(.join [0,1,5] (.g [.m 11 5,.m 12 0,.u 13 12,.b 14 .lss 11 13] (.i 14 .skip (.exit [] 0))) (.join [0,1,5] (.block 1 (.q (.dreg 10 [.m 17 0,.m 18 5,.r 19 2 17 18,.d 20 2 19,.m 21 1,.m 22 5,.r 23 2 21 22,.d 24 2 23,.g' 25 62 20 24,.z 26 25]) (.i 26 (.g [.k 4 false] (.ret [4])) .skip))) (.reg [.m 15 5,.v 16 .add 15 1,.m 5 16])))
theorem F26:compF Tryz.prog 26=some ⟨27,[.tmp 4],(.g [.k 4 false] (.join [0,1] (.g [.m 6 0,.u 7 6,.m 8 1,.u 9 8,.b 10 .neq 7 9] (.i 10 (.g [.k 4 false] (.ret [4])) .skip)) (.join [] (.g [.c 5 0] (.block 0 (.loop [0,1,5] [] B26_0))) (.g [.k 4 true] (.ret [4])))))⟩:=by kernel_rfl
def B27_0:Cd:=(.join [0,1,5,6] (.g [.m 44 6,.m 45 0,.m 46 5,.r 47 2 45 46,.a 48 1 47,.l 49 48,.u 50 49,.b 51 .lss 44 50] (.i 51 .skip (.exit [0,1,5] 2))) (.join [0,1,5,6] (.block 3 (.q (.dreg 17 [.m 54 0,.m 55 5,.r 56 2 54 55,.a 57 1 56,.l 58 57,.m 59 6,.r 60 3 58 59,.d 61 3 60,.m 62 1,.m 63 5,.r 64 2 62 63,.a 65 1 64,.l 66 65,.m 67 6,.r 68 3 66 67,.d 69 3 68,.s 70 (.eqs true [.i,.i,.i] (.t 61) (.t 69))]) (.i 70 (.g [.k 4 false] (.ret [4])) .skip))) (.reg [.m 52 6,.v 53 .add 52 1,.m 6 53])))
def B27_1:Cd:=(.join [0,1,5] (.g [.m 12 5,.m 13 0,.u 14 13,.b 15 .lss 12 14] (.i 15 .skip (.exit [] 0))) (.join [0,1,5] (.block 1 (.join [0,1,5] (.join [0,1,5,43] (.dreg 26 [.m 18 0,.m 19 5,.r 20 2 18 19,.a 21 0 20,.l 22 21,.m 23 1,.m 24 5,.r 25 2 23 24,.a 26 0 25,.l 27 26,.b 28 .neq 22 27,.m 29 28,.mx 30 0 29,.mx 31 5 29,.x 32 (.iadr 2 (.t 30) (.t 31)) 29,.ax 33 1 32 29,.lx 34 33 29,.x 35 (.len (.t 34)) 29,.mx 36 1 29,.mx 37 5 29,.x 38 (.iadr 2 (.t 36) (.t 37)) 29,.ax 39 1 38 29,.lx 40 39 29,.x 41 (.len (.t 40)) 29,.bx 42 .neq 35 41 29,.o 43 29 42]) (.i 43 (.g [.k 4 false] (.ret [4])) .skip)) (.g [.c 6 0] (.block 2 (.loop [0,1,5,6] [] B27_0))))) (.reg [.m 16 5,.v 17 .add 16 1,.m 5 17])))
theorem F27:compF Tryz.prog 27=some ⟨71,[.tmp 4],(.g [.k 4 false] (.join [0,1] (.g [.m 7 0,.u 8 7,.m 9 1,.u 10 9,.b 11 .neq 8 10] (.i 11 (.g [.k 4 false] (.ret [4])) .skip)) (.join [] (.g [.c 5 0] (.block 0 (.loop [0,1,5] [] B27_1))) (.g [.k 4 true] (.ret [4])))))⟩:=by kernel_rfl
def B28_0:Cd:=(.join [0,1,5] (.g [.m 11 5,.m 12 0,.u 13 12,.b 14 .lss 11 13] (.i 14 .skip (.exit [] 0))) (.join [0,1,5] (.block 1 (.q (.dreg 10 [.m 17 0,.m 18 5,.r 19 3 17 18,.d 20 3 19,.m 21 1,.m 22 5,.r 23 3 21 22,.d 24 3 23,.g' 25 63 20 24,.z 26 25]) (.i 26 (.g [.k 4 false] (.ret [4])) .skip))) (.reg [.m 15 5,.v 16 .add 15 1,.m 5 16])))
theorem F28:compF Tryz.prog 28=some ⟨27,[.tmp 4],(.g [.k 4 false] (.join [0,1] (.g [.m 6 0,.u 7 6,.m 8 1,.u 9 8,.b 10 .neq 7 9] (.i 10 (.g [.k 4 false] (.ret [4])) .skip)) (.join [] (.g [.c 5 0] (.block 0 (.loop [0,1,5] [] B28_0))) (.g [.k 4 true] (.ret [4])))))⟩:=by kernel_rfl
def B29_0:Cd:=(.join [0,1,5] (.g [.m 11 5,.m 12 0,.u 13 12,.b 14 .lss 11 13] (.i 14 .skip (.exit [] 0))) (.join [0,1,5] (.block 1 (.q (.dreg 10 [.m 17 0,.m 18 5,.r 19 4 17 18,.d 20 4 19,.m 21 1,.m 22 5,.r 23 4 21 22,.d 24 4 23,.g' 25 64 20 24,.z 26 25]) (.i 26 (.g [.k 4 false] (.ret [4])) .skip))) (.reg [.m 15 5,.v 16 .add 15 1,.m 5 16])))
theorem F29:compF Tryz.prog 29=some ⟨27,[.tmp 4],(.g [.k 4 false] (.join [0,1] (.g [.m 6 0,.u 7 6,.m 8 1,.u 9 8,.b 10 .neq 7 9] (.i 10 (.g [.k 4 false] (.ret [4])) .skip)) (.join [] (.g [.c 5 0] (.block 0 (.loop [0,1,5] [] B29_0))) (.g [.k 4 true] (.ret [4])))))⟩:=by kernel_rfl
def B30_0:Cd:=(.join [0,1,5] (.g [.m 11 5,.m 12 0,.u 13 12,.b 14 .lss 11 13] (.i 14 .skip (.exit [] 0))) (.join [0,1,5] (.block 1 (.q (.dreg 10 [.m 17 0,.m 18 5,.r 19 6 17 18,.d 20 6 19,.m 21 1,.m 22 5,.r 23 6 21 22,.d 24 6 23,.g' 25 65 20 24,.z 26 25]) (.i 26 (.g [.k 4 false] (.ret [4])) .skip))) (.reg [.m 15 5,.v 16 .add 15 1,.m 5 16])))
theorem F30:compF Tryz.prog 30=some ⟨27,[.tmp 4],(.g [.k 4 false] (.join [0,1] (.g [.m 6 0,.u 7 6,.m 8 1,.u 9 8,.b 10 .neq 7 9] (.i 10 (.g [.k 4 false] (.ret [4])) .skip)) (.join [] (.g [.c 5 0] (.block 0 (.loop [0,1,5] [] B30_0))) (.g [.k 4 true] (.ret [4])))))⟩:=by kernel_rfl
def B60_0:Cd:=(.join [0,1,5] (.g [.m 11 5,.m 12 0,.u 13 12,.b 14 .lss 11 13] (.i 14 .skip (.exit [] 0))) (.join [0,1,5] (.block 1 (.q (.dreg 9 [.m 17 0,.m 18 5,.r 19 2 17 18,.d 20 2 19,.m 21 1,.m 22 5,.r 23 2 21 22,.d 24 2 23,.s 25 (.eqs true [.i,.i] (.t 20) (.t 24))]) (.i 25 (.g [.k 4 false] (.ret [4])) .skip))) (.reg [.m 15 5,.v 16 .add 15 1,.m 5 16])))
theorem F60:compF Tryz.prog 60=some ⟨26,[.tmp 4],(.g [.k 4 false] (.join [0,1] (.g [.m 6 0,.u 7 6,.m 8 1,.u 9 8,.b 10 .neq 7 9] (.i 10 (.g [.k 4 false] (.ret [4])) .skip)) (.join [] (.g [.c 5 0] (.block 0 (.loop [0,1,5] [] B60_0))) (.g [.k 4 true] (.ret [4])))))⟩:=by kernel_rfl
def B61_0:Cd:=(.join [2,3,5] (.g [.m 34 5,.a 35 3 2,.l 36 35,.u 37 36,.b 38 .lss 34 37] (.i 38 .skip (.exit [] 0))) (.join [2,3,5] (.block 1 (.q (.dreg 12 [.a 41 3 2,.l 42 41,.m 43 5,.r 44 10 42 43,.d 45 10 44,.a 46 3 3,.l 47 46,.m 48 5,.r 49 10 47 48,.d 50 10 49,.g' 51 118 45 50,.z 52 51]) (.i 52 (.g [.k 4 false] (.ret [4])) .skip))) (.reg [.m 39 5,.v 40 .add 39 1,.m 5 40])))
theorem F61:compF Tryz.prog 61=some ⟨53,[.tmp 4],(.g [.q 2 94 0,.q 3 94 1,.k 4 false] (.z [2,3] (.join [2,3] (.join [2,3,33] (.reg [.a 6 0 2,.l 7 6,.a 8 0 3,.l 9 8,.b 10 .neq 7 9,.m 11 10,.ax 12 1 2 11,.lx 13 12 11,.ax 14 1 3 11,.lx 15 14 11,.bx 16 .neq 13 15 11,.o 17 11 16,.m 18 17,.ax 19 2 2 18,.lx 20 19 18,.ax 21 2 3 18,.lx 22 21 18,.bx 23 .neq 20 22 18,.o 24 18 23,.m 25 24,.ax 26 3 2 25,.lx 27 26 25,.x 28 (.len (.t 27)) 25,.ax 29 3 3 25,.lx 30 29 25,.x 31 (.len (.t 30)) 25,.bx 32 .neq 28 31 25,.o 33 25 32]) (.i 33 (.g [.k 4 false] (.ret [4])) .skip)) (.join [] (.g [.c 5 0] (.block 0 (.loop [2,3,5] [] B61_0))) (.g [.k 4 true] (.ret [4]))))))⟩:=by kernel_rfl
theorem F62:compF Tryz.prog 62=some ⟨17,[.tmp 4],(.g [.q 2 47 0,.q 3 47 1,.k 4 false] (.z [2,3] (.join [4] (.reg [.a 5 0 2,.l 6 5,.a 7 0 3,.l 8 7,.b 9 .eql 6 8,.m 10 9,.ay 11 1 2 10,.ly 12 11 10,.ay 13 1 3 10,.ly 14 13 10,.y 15 (.f 119 [.t 12,.t 14]) 10,.e 16 10 15,.m 4 16]) (.ret [4]))))⟩:=by kernel_rfl
def B63_0:Cd:=(.join [2,3,5] (.g [.m 27 5,.a 28 2 2,.l 29 28,.u 30 29,.b 31 .lss 27 30] (.i 31 .skip (.exit [] 0))) (.join [2,3,5] (.block 1 (.q (.dreg 12 [.a 34 2 2,.l 35 34,.m 36 5,.r 37 9 35 36,.d 38 9 37,.a 39 2 3,.l 40 39,.m 41 5,.r 42 9 40 41,.d 43 9 42,.g' 44 120 38 43,.z 45 44]) (.i 45 (.g [.k 4 false] (.ret [4])) .skip))) (.reg [.m 32 5,.v 33 .add 32 1,.m 5 33])))
theorem F63:compF Tryz.prog 63=some ⟨46,[.tmp 4],(.g [.q 2 98 0,.q 3 98 1,.k 4 false] (.z [2,3] (.join [2,3] (.join [2,3,26] (.reg [.a 6 0 2,.l 7 6,.a 8 0 3,.l 9 8,.b 10 .neq 7 9,.m 11 10,.ax 12 1 2 11,.lx 13 12 11,.ax 14 1 3 11,.lx 15 14 11,.bx 16 .neq 13 15 11,.o 17 11 16,.m 18 17,.ax 19 2 2 18,.lx 20 19 18,.x 21 (.len (.t 20)) 18,.ax 22 2 3 18,.lx 23 22 18,.x 24 (.len (.t 23)) 18,.bx 25 .neq 21 24 18,.o 26 18 25]) (.i 26 (.g [.k 4 false] (.ret [4])) .skip)) (.join [] (.g [.c 5 0] (.block 0 (.loop [2,3,5] [] B63_0))) (.g [.k 4 true] (.ret [4]))))))⟩:=by kernel_rfl
def B64_0:Cd:=(.join [2,3,5] (.g [.m 34 5,.a 35 3 2,.l 36 35,.u 37 36,.b 38 .lss 34 37] (.i 38 .skip (.exit [] 0))) (.join [2,3,5] (.block 1 (.q (.dreg 11 [.a 41 3 2,.l 42 41,.m 43 5,.r 44 3 42 43,.d 45 3 44,.a 46 3 3,.l 47 46,.m 48 5,.r 49 3 47 48,.d 50 3 49,.s 51 (.eqs true [.i,.i,.i] (.t 45) (.t 50))]) (.i 51 (.g [.k 4 false] (.ret [4])) .skip))) (.reg [.m 39 5,.v 40 .add 39 1,.m 5 40])))
theorem F64:compF Tryz.prog 64=some ⟨52,[.tmp 4],(.g [.q 2 50 0,.q 3 50 1,.k 4 false] (.z [2,3] (.join [2,3] (.join [2,3,33] (.reg [.a 6 0 2,.l 7 6,.a 8 0 3,.l 9 8,.b 10 .neq 7 9,.m 11 10,.ax 12 1 2 11,.lx 13 12 11,.ax 14 1 3 11,.lx 15 14 11,.bx 16 .neq 13 15 11,.o 17 11 16,.m 18 17,.ax 19 2 2 18,.lx 20 19 18,.ax 21 2 3 18,.lx 22 21 18,.x 23 (.eqb true (.t 20) (.t 22)) 18,.o 24 18 23,.m 25 24,.ax 26 3 2 25,.lx 27 26 25,.x 28 (.len (.t 27)) 25,.ax 29 3 3 25,.lx 30 29 25,.x 31 (.len (.t 30)) 25,.bx 32 .neq 28 31 25,.o 33 25 32]) (.i 33 (.g [.k 4 false] (.ret [4])) .skip)) (.join [] (.g [.c 5 0] (.block 0 (.loop [2,3,5] [] B64_0))) (.g [.k 4 true] (.ret [4]))))))⟩:=by kernel_rfl
theorem F65:compF Tryz.prog 65=some ⟨45,[.tmp 4],(.g [.q 2 53 0,.q 3 53 1,.k 4 false] (.z [2,3] (.join [4] (.reg [.a 5 0 2,.l 6 5,.a 7 0 3,.l 8 7,.b 9 .eql 6 8,.m 10 9,.ay 11 1 2 10,.ly 12 11 10,.ay 13 1 3 10,.ly 14 13 10,.by' 15 .eql 12 14 10,.e 16 10 15,.m 17 16,.ay 18 2 2 17,.ly 19 18 17,.ay 20 2 3 17,.ly 21 20 17,.y 22 (.f 121 [.t 19,.t 21]) 17,.e 23 17 22,.m 24 23,.ay 25 3 2 24,.ly 26 25 24,.ay 27 3 3 24,.ly 28 27 24,.by' 29 .eql 26 28 24,.e 30 24 29,.m 31 30,.ay 32 4 2 31,.ly 33 32 31,.ay 34 4 3 31,.ly 35 34 31,.by' 36 .eql 33 35 31,.e 37 31 36,.m 38 37,.ay 39 5 2 38,.ly 40 39 38,.ay 41 5 3 38,.ly 42 41 38,.by' 43 .eql 40 42 38,.e 44 38 43,.m 4 44]) (.ret [4]))))⟩:=by kernel_rfl
theorem F118:compF Tryz.prog 118=some ⟨73,[.tmp 4],(.g [.q 2 132 0,.q 3 132 1,.k 4 false] (.z [2,3] (.join [4] (.reg [.a 5 0 2,.l 6 5,.a 7 0 3,.l 8 7,.b 9 .eql 6 8,.m 10 9,.ay 11 1 2 10,.ly 12 11 10,.ay 13 1 3 10,.ly 14 13 10,.by' 15 .eql 12 14 10,.e 16 10 15,.m 17 16,.ay 18 2 2 17,.ly 19 18 17,.ay 20 2 3 17,.ly 21 20 17,.by' 22 .eql 19 21 17,.e 23 17 22,.m 24 23,.ay 25 3 2 24,.ly 26 25 24,.ay 27 3 3 24,.ly 28 27 24,.by' 29 .eql 26 28 24,.e 30 24 29,.m 31 30,.ay 32 4 2 31,.ly 33 32 31,.ay 34 4 3 31,.ly 35 34 31,.by' 36 .eql 33 35 31,.e 37 31 36,.m 38 37,.ay 39 5 2 38,.ly 40 39 38,.ay 41 5 3 38,.ly 42 41 38,.by' 43 .eql 40 42 38,.e 44 38 43,.m 45 44,.ay 46 6 2 45,.ly 47 46 45,.ay 48 6 3 45,.ly 49 48 45,.by' 50 .eql 47 49 45,.e 51 45 50,.m 52 51,.ay 53 7 2 52,.ly 54 53 52,.ay 55 7 3 52,.ly 56 55 52,.by' 57 .eql 54 56 52,.e 58 52 57,.m 59 58,.ay 60 8 2 59,.ly 61 60 59,.ay 62 8 3 59,.ly 63 62 59,.y 64 (.eqb false (.t 61) (.t 63)) 59,.e 65 59 64,.m 66 65,.ay 67 9 2 66,.ly 68 67 66,.ay 69 9 3 66,.ly 70 69 66,.y 71 (.f 193 [.t 68,.t 70]) 66,.e 72 66 71,.m 4 72]) (.ret [4]))))⟩:=by kernel_rfl
def B119_0:Cd:=(.join [0,1,5] (.g [.m 11 5,.m 12 0,.u 13 12,.b 14 .lss 11 13] (.i 14 .skip (.exit [] 0))) (.join [0,1,5] (.block 1 (.q (.dreg 9 [.m 17 0,.m 18 5,.r 19 1 17 18,.l 20 19,.m 21 1,.m 22 5,.r 23 1 21 22,.l 24 23,.b 25 .neq 20 24]) (.i 25 (.g [.k 4 false] (.ret [4])) .skip))) (.reg [.m 15 5,.v 16 .add 15 1,.m 5 16])))
theorem F119:compF Tryz.prog 119=some ⟨26,[.tmp 4],(.g [.k 4 false] (.join [0,1] (.g [.m 6 0,.u 7 6,.m 8 1,.u 9 8,.b 10 .neq 7 9] (.i 10 (.g [.k 4 false] (.ret [4])) .skip)) (.join [] (.g [.c 5 0] (.block 0 (.loop [0,1,5] [] B119_0))) (.g [.k 4 true] (.ret [4])))))⟩:=by kernel_rfl
def B120_0:Cd:=(.join [2,3,5] (.g [.m 68 5,.a 69 3 2,.l 70 69,.u 71 70,.b 72 .lss 68 71] (.i 72 .skip (.exit [] 0))) (.join [2,3,5] (.block 1 (.q (.dreg 11 [.a 75 3 2,.l 76 75,.m 77 5,.r 78 6 76 77,.d 79 6 78,.a 80 3 3,.l 81 80,.m 82 5,.r 83 6 81 82,.d 84 6 83,.s 85 (.eqs true [.i,.i,.i,.i,.i,.i] (.t 79) (.t 84))]) (.i 85 (.g [.k 4 false] (.ret [4])) .skip))) (.reg [.m 73 5,.v 74 .add 73 1,.m 5 74])))
theorem F120:compF Tryz.prog 120=some ⟨86,[.tmp 4],(.g [.q 2 41 0,.q 3 41 1,.k 4 false] (.z [2,3] (.join [2,3] (.join [2,3,52] (.reg [.a 6 0 2,.l 7 6,.a 8 0 3,.l 9 8,.b 10 .neq 7 9,.m 11 10,.ax 12 1 2 11,.lx 13 12 11,.ax 14 1 3 11,.lx 15 14 11,.bx 16 .neq 13 15 11,.o 17 11 16,.m 18 17,.ax 19 4 2 18,.lx 20 19 18,.ax 21 4 3 18,.lx 22 21 18,.x 23 (.eqb true (.t 20) (.t 22)) 18,.o 24 18 23,.m 25 24,.ax 26 5 2 25,.lx 27 26 25,.ax 28 5 3 25,.lx 29 28 25,.x 30 (.eqb true (.t 27) (.t 29)) 25,.o 31 25 30,.m 32 31,.ax 33 6 2 32,.lx 34 33 32,.ax 35 6 3 32,.lx 36 35 32,.bx 37 .neq 34 36 32,.o 38 32 37,.m 39 38,.ax 40 7 2 39,.lx 41 40 39,.ax 42 7 3 39,.lx 43 42 39,.bx 44 .neq 41 43 39,.o 45 39 44,.m 46 45,.ax 47 8 2 46,.lx 48 47 46,.ax 49 8 3 46,.lx 50 49 46,.bx 51 .neq 48 50 46,.o 52 46 51]) (.i 52 (.g [.k 4 false] (.ret [4])) .skip)) (.join [2,3] (.join [2,3,67] (.reg [.a 53 2 2,.l 54 53,.a 55 2 3,.l 56 55,.g' 57 194 54 56,.z 58 57,.m 59 58,.ax 60 3 2 59,.lx 61 60 59,.x 62 (.len (.t 61)) 59,.ax 63 3 3 59,.lx 64 63 59,.x 65 (.len (.t 64)) 59,.bx 66 .neq 62 65 59,.o 67 59 66]) (.i 67 (.g [.k 4 false] (.ret [4])) .skip)) (.join [] (.g [.c 5 0] (.block 0 (.loop [2,3,5] [] B120_0))) (.g [.k 4 true] (.ret [4])))))))⟩:=by kernel_rfl
def B121_0:Cd:=(.join [0,1,5] (.g [.m 11 5,.m 12 0,.u 13 12,.b 14 .lss 11 13] (.i 14 .skip (.exit [] 0))) (.join [0,1,5] (.block 1 (.q (.dreg 9 [.m 17 0,.m 18 5,.r 19 2 17 18,.d 20 2 19,.m 21 1,.m 22 5,.r 23 2 21 22,.d 24 2 23,.s 25 (.eqs true [.i,.i] (.t 20) (.t 24))]) (.i 25 (.g [.k 4 false] (.ret [4])) .skip))) (.reg [.m 15 5,.v 16 .add 15 1,.m 5 16])))
theorem F121:compF Tryz.prog 121=some ⟨26,[.tmp 4],(.g [.k 4 false] (.join [0,1] (.g [.m 6 0,.u 7 6,.m 8 1,.u 9 8,.b 10 .neq 7 9] (.i 10 (.g [.k 4 false] (.ret [4])) .skip)) (.join [] (.g [.c 5 0] (.block 0 (.loop [0,1,5] [] B121_0))) (.g [.k 4 true] (.ret [4])))))⟩:=by kernel_rfl
def B193_0:Cd:=(.join [0,1,5] (.g [.m 11 5,.m 12 0,.u 13 12,.b 14 .lss 11 13] (.i 14 .skip (.exit [] 0))) (.join [0,1,5] (.block 1 (.q (.dreg 9 [.m 17 0,.m 18 5,.r 19 3 17 18,.d 20 3 19,.m 21 1,.m 22 5,.r 23 3 21 22,.d 24 3 23,.s 25 (.eqs true [.s,.i,.i] (.t 20) (.t 24))]) (.i 25 (.g [.k 4 false] (.ret [4])) .skip))) (.reg [.m 15 5,.v 16 .add 15 1,.m 5 16])))
theorem F193:compF Tryz.prog 193=some ⟨26,[.tmp 4],(.g [.k 4 false] (.join [0,1] (.g [.m 6 0,.u 7 6,.m 8 1,.u 9 8,.b 10 .neq 7 9] (.i 10 (.g [.k 4 false] (.ret [4])) .skip)) (.join [] (.g [.c 5 0] (.block 0 (.loop [0,1,5] [] B193_0))) (.g [.k 4 true] (.ret [4])))))⟩:=by kernel_rfl
def B194_0:Cd:=(.join [0,1,5] (.g [.m 11 5,.m 12 0,.u 13 12,.b 14 .lss 11 13] (.i 14 .skip (.exit [] 0))) (.join [0,1,5] (.block 1 (.q (.dreg 9 [.m 17 0,.m 18 5,.r 19 5 17 18,.d 20 5 19,.m 21 1,.m 22 5,.r 23 5 21 22,.d 24 5 23,.s 25 (.eqs true [.i,.i,.i,.i,.i] (.t 20) (.t 24))]) (.i 25 (.g [.k 4 false] (.ret [4])) .skip))) (.reg [.m 15 5,.v 16 .add 15 1,.m 5 16])))
theorem F194:compF Tryz.prog 194=some ⟨26,[.tmp 4],(.g [.k 4 false] (.join [0,1] (.g [.m 6 0,.u 7 6,.m 8 1,.u 9 8,.b 10 .neq 7 9] (.i 10 (.g [.k 4 false] (.ret [4])) .skip)) (.join [] (.g [.c 5 0] (.block 0 (.loop [0,1,5] [] B194_0))) (.g [.k 4 true] (.ret [4])))))⟩:=by kernel_rfl
end Go.Proofs.YtmjkgajnpmiomaaGreatDoor

namespace Go.Proofs.YtmjkgajnpmiomaaGreatDoor
open Go.Sha
set_option maxRecDepth 100000
variable {g:List (Nat×Obj)}{n:Nat}
theorem L60 {l:List Pt}(hl:l.length<140737488355328):∀r j,(l).drop j=r→runL Tryz.prog HH [0,1,5] n B60_0 [(0,.sl (l.map Pt.v)),(1,.sl (l.map Pt.v)),(5,.int .i64 j)] (stN g n)=some (.exit 0,[],stN g n):=by
 refine drop_ind (fun j h=>?_) (fun q r j h hx hd ih=>?_)
 all_goals rw[runL_of B60_0.eq_1]
 ·have h1:¬(j:Int)<(l).length:=by omega
  push_cast[h1,Pt.v]
 ·have h1:(j:Int)<(l).length:=by omega
  have hw:=iw1 (j:=j) (by omega)
  push_cast[h,h1,hw,hx,Pt.v]at ih ⊢
  first|exact ih|simpa using ih
theorem f60 {l:List Pt}(hl:l.length<140737488355328){st:St}:run Tryz.prog HH 60 [.sl (l.map Pt.v),.sl (l.map Pt.v)] st=some (.ret (.bool true),st):=by
 have hL:=fun n=>L60 (g:=st.x.gl) (n:=n) hl l 0 rfl
 push_cast[Pt.v]at hL
 rw[run_shut F60 rfl rfl (by simp)]
 push_cast[Pt.v,hL]
theorem L25 {l:List Fixt}(hl:l.length<140737488355328):∀r j,(l).drop j=r→runL Tryz.prog HH [0,1,5] n B25_0 [(0,.sl (l.map Fixt.v)),(1,.sl (l.map Fixt.v)),(5,.int .i64 j)] (stN g n)=some (.exit 0,[],stN g n):=by
 refine drop_ind (fun j h=>?_) (fun q r j h hx hd ih=>?_)
 all_goals rw[runL_of B25_0.eq_1]
 ·have h1:¬(j:Int)<(l).length:=by omega
  push_cast[h1,Fixt.v]
 ·have h1:(j:Int)<(l).length:=by omega
  have hw:=iw1 (j:=j) (by omega)
  push_cast[h,h1,hw,hx,Fixt.v]at ih ⊢
  first|exact ih|simpa using ih
theorem f25 {l:List Fixt}(hl:l.length<140737488355328){st:St}:run Tryz.prog HH 25 [.sl (l.map Fixt.v),.sl (l.map Fixt.v)] st=some (.ret (.bool true),st):=by
 have hL:=fun n=>L25 (g:=st.x.gl) (n:=n) hl l 0 rfl
 push_cast[Fixt.v]at hL
 rw[run_shut F25 rfl rfl (by simp)]
 push_cast[Fixt.v,hL]
theorem L121 {l:List Pt}(hl:l.length<140737488355328):∀r j,(l).drop j=r→runL Tryz.prog HH [0,1,5] n B121_0 [(0,.sl (l.map Pt.v)),(1,.sl (l.map Pt.v)),(5,.int .i64 j)] (stN g n)=some (.exit 0,[],stN g n):=by
 refine drop_ind (fun j h=>?_) (fun q r j h hx hd ih=>?_)
 all_goals rw[runL_of B121_0.eq_1]
 ·have h1:¬(j:Int)<(l).length:=by omega
  push_cast[h1,Pt.v]
 ·have h1:(j:Int)<(l).length:=by omega
  have hw:=iw1 (j:=j) (by omega)
  push_cast[h,h1,hw,hx,Pt.v]at ih ⊢
  first|exact ih|simpa using ih
theorem f121 {l:List Pt}(hl:l.length<140737488355328){st:St}:run Tryz.prog HH 121 [.sl (l.map Pt.v),.sl (l.map Pt.v)] st=some (.ret (.bool true),st):=by
 have hL:=fun n=>L121 (g:=st.x.gl) (n:=n) hl l 0 rfl
 push_cast[Pt.v]at hL
 rw[run_shut F121 rfl rfl (by simp)]
 push_cast[Pt.v,hL]
theorem L193 {l:List Slt}(hl:l.length<140737488355328):∀r j,(l).drop j=r→runL Tryz.prog HH [0,1,5] n B193_0 [(0,.sl (l.map Slt.v)),(1,.sl (l.map Slt.v)),(5,.int .i64 j)] (stN g n)=some (.exit 0,[],stN g n):=by
 refine drop_ind (fun j h=>?_) (fun q r j h hx hd ih=>?_)
 all_goals rw[runL_of B193_0.eq_1]
 ·have h1:¬(j:Int)<(l).length:=by omega
  push_cast[h1,Slt.v]
 ·have h1:(j:Int)<(l).length:=by omega
  have hw:=iw1 (j:=j) (by omega)
  push_cast[h,h1,hw,hx,Slt.v]at ih ⊢
  first|exact ih|simpa using ih
theorem f193 {l:List Slt}(hl:l.length<140737488355328){st:St}:run Tryz.prog HH 193 [.sl (l.map Slt.v),.sl (l.map Slt.v)] st=some (.ret (.bool true),st):=by
 have hL:=fun n=>L193 (g:=st.x.gl) (n:=n) hl l 0 rfl
 push_cast[Slt.v]at hL
 rw[run_shut F193 rfl rfl (by simp)]
 push_cast[Slt.v,hL]
theorem L194 {l:List Mov}(hl:l.length<140737488355328):∀r j,(l).drop j=r→runL Tryz.prog HH [0,1,5] n B194_0 [(0,.sl (l.map Mov.v)),(1,.sl (l.map Mov.v)),(5,.int .i64 j)] (stN g n)=some (.exit 0,[],stN g n):=by
 refine drop_ind (fun j h=>?_) (fun q r j h hx hd ih=>?_)
 all_goals rw[runL_of B194_0.eq_1]
 ·have h1:¬(j:Int)<(l).length:=by omega
  push_cast[h1,Mov.v]
 ·have h1:(j:Int)<(l).length:=by omega
  have hw:=iw1 (j:=j) (by omega)
  push_cast[h,h1,hw,hx,Mov.v]at ih ⊢
  first|exact ih|simpa using ih
theorem f194 {l:List Mov}(hl:l.length<140737488355328){st:St}:run Tryz.prog HH 194 [.sl (l.map Mov.v),.sl (l.map Mov.v)] st=some (.ret (.bool true),st):=by
 have hL:=fun n=>L194 (g:=st.x.gl) (n:=n) hl l 0 rfl
 push_cast[Mov.v]at hL
 rw[run_shut F194 rfl rfl (by simp)]
 push_cast[Mov.v,hL]
theorem L119 {l:List Int}(hl:l.length<140737488355328):∀r j,(l).drop j=r→runL Tryz.prog HH [0,1,5] n B119_0 [(0,.sl (l.map (.int .i64))),(1,.sl (l.map (.int .i64))),(5,.int .i64 j)] (stN g n)=some (.exit 0,[],stN g n):=by
 refine drop_ind (fun j h=>?_) (fun q r j h hx hd ih=>?_)
 all_goals rw[runL_of B119_0.eq_1]
 ·have h1:¬(j:Int)<(l).length:=by omega
  push_cast[h1]
 ·have h1:(j:Int)<(l).length:=by omega
  have hw:=iw1 (j:=j) (by omega)
  push_cast[h,h1,hw,hx]at ih ⊢
  first|exact ih|simpa using ih
theorem f119 {l:List Int}(hl:l.length<140737488355328){st:St}:run Tryz.prog HH 119 [.sl (l.map (.int .i64)),.sl (l.map (.int .i64))] st=some (.ret (.bool true),st):=by
 have hL:=fun n=>L119 (g:=st.x.gl) (n:=n) hl l 0 rfl
 push_cast[hl]at hL
 rw[run_shut F119 rfl rfl (by simp)]
 push_cast[hl,hL]
theorem L23 {l:List (List Pt)}(hl:l.length<140737488355328)(hb:∀q∈l,q.length<140737488355328):∀r j,(l).drop j=r→runL Tryz.prog HH [0,1,5] n B23_0 [(0,.sl (l.map Pt.vs)),(1,.sl (l.map Pt.vs)),(5,.int .i64 j)] (stN g n)=some (.exit 0,[],stN g n):=by
 refine drop_ind (fun j h=>?_) (fun q r j h hx hd ih=>?_)
 all_goals rw[runL_of B23_0.eq_1]
 ·have h1:¬(j:Int)<(l).length:=by omega
  push_cast[h1,Pt.vs]
 ·have h1:(j:Int)<(l).length:=by omega
  have hw:=iw1 (j:=j) (by omega)
  have hf:=fun(st:St)=>f60 (hb q (mem_at hd)) (st:=st)
  push_cast[Pt.vs]at hf
  push_cast[h,h1,hw,hx,Pt.vs,hf]at ih ⊢
  first|exact ih|simpa using ih
theorem f23 {l:List (List Pt)}(hl:l.length<140737488355328)(hb:∀q∈l,q.length<140737488355328){st:St}:run Tryz.prog HH 23 [.sl (l.map Pt.vs),.sl (l.map Pt.vs)] st=some (.ret (.bool true),st):=by
 have hL:=fun n=>L23 (g:=st.x.gl) (n:=n) hl hb l 0 rfl
 push_cast[Pt.vs]at hL
 rw[run_shut F23 rfl rfl (by simp)]
 push_cast[Pt.vs,hL]
theorem f118 {x:Ftr}(hb:x.wheel.length<140737488355328){st:St}:run Tryz.prog HH 118 [x.v,x.v] st=some (.ret (.bool true),st):=by
 have hf:=fun(st:St)=>f193 hb (st:=st)
 push_cast[Slt.v]at hf
 rw[run_shut F118 rfl rfl (by simp)]
 push_cast[Ftr.v,hf]
theorem L61 {x:Prof}(hl:x.feats.length<140737488355328)(hb:∀q∈x.feats,q.wheel.length<140737488355328):∀r j,(x.feats).drop j=r→runL Tryz.prog HH [2,3,5] n B61_0 [(2,.ep x.v 0),(3,.ep x.v 0),(5,.int .i64 j)] (stN g n)=some (.exit 0,[],stN g n):=by
 refine drop_ind (fun j h=>?_) (fun q r j h hx hd ih=>?_)
 all_goals rw[runL_of B61_0.eq_1]
 ·have h1:¬(j:Int)<(x.feats).length:=by omega
  push_cast[h1,Prof.v,Ftr.v]
 ·have h1:(j:Int)<(x.feats).length:=by omega
  have hw:=iw1 (j:=j) (by omega)
  have hf:=fun(st:St)=>f118 (hb q (mem_at hd)) (st:=st)
  push_cast[Ftr.v]at hf
  push_cast[h,h1,hw,hx,Prof.v,Ftr.v,hf]at ih ⊢
  first|exact ih|simpa using ih
theorem f61 {x:Prof}(hl:x.feats.length<140737488355328)(hb:∀q∈x.feats,q.wheel.length<140737488355328){st:St}:run Tryz.prog HH 61 [x.v,x.v] st=some (.ret (.bool true),st):=by
 have hL:=fun n=>L61 (g:=st.x.gl) (n:=n) hl hb x.feats 0 rfl
 push_cast[Prof.v]at hL
 rw[run_shut F61 rfl rfl (by simp)]
 push_cast[Prof.v,hL]
theorem L24 {l:List Prof}(hl:l.length<140737488355328)(hb:∀q∈l,q.feats.length<140737488355328∧∀z∈q.feats,z.wheel.length<140737488355328):∀r j,(l).drop j=r→runL Tryz.prog HH [0,1,5] n B24_0 [(0,.sl (l.map Prof.v)),(1,.sl (l.map Prof.v)),(5,.int .i64 j)] (stN g n)=some (.exit 0,[],stN g n):=by
 refine drop_ind (fun j h=>?_) (fun q r j h hx hd ih=>?_)
 all_goals rw[runL_of B24_0.eq_1]
 ·have h1:¬(j:Int)<(l).length:=by omega
  push_cast[h1,Prof.v]
 ·have h1:(j:Int)<(l).length:=by omega
  have hw:=iw1 (j:=j) (by omega)
  have hf:=fun(st:St)=>f61 (hb q (mem_at hd)).1 (hb q (mem_at hd)).2 (st:=st)
  push_cast[Prof.v]at hf
  push_cast[h,h1,hw,hx,Prof.v,hf]at ih ⊢
  first|exact ih|simpa using ih
theorem f24 {l:List Prof}(hl:l.length<140737488355328)(hb:∀q∈l,q.feats.length<140737488355328∧∀z∈q.feats,z.wheel.length<140737488355328){st:St}:run Tryz.prog HH 24 [.sl (l.map Prof.v),.sl (l.map Prof.v)] st=some (.ret (.bool true),st):=by
 have hL:=fun n=>L24 (g:=st.x.gl) (n:=n) hl hb l 0 rfl
 push_cast[Prof.v]at hL
 rw[run_shut F24 rfl rfl (by simp)]
 push_cast[Prof.v,hL]
theorem f62 {x:Grp}(hb:x.chans.length<140737488355328){st:St}:run Tryz.prog HH 62 [x.v,x.v] st=some (.ret (.bool true),st):=by
 have hf:=fun(st:St)=>f119 hb (st:=st)
 rw[run_shut F62 rfl rfl (by simp)]
 push_cast[Grp.v,hf]
theorem L26 {l:List Grp}(hl:l.length<140737488355328)(hb:∀q∈l,q.chans.length<140737488355328):∀r j,(l).drop j=r→runL Tryz.prog HH [0,1,5] n B26_0 [(0,.sl (l.map Grp.v)),(1,.sl (l.map Grp.v)),(5,.int .i64 j)] (stN g n)=some (.exit 0,[],stN g n):=by
 refine drop_ind (fun j h=>?_) (fun q r j h hx hd ih=>?_)
 all_goals rw[runL_of B26_0.eq_1]
 ·have h1:¬(j:Int)<(l).length:=by omega
  push_cast[h1,Grp.v]
 ·have h1:(j:Int)<(l).length:=by omega
  have hw:=iw1 (j:=j) (by omega)
  have hf:=fun(st:St)=>f62 (hb q (mem_at hd)) (st:=st)
  push_cast[Grp.v]at hf
  push_cast[h,h1,hw,hx,Grp.v,hf]at ih ⊢
  first|exact ih|simpa using ih
theorem f26 {l:List Grp}(hl:l.length<140737488355328)(hb:∀q∈l,q.chans.length<140737488355328){st:St}:run Tryz.prog HH 26 [.sl (l.map Grp.v),.sl (l.map Grp.v)] st=some (.ret (.bool true),st):=by
 have hL:=fun n=>L26 (g:=st.x.gl) (n:=n) hl hb l 0 rfl
 push_cast[Grp.v]at hL
 rw[run_shut F26 rfl rfl (by simp)]
 push_cast[Grp.v,hL]
theorem L120 {x:Cu}(hl:x.parts.length<140737488355328):∀r j,(x.parts).drop j=r→runL Tryz.prog HH [2,3,5] n B120_0 [(2,.ep x.v 0),(3,.ep x.v 0),(5,.int .i64 j)] (stN g n)=some (.exit 0,[],stN g n):=by
 refine drop_ind (fun j h=>?_) (fun q r j h hx hd ih=>?_)
 all_goals rw[runL_of B120_0.eq_1]
 ·have h1:¬(j:Int)<(x.parts).length:=by omega
  push_cast[h1,Cu.v,Tim.v]
 ·have h1:(j:Int)<(x.parts).length:=by omega
  have hw:=iw1 (j:=j) (by omega)
  push_cast[h,h1,hw,hx,Cu.v,Tim.v]at ih ⊢
  first|exact ih|simpa using ih
theorem f120 {x:Cu}(hm:x.moves.length<140737488355328)(hl:x.parts.length<140737488355328){st:St}:run Tryz.prog HH 120 [x.v,x.v] st=some (.ret (.bool true),st):=by
 have hf:=fun(st:St)=>f194 hm (st:=st)
 push_cast[Mov.v]at hf
 have hL:=fun n=>L120 (g:=st.x.gl) (n:=n) hl x.parts 0 rfl
 push_cast[Cu.v,hf]at hL
 rw[run_shut F120 rfl rfl (by simp)]
 push_cast[Cu.v,hf,hL]
theorem L63 {x:Lst}(hl:x.cues.length<140737488355328)(hb:∀q∈x.cues,q.ok):∀r j,(x.cues).drop j=r→runL Tryz.prog HH [2,3,5] n B63_0 [(2,.ep x.v 0),(3,.ep x.v 0),(5,.int .i64 j)] (stN g n)=some (.exit 0,[],stN g n):=by
 refine drop_ind (fun j h=>?_) (fun q r j h hx hd ih=>?_)
 all_goals rw[runL_of B63_0.eq_1]
 ·have h1:¬(j:Int)<(x.cues).length:=by omega
  push_cast[h1,Lst.v,Cu.v]
 ·have h1:(j:Int)<(x.cues).length:=by omega
  have hw:=iw1 (j:=j) (by omega)
  have hf:=fun(st:St)=>f120 (hb q (mem_at hd)).c (hb q (mem_at hd)).d (st:=st)
  push_cast[Cu.v]at hf
  push_cast[h,h1,hw,hx,Lst.v,Cu.v,hf]at ih ⊢
  first|exact ih|simpa using ih
theorem f63 {x:Lst}(hl:x.cues.length<140737488355328)(hb:∀q∈x.cues,q.ok){st:St}:run Tryz.prog HH 63 [x.v,x.v] st=some (.ret (.bool true),st):=by
 have hL:=fun n=>L63 (g:=st.x.gl) (n:=n) hl hb x.cues 0 rfl
 push_cast[Lst.v]at hL
 rw[run_shut F63 rfl rfl (by simp)]
 push_cast[Lst.v,hL]
theorem L28 {l:List Lst}(hl:l.length<140737488355328)(hb:∀q∈l,q.ok):∀r j,(l).drop j=r→runL Tryz.prog HH [0,1,5] n B28_0 [(0,.sl (l.map Lst.v)),(1,.sl (l.map Lst.v)),(5,.int .i64 j)] (stN g n)=some (.exit 0,[],stN g n):=by
 refine drop_ind (fun j h=>?_) (fun q r j h hx hd ih=>?_)
 all_goals rw[runL_of B28_0.eq_1]
 ·have h1:¬(j:Int)<(l).length:=by omega
  push_cast[h1,Lst.v]
 ·have h1:(j:Int)<(l).length:=by omega
  have hw:=iw1 (j:=j) (by omega)
  have hf:=fun(st:St)=>f63 (hb q (mem_at hd)).a (hb q (mem_at hd)).b (st:=st)
  push_cast[Lst.v]at hf
  push_cast[h,h1,hw,hx,Lst.v,hf]at ih ⊢
  first|exact ih|simpa using ih
theorem f28 {l:List Lst}(hl:l.length<140737488355328)(hb:∀q∈l,q.ok){st:St}:run Tryz.prog HH 28 [.sl (l.map Lst.v),.sl (l.map Lst.v)] st=some (.ret (.bool true),st):=by
 have hL:=fun n=>L28 (g:=st.x.gl) (n:=n) hl hb l 0 rfl
 push_cast[Lst.v]at hL
 rw[run_shut F28 rfl rfl (by simp)]
 push_cast[Lst.v,hL]
theorem L64 {x:Sb}(hl:x.gains.length<140737488355328):∀r j,(x.gains).drop j=r→runL Tryz.prog HH [2,3,5] n B64_0 [(2,.ep x.v 0),(3,.ep x.v 0),(5,.int .i64 j)] (stN g n)=some (.exit 0,[],stN g n):=by
 refine drop_ind (fun j h=>?_) (fun q r j h hx hd ih=>?_)
 all_goals rw[runL_of B64_0.eq_1]
 ·have h1:¬(j:Int)<(x.gains).length:=by omega
  push_cast[h1,Sb.v,Gan.v]
 ·have h1:(j:Int)<(x.gains).length:=by omega
  have hw:=iw1 (j:=j) (by omega)
  push_cast[h,h1,hw,hx,Sb.v,Gan.v]at ih ⊢
  first|exact ih|simpa using ih
theorem f64 {x:Sb}(hl:x.gains.length<140737488355328){st:St}:run Tryz.prog HH 64 [x.v,x.v] st=some (.ret (.bool true),st):=by
 have hL:=fun n=>L64 (g:=st.x.gl) (n:=n) hl x.gains 0 rfl
 push_cast[Sb.v]at hL
 rw[run_shut F64 rfl rfl (by simp)]
 push_cast[Sb.v,hL]
theorem L29 {l:List Sb}(hl:l.length<140737488355328)(hb:∀q∈l,q.gains.length<140737488355328):∀r j,(l).drop j=r→runL Tryz.prog HH [0,1,5] n B29_0 [(0,.sl (l.map Sb.v)),(1,.sl (l.map Sb.v)),(5,.int .i64 j)] (stN g n)=some (.exit 0,[],stN g n):=by
 refine drop_ind (fun j h=>?_) (fun q r j h hx hd ih=>?_)
 all_goals rw[runL_of B29_0.eq_1]
 ·have h1:¬(j:Int)<(l).length:=by omega
  push_cast[h1,Sb.v]
 ·have h1:(j:Int)<(l).length:=by omega
  have hw:=iw1 (j:=j) (by omega)
  have hf:=fun(st:St)=>f64 (hb q (mem_at hd)) (st:=st)
  push_cast[Sb.v]at hf
  push_cast[h,h1,hw,hx,Sb.v,hf]at ih ⊢
  first|exact ih|simpa using ih
theorem f29 {l:List Sb}(hl:l.length<140737488355328)(hb:∀q∈l,q.gains.length<140737488355328){st:St}:run Tryz.prog HH 29 [.sl (l.map Sb.v),.sl (l.map Sb.v)] st=some (.ret (.bool true),st):=by
 have hL:=fun n=>L29 (g:=st.x.gl) (n:=n) hl hb l 0 rfl
 push_cast[Sb.v]at hL
 rw[run_shut F29 rfl rfl (by simp)]
 push_cast[Sb.v,hL]
theorem f65 {x:Eff}(hb:x.wave.length<140737488355328){st:St}:run Tryz.prog HH 65 [x.v,x.v] st=some (.ret (.bool true),st):=by
 have hf:=fun(st:St)=>f121 hb (st:=st)
 push_cast[Pt.v]at hf
 rw[run_shut F65 rfl rfl (by simp)]
 push_cast[Eff.v,hf,beq_self_eq_true]
theorem L30 {l:List Eff}(hl:l.length<140737488355328)(hb:∀q∈l,q.wave.length<140737488355328):∀r j,(l).drop j=r→runL Tryz.prog HH [0,1,5] n B30_0 [(0,.sl (l.map Eff.v)),(1,.sl (l.map Eff.v)),(5,.int .i64 j)] (stN g n)=some (.exit 0,[],stN g n):=by
 refine drop_ind (fun j h=>?_) (fun q r j h hx hd ih=>?_)
 all_goals rw[runL_of B30_0.eq_1]
 ·have h1:¬(j:Int)<(l).length:=by omega
  push_cast[h1,Eff.v]
 ·have h1:(j:Int)<(l).length:=by omega
  have hw:=iw1 (j:=j) (by omega)
  have hf:=fun(st:St)=>f65 (hb q (mem_at hd)) (st:=st)
  push_cast[Eff.v]at hf
  push_cast[h,h1,hw,hx,Eff.v,hf]at ih ⊢
  first|exact ih|simpa using ih
theorem f30 {l:List Eff}(hl:l.length<140737488355328)(hb:∀q∈l,q.wave.length<140737488355328){st:St}:run Tryz.prog HH 30 [.sl (l.map Eff.v),.sl (l.map Eff.v)] st=some (.ret (.bool true),st):=by
 have hL:=fun n=>L30 (g:=st.x.gl) (n:=n) hl hb l 0 rfl
 push_cast[Eff.v]at hL
 rw[run_shut F30 rfl rfl (by simp)]
 push_cast[Eff.v,hL]
theorem L27_0 {l:List Pal}{i:Nat}{x:Pal}(hi:l[i]?=some x)(hb:x.hues.length<140737488355328):∀r j,x.hues.drop j=r→runL Tryz.prog HH [0,1,5,6] n B27_0 [(0,.sl (l.map Pal.v)),(1,.sl (l.map Pal.v)),(5,.int .i64 i),(6,.int .i64 j)] (stN g n)=some (.exit 2,[(0,.sl (l.map Pal.v)),(1,.sl (l.map Pal.v)),(5,.int .i64 i)],stN g n):=by
 have hil:i<l.length:=(List.getElem?_eq_some_iff.1 hi).1
 have hi2:(i:Int)<l.length:=by omega
 have hiD:l.getD i default=x:=by rw[List.getD_eq_getElem?_getD,hi];rfl
 refine drop_ind (fun j h=>?_) (fun q r j h hx hd ih=>?_)
 all_goals rw[runL_of B27_0.eq_1]
 ·have h1:¬(j:Int)<x.hues.length:=by omega
  push_cast[h1,hil,hi2,hi,hiD,Pal.v]
 ·have h1:(j:Int)<x.hues.length:=by omega
  have hw:=iw1 (j:=j) (by omega)
  push_cast[h,h1,hw,hx,hil,hi2,hi,hiD,Pal.v,Hue.v]at ih ⊢
  first|exact ih|simpa using ih
theorem L27_1 {l:List Pal}(hl:l.length<140737488355328)(hb:∀q∈l,q.hues.length<140737488355328):∀r j,l.drop j=r→runL Tryz.prog HH [0,1,5] n B27_1 [(0,.sl (l.map Pal.v)),(1,.sl (l.map Pal.v)),(5,.int .i64 j)] (stN g n)=some (.exit 0,[],stN g n):=by
 refine drop_ind (fun j h=>?_) (fun q r j h hx hd ih=>?_)
 all_goals rw[runL_of B27_1.eq_1]
 ·have h1:¬(j:Int)<l.length:=by omega
  push_cast[h1,Pal.v]
 ·have h1:(j:Int)<l.length:=by omega
  have hw:=iw1 (j:=j) (by omega)
  have hg:l[j]?=some q:=by rw[←List.head?_drop,hd];rfl
  have hL:=L27_0 (g:=g) (n:=n) hg (hb q (mem_at hd)) _ 0 rfl
  push_cast[Pal.v]at hL
  push_cast[h,h1,hw,hx,hL,Pal.v]at ih ⊢
  first|exact ih|simpa using ih
theorem f27 {l:List Pal}(hl:l.length<140737488355328)(hb:∀q∈l,q.hues.length<140737488355328){st:St}:run Tryz.prog HH 27 [.sl (l.map Pal.v),.sl (l.map Pal.v)] st=some (.ret (.bool true),st):=by
 have hL:=fun n=>L27_1 (g:=st.x.gl) (n:=n) hl hb l 0 rfl
 push_cast[Pal.v]at hL
 rw[run_shut F27 rfl rfl (by simp)]
 push_cast[Pal.v,hL]
theorem f9 {s:Sho}(h:s.ok){st:St}:run Tryz.prog HH 9 [s.v,s.v] st=some (.ret (.bool true),st):=by
 have h1:=fun(st:St)=>f23 h.c.1 h.c.2 (st:=st)
 have h2:=fun(st:St)=>f24 h.p.1 (fun q hq=>⟨(h.p.2.1 q hq).a,(h.p.2.1 q hq).b⟩) (st:=st)
 have h3:=fun(st:St)=>f25 h.f.1 (st:=st)
 have h4:=fun(st:St)=>f26 h.g.1 h.g.2 (st:=st)
 have h5:=fun(st:St)=>f27 h.l.1 h.l.2 (st:=st)
 have h6:=fun(st:St)=>f28 h.k.1 h.k.2 (st:=st)
 have h7:=fun(st:St)=>f29 h.s.1 h.s.2 (st:=st)
 have h8:=fun(st:St)=>f30 h.e.1 h.e.2 (st:=st)
 rw[run_shut F9 rfl rfl (by simp)]
 push_cast[Sho.v,h1,h2,h3,h4,h5,h6,h7,h8]
end Go.Proofs.YtmjkgajnpmiomaaGreatDoor

namespace Go.Proofs.YtmjkgajnpmiomaaGreatDoor
open Go.Sha
set_option maxRecDepth 10000
def B3_0:Cd:=(.g [.b 38 .lss 37 36] (.join [2,5,6,7,35,36,37] (.i 38 .skip (.exit [2,5,6,7] 0)) (.join [2,5,6,7,35,36,37] (.block 1 (.g [.r 39 35 35 37,.d 40 35 39,.s 9 (.alloc 57 [.i 0,.i 0,.i 0,.i 0,(.str []),(.str []),(.str []),.nils,.nils,(.bool false),(.bool false),.i 0,(.str []),.i 0,.i 0,.nils,.i 0,.nils,.i 0,.i 0,(.bool false),.nils,.i 0,.i 0,.nils,.i 0,.i 0,.i 0,.i 0,.i 0,(.str []),.i 0,.i 0,.i 0,(.str [])]),.w 35 9 40] (.z [9] (.join [2,5,6,7,9,35,36,37] (.g [.d 41 35 9,.f 42 6 41,.z 43 42] (.i 43 (.g [.k 4 true] (.ret [4])) .skip)) (.g [.d 45 11 5,.d 46 35 9,.g' 47 7 45 46,.m 44 47,.j 48 0 44,.j 49 1 44,.s 10 (.alloc 37 [.nils,(.str []),.nils,.nils,.nils,.nils,.nils,.nils,.nils,.nils,.nils]),.w 11 10 48,.m 11 49] (.z [10] (.g [.m 50 11,.v 51 .eql 50 0] (.i 51 (.greg [] [55,60] [[],[],[],[],[false,false,false,true],[true],[true],[true],[true],[false,false,false,false,false,false,false,false,true],[false,false,false,false,false,false,false,false,false,false],[],[]] [.d 52 11 10,.m 53 6,.d 54 35 9,.s 55 (.bslice 57 35 [.t 54]),.s 56 (.append 57 35 416 (.t 53) (.t 55)),.m 57 7,.a 58 1 10,.d 59 9 58,.s 60 (.bslice 31 9 [.t 59]),.s 61 (.append 31 9 208 (.t 57) (.t 60)),.w 11 5 52,.m 6 56,.m 7 61]) .skip)))))))) (.reg [.v 62 .add 37 1,.m 37 62]))))
def B3_1:Cd:=(.join [5,7,13,15] (.g [.m 94 15,.v 95 .geq 94 0] (.i 95 .skip (.exit [5,7,13] 2))) (.join [5,7,13,15] (.block 3 (.g [.d 99 11 5,.f 100 10 99,.m 98 100,.j 101 0 98,.j 102 1 98,.s 16 (.alloc 37 [.nils,(.str []),.nils,.nils,.nils,.nils,.nils,.nils,.nils,.nils,.nils]),.w 11 16 101,.m 17 102] (.z [16] (.join [5,7,13,15,16] (.join [5,7,13,15,16,114] (.dreg 12 [.m 103 17,.v 104 .neq 103 0,.m 105 104,.ax 106 1 16 105,.x 107 (.load (some 9) (.t 106)) 105,.mx 108 7 105,.mx 109 15 105,.x 110 (.iadr 9 (.t 108) (.t 109)) 105,.x 111 (.load (some 9) (.t 110)) 105,.x 112 (.f 9 [.t 107,.t 111]) 105,.x 113 (.un .not (.t 112)) 105,.o 114 105 113]) (.i 114 (.g [.k 4 false] (.ret [4])) .skip)) (.reg [.d 115 11 16,.w 11 5 115]))))) (.reg [.m 96 15,.v 97 .sub 96 1,.m 15 97])))
def B3_2:Cd:=(.g [.b 118 .lss 117 116] (.join [5,7,116,117] (.i 118 .skip (.exit [5] 4)) (.join [5,7,116,117] (.block 5 (.g [.m 119 117,.m 18 119] (.g [.d 121 11 5,.f 122 11 121,.m 120 122,.j 123 0 120,.j 124 1 120,.s 19 (.alloc 37 [.nils,(.str []),.nils,.nils,.nils,.nils,.nils,.nils,.nils,.nils,.nils]),.w 11 19 123,.m 20 124] (.z [19] (.join [5,7,19,116,117] (.join [5,7,19,116,117,137] (.dreg 13 [.m 125 20,.v 126 .neq 125 0,.m 127 126,.ax 128 1 19 127,.x 129 (.load (some 9) (.t 128)) 127,.mx 130 7 127,.mx 131 18 127,.vx 132 .add 131 1 127,.x 133 (.iadr 9 (.t 130) (.t 132)) 127,.x 134 (.load (some 9) (.t 133)) 127,.x 135 (.f 9 [.t 129,.t 134]) 127,.x 136 (.un .not (.t 135)) 127,.o 137 127 136]) (.i 137 (.g [.k 4 false] (.ret [4])) .skip)) (.reg [.d 138 11 19,.w 11 5 138])))))) (.reg [.v 139 .add 117 1,.m 117 139]))))
theorem F3:compF Tryz.prog 3=some ⟨147,[.tmp 4],(.g [.q 2 31 0,.k 4 false] (.z [2] (.join [1,2] (.g [.s 21 (.f 4 []),.z 22 21] (.i 22 (.g [.k 4 false] (.ret [4])) .skip)) (.join [1,2] (.join [1,2,30] (.reg [.d 23 9 2,.f 24 5 23,.z 25 24,.m 26 25,.mx 27 1 26,.x 28 (.len (.t 27)) 26,.vx 29 .gtr 28 6 26,.o 30 26 29]) (.i 30 (.g [.k 4 true] (.ret [4])) .skip)) (.g [.d 31 9 2,.s 32 (.build [.nils,(.str []),.nils,.nils,.nils,.nils,.nils,.nils,.nils,.nils,.nils] [(1,9,(.t 31))]),.s 5 (.alloc 37 [.nils,(.str []),.nils,.nils,.nils,.nils,.nils,.nils,.nils,.nils,.nils]),.w 11 5 32] (.g [.s 6 (.mv (.c .nils))] (.g [.d 33 9 2,.s 34 (.bslice 31 9 [.t 33]),.m 7 34] (.join [2,5,6,7] (.g [.m 35 1,.u 36 35,.c 37 0] (.block 0 (.loop [2,5,6,7,35,36,37] [(6,(57,35)),(7,(31,9))] B3_0))) (.g [.d 64 9 2,.m 65 6,.g' 66 8 64 65,.m 63 66,.j 67 0 63,.j 68 1 63,.j 69 2 63,.s 12 (.alloc 31 [(.str []),.nils,.nils,.nils,.nils,.nils,.nils,.nils,.nils]),.w 9 12 67,.m 13 68,.m 14 69] (.z [12] (.join [5,7,13] (.join [5,7,13,91] (.reg [.m 70 14,.v 71 .neq 70 0,.m 72 71,.mx 73 13 72,.mx 74 6 72,.x 75 (.len (.t 74)) 72,.bx 76 .neq 73 75 72,.o 77 72 76,.m 78 77,.x 79 (.load (some 9) (.t 12)) 78,.ax 80 1 5 78,.x 81 (.load (some 9) (.t 80)) 78,.x 82 (.f 9 [.t 79,.t 81]) 78,.x 83 (.un .not (.t 82)) 78,.o 84 78 83,.m 85 84,.ax 86 0 5 85,.lx 87 86 85,.x 88 (.len (.t 87)) 85,.mx 89 13 85,.bx 90 .neq 88 89 85,.o 91 85 90]) (.i 91 (.g [.k 4 false] (.ret [4])) .skip)) (.join [5,7,13] (.g [.m 92 13,.v 93 .sub 92 1,.m 15 93] (.block 2 (.loop [5,7,13,15] [] B3_1))) (.join [5] (.g [.m 116 13,.c 117 0] (.block 4 (.loop [5,7,116,117] [] B3_2))) (.g [.d 141 11 5,.f 142 11 141,.m 140 142,.j 143 0 140,.j 144 1 140,.m 14 144] (.g [.m 145 14,.v 146 .eql 145 12,.m 4 146] (.ret [4]))))))))))))))))⟩:=by kernel_rfl
theorem F6:compF Tryz.prog 6=some ⟨57,[.tmp 2],(.g [.q 1 57 0,.k 2 false] (.z [1] (.join [2] (.reg [.a 3 5 1,.d 4 9 3,.f 5 14 4,.m 6 5,.ay 7 5 1 6,.ay 8 2 7 6,.ly 9 8 6,.y 10 (.len (.t 9)) 6,.vy 11 .leq 10 20 6,.e 12 6 11,.m 13 12,.ay 14 14 1 13,.y 15 (.load (some 2) (.t 14)) 13,.y 16 (.bslice 44 2 [.t 15]) 13,.y 17 (.f 15 [.t 16]) 13,.e 18 13 17,.m 19 18,.ay 20 16 1 19,.y 21 (.load (some 2) (.t 20)) 19,.y 22 (.bslice 47 2 [.t 21]) 19,.y 23 (.f 16 [.t 22]) 19,.e 24 19 23,.m 25 24,.ay 26 18 1 25,.y 27 (.load (some 4) (.t 26)) 25,.y 28 (.bslice 50 4 [.t 27]) 25,.y 29 (.f 17 [.t 28]) 25,.e 30 25 29,.m 31 30,.ay 32 22 1 31,.y 33 (.load (some 6) (.t 32)) 31,.y 34 (.bslice 53 6 [.t 33]) 31,.y 35 (.f 18 [.t 34,(.c .nils)]) 31,.e 36 31 35,.m 37 36,.ay 38 4 1 37,.ly 39 38 37,.y 40 (.lens (.t 39)) 37,.vy 41 .leq 40 200 37,.e 42 37 41,.m 43 42,.ay 44 28 1 43,.ay 45 2 44 43,.ly 46 45 43,.y 47 (.lens (.t 46)) 43,.vy 48 .leq 47 100 43,.e 49 43 48,.m 50 49,.ay 51 28 1 50,.ay 52 6 51 50,.ly 53 52 50,.y 54 (.lens (.t 53)) 50,.vy 55 .leq 54 100 50,.e 56 50 55,.m 2 56]) (.ret [2]))))⟩:=by kernel_rfl
def B8_0:Cd:=(.g [.b 25 .lss 24 23] (.join [1,2,4,22,23,24] (.i 25 .skip (.exit [1,2,4] 0)) (.join [1,2,4,22,23,24] (.block 1 (.g [.m 26 24,.r 27 35 22 24,.d 28 35 27,.s 9 (.alloc 57 [.i 0,.i 0,.i 0,.i 0,(.str []),(.str []),(.str []),.nils,.nils,(.bool false),(.bool false),.i 0,(.str []),.i 0,.i 0,.nils,.i 0,.nils,.i 0,.i 0,(.bool false),.nils,.i 0,.i 0,.nils,.i 0,.i 0,.i 0,.i 0,.i 0,(.str []),.i 0,.i 0,.i 0,(.str [])]),.m 8 26,.w 35 9 28] (.z [9] (.g [.d 30 9 2,.d 31 35 9,.g' 32 22 30 31,.m 29 32,.j 33 0 29,.j 34 1 29,.s 10 (.alloc 31 [(.str []),.nils,.nils,.nils,.nils,.nils,.nils,.nils,.nils]),.w 9 10 33,.m 11 34] (.z [10] (.join [1,2,4,10,22,23,24] (.g [.m 35 11,.v 36 .neq 35 0] (.i 36 (.g [.d 37 9 2,.m 38 8,.m 39 11,.w 9 4 37,.m 5 38,.m 6 39] (.ret [4,5,6])) .skip)) (.reg [.d 40 9 10,.w 9 2 40]))))))) (.reg [.v 41 .add 24 1,.m 24 41]))))
theorem F8:compF Tryz.prog 8=some ⟨45,[.cell 4 (some 9),.tmp 5,.tmp 6],(.g [.q 2 31 0,.s 4 (.alloc 31 [(.str []),.nils,.nils,.nils,.nils,.nils,.nils,.nils,.nils]),.c 5 0,.c 6 0] (.join [1,2,4] (.g [.d 12 9 2,.f 13 21 12,.m 7 13] (.g [.m 14 7,.v 15 .neq 14 0] (.i 15 (.g [.s 16 (.build [(.str []),.nils,.nils,.nils,.nils,.nils,.nils,.nils,.nils] []),.m 17 7,.w 9 4 16,.c 5 0,.m 6 17] (.ret [4,5,6])) .skip))) (.join [1,2,4] (.g [.m 18 1,.u 19 18,.v 20 .gtr 19 256] (.i 20 (.g [.s 21 (.build [(.str []),.nils,.nils,.nils,.nils,.nils,.nils,.nils,.nils] []),.w 9 4 21,.c 5 0,.c 6 5] (.ret [4,5,6])) .skip)) (.join [1,2,4] (.g [.m 22 1,.u 23 22,.c 24 0] (.block 0 (.loop [1,2,4,22,23,24] [] B8_0))) (.g [.d 42 9 2,.m 43 1,.u 44 43,.w 9 4 42,.m 5 44,.c 6 0] (.ret [4,5,6]))))))⟩:=by kernel_rfl
end Go.Proofs.YtmjkgajnpmiomaaGreatDoor

namespace Go.Proofs.YtmjkgajnpmiomaaGreatDoor
open Go.Sha
set_option maxRecDepth 100000
variable {g:List (Nat×Obj)}{n:Nat}
theorem f6 {e:Edi}:∃b,∀st,run Tryz.prog HH 6 [e.v] st=some (.ret (.bool b),st):=by
 have h1:=fun(st:St)=>f14 (x:=e.cue) (st:=st)
 obtain⟨b2,h2⟩:=f15 (l:=[e.pal]) (by simp)
 obtain⟨b3,h3⟩:=f16 (l:=[e.grp]) (by simp)
 obtain⟨b4,h4⟩:=f17 (l:=[e.sub]) (by simp)
 obtain⟨b5,h5⟩:=f18 (l:=[e.eff])
 generalize few129 e.cue=b1 at h1
 push_cast[Cu.v,Pal.v,Grp.v,Sb.v,Eff.v,List.map_cons,List.map_nil]at h1 h2 h3 h4 h5
 apply Exists.intro
 intro st
 rw[run_shut F6 rfl rfl (by simp)]
 push_cast[Edi.v,h1,h2,h3,h4,h5]
 exact rfl
theorem f35n {x:Lst}(h:x.ok)(h0:lstR x=0)(hl:10<x.cues.length){st:St}:run Tryz.prog HH 35 [x.v] st=some (.ret (.bool false),st):=by
 obtain⟨b,hb⟩:=f67 h.a
 have h91:=fun(st:St)=>f68 (st:=st) h
 have hL:=fun g n=>L35 (g:=g) (n:=n) h x.cues 0 rfl 0
 have h10:(10:Int)<x.cues.length:=by omega
 have h2:(lstR x != 0)=false:=by simp[h0]
 rw[h2]at hL
 rw[h0]at h91
 cases hc:add52 x.cues 0 with
 |none =>
  rw[hc]at hL
  push_cast[Lst.v]at hL hb h91
  rw[run_shut F35 rfl rfl (by simp)]
  cases b with
  |true=>push_cast[Lst.v,hb,h91,hL,h10]
  |false=>push_cast[Lst.v,hb,h91,hL,h10]
 |some k =>
  rw[hc]at hL
  push_cast[Lst.v]at hL hb h91
  rw[run_shut F35 rfl rfl (by simp)]
  cases b with
  |true=>push_cast[Lst.v,hb,h91,hL,h10]
  |false=>push_cast[Lst.v,hb,h91,hL,h10]
theorem few_len {x:Lst}(h:x.ok)(h0:lstR x=0)(hf:few52 x=true):x.cues.length≤10:=by
 rcases Nat.lt_or_ge 10 x.cues.length with hl|hl
 ·have h1:=f35' h (st:=stG [])
  rw[f35n h h0 hl,hf]at h1
  cases h1
 ·exact hl
theorem f13n {x:Sho}(h:x.ok)(ha:anyN 10 (fun q=>few52 q=false) x.lsts 0=true){st:St}:run Tryz.prog HH 12 [x.v] st=some (.ret (.bool false),st):=by
 obtain⟨b1,h1⟩:=f32 h.c.1
 obtain⟨b2,h2⟩:=f33 (l:=x.fixts) h.p.1
 obtain⟨b3,h3⟩:=f16 h.g.1
 obtain⟨b4,h4⟩:=f15 h.l.1
 obtain⟨b5,h5⟩:=f17 h.s.1
 obtain⟨b6,h6⟩:=f18 (l:=x.effs)
 have k0:=fun g n=>L12_0 (g:=g) (n:=n) h x.profs 0 rfl
 have k1:=fun g n=>L12_1 (g:=g) (n:=n) h x.lsts 0 rfl
 rw[ha]at k1
 push_cast[Sho.v]at k0 k1
 rw[run_shut F12 rfl rfl (by simp)]
 push_cast[Sho.v,h1,h2,h3,h4,h5,h6,k0,k1,lpB]
theorem anyN_no {α:Type}{m:Int}{p:α→Prop}[DecidablePred p]:∀{r:List α}{j:Nat},anyN m p r j=false→(j:Int)+r.length≤m→∀q∈r,¬p q
 |[],_,_,_,q,hq=>by cases hq
 |x::r,j,h,hl,q,hq=>by
  unfold anyN at h
  simp only[List.length_cons]at hl
  rw[if_pos (by omega)]at h
  split at h
  ·cases h
  ·rename_i hn
   rcases List.mem_cons.1 hq with rfl|hq
   ·exact hn
   ·exact anyN_no h (by omega) q hq
theorem lstsL_all {l:List Lst}:∀{r:List Lst}{j:Nat},lstsL l r j=0→∀q∈r,lstR q=0
 |[],_,_,q,hq=>by cases hq
 |x::r,j,h,q,hq=>by
  unfold lstsL at h
  split at h
  ·rename_i c;exact absurd h c
  ·rename_i c
   split at h
   ·cases h
   ·rcases List.mem_cons.1 hq with rfl|hq
    ·exact Classical.not_not.1 c
    ·exact lstsL_all h q hq
theorem few_q {s:Sho}(h:s.ok)(h0:shoC s=0)(hF:∀st:St,run Tryz.prog HH 12 [s.v] st=some (.ret (.bool true),st)):∀q∈s.lsts,q.cues.length≤10:=by
 have h7:=(shoC_all.1 h0).2.2.2.2.2.2.1
 unfold lstsC at h7
 split at h7
 ·cases h7
 rename_i h8
 have hr:=lstsL_all h7
 have ha:anyN 10 (fun q=>few52 q=false) s.lsts 0=false:=by
  cases hc:anyN 10 (fun q=>few52 q=false) s.lsts 0 with
  |false=>rfl
  |true =>
   have h1:=hF (stG [])
   rw[f13n h hc]at h1
   cases h1
 intro q hq
 have:=anyN_no ha (by omega) q hq
 exact few_len (h.k.2 q hq) (hr q hq) (by cases hf:few52 q with
  |true=>rfl
  |false=>exact absurd hf this)
end Go.Proofs.YtmjkgajnpmiomaaGreatDoor

namespace Go.Proofs.YtmjkgajnpmiomaaGreatDoor
open Go.Sha
set_option maxRecDepth 100000
variable {g:List (Nat×Obj)}{n:Nat}
def memY:List Nat:=[4,5,6,9,21,43]
noncomputable def HY:EvF:=⟨[103,113,173,179,183,265,270],fun f args st=>bif memL f memY then run Tryz.prog HH f args st else bif Nat.beq f 19||Nat.beq f 22 then run Tryz.prog HT f args st else none⟩
@[push_cast]theorem HY_raw:HY.raw=[103,113,173,179,183,265,270]:=idq rfl
theorem HY_ok (h1:ESound Tryz.prog HH):ESound Tryz.prog HY:=fun f args st r s h=>by
 simp only[HY]at h
 cases hi:memL f memY with
 |true=>rw[hi]at h;exact run_sound mixed h1 _ _ _ _ _ h
 |false =>
  rw[hi]at h
  cases h2:(Nat.beq f 19||Nat.beq f 22) with
  |true=>rw[h2]at h;exact run_sound mixed (HT_ok h1) _ _ _ _ _ h
  |false=>rw[h2]at h;cases h
theorem upY {k:Nat}{args:List V}{st:St}{r:VRes×St}(h:run Tryz.prog HH k args st=some r)(h3:memL k memY=true:=by rfl):run Tryz.prog HY k args st=some r:=by
 refine run_H ?_
 simp only[HY,h3,cond_true,h]
theorem e19 {s:Sho}{e:Edi}(h:s.rt)(he:e.ok){st:St}:run Tryz.prog HY 19 [s.v,e.v] st=some (.ret (.tup [(if apC s e=0 then eS s e else S0).v,.int .i64 (apC s e)]),st):=run_H (by
 simp only[HY,show memL 19 memY=false from rfl,show Nat.beq 19 19=true from rfl,Bool.true_or,cond_true,cond_false];exact f8T h he)
theorem e22 {s:Sho}{e:Edi}(h:s.rt)(he:e.ok){st:St}:run Tryz.prog HY 22 [s.v,e.v] st=some (.ret (.tup [(if apC s e=0 then eS s e else S0).v,.int .i64 (apC s e)]),st):=run_H (by
 simp only[HY,show memL 22 memY=false from rfl,show Nat.beq 22 19=false from rfl,show Nat.beq 22 22=true from rfl,Bool.or_true,cond_true,cond_false];exact f22 h he)
theorem e43 {l:List Sho}(hl:l.length<1000){st:St}:run Tryz.prog HY 43 [.sl (l.map Sho.v)] st=some (.ret (.osl st.nx l.length),⟨st.nx+1,st.mem,(st.nx,⟨31,9,l.map Sho.v,true,false⟩)::st.arr,st.x⟩) :=
 upY (r_cln (k:=43) (e:=31) (es:=9) (b:=208) (f:=Sho.v) (l:=l) (st:=st) (fun _ _=>rfl) (fun _=>rfl) (fun _=>rfl) (by omega) (by omega))
theorem f20 {l:List Sho}{s:Sho}(hl:l.length<256){st:St}:run Tryz.prog HY 20 [.sl (l.map Sho.v),s.v] st=some (.ret (.tup [.sl ((l++[s]).map Sho.v),.int .i64 0]),st):=by
 have h43:=fun(st:St)=>e43 (l:=l) (st:=st) (by omega)
 have h1:¬(256:Int)≤l.length:=by omega
 have hro:roomV (l.length+1) 208=true:=roomV_lit (by omega) (by omega)
 have e1:(l++[s]).map Sho.v=l.map Sho.v++[s.v]:=by simp
 rw[e1]
 rw[run_shut F20 rfl rfl (by simp)]
 push_cast[Sho.v]at h43
 push_cast[Sho.v,h43,h1,hro]
theorem f31 {l:List Sho}{s:Sho}(hl:l.length<256){st:St}:run Tryz.prog HY 31 [.sl ((l++[s]).map Sho.v)] st=some (.ret (.tup [.sl (l.map Sho.v),s.v,.int .i64 0]),st):=by
 have h43:=fun(st:St)=>e43 (l:=l) (st:=st) (by omega)
 have hlen:(l++[s]).length=l.length+1:=by simp
 have hw:IntKind.i64.wrap (((l.length:Int)+1)-1)=l.length:=by rw[iwrap (by omega) (by omega)];omega
 have h1:¬(l.length:Int)+1=0:=by omega
 have ht:(l++[s]).take l.length=l:=by simp
 have hg:(l++[s])[l.length]?=some s:=by simp
 have hD:∀d,(l++[s]).getD l.length d=s:=fun d=>by simp[List.getD_eq_getElem?_getD]
 generalize l++[s]=m at *
 rw[run_shut F31 rfl rfl (by simp)]
 push_cast[Sho.v]at h43
 push_cast[Sho.v,h43,h1,hw,hlen,ht,hg,hD]
 exact dn_eq (by omega) rfl
theorem f31n {st:St}:run Tryz.prog HY 31 [.sl []] st=some (.ret (.tup [.sl [],S0.v,.int .i64 12]),st):=by
 rw[run_shut F31 rfl rfl (by simp)]
 push_cast[Sho.v,S0,List.map_nil]
def H0:His:=⟨[],S0,[]⟩
theorem f7 {h:His}{e:Edi}(hs:h.shw.rt)(he:e.ok)(hl:h.past.length<256){st:St}:run Tryz.prog HY 7 [h.v,e.v] st=some (.ret (.tup [(if apC h.shw e=0 then(⟨h.past++[h.shw],eS h.shw e,[]⟩:His) else H0).v,.int .i64 (apC h.shw e)]),st):=by
 have h19:=fun(st:St)=>e19 hs he (st:=st)
 have h20:=fun(st:St)=>f20 (l:=h.past) (s:=h.shw) hl (st:=st)
 by_cases c:apC h.shw e=0
 ·rw[if_pos c,c]at h19
  rw[if_pos c,c]
  generalize eS h.shw e=y at *
  generalize h.past++[h.shw]=z at *
  rw[run_shut F7 rfl rfl (by simp)]
  push_cast[His.v,Sho.v,Edi.v]at h19 h20
  push_cast[His.v,Sho.v,Edi.v,h19,h20,List.map_nil]
 ·rw[if_neg c]at h19
  rw[if_neg c]
  generalize apC h.shw e=x at *
  rw[run_shut F7 rfl rfl (by simp)]
  push_cast[His.v,Sho.v,Edi.v,S0,List.map_nil]at h19
  push_cast[His.v,Sho.v,Edi.v,h19,c,H0,S0,List.map_nil]
theorem f10 {h:His}{m:List Sho}{s:Sho}(hp:h.past=m++[s])(hl:m.length<256)(hf:h.fut.length<256){st:St}:run Tryz.prog HY 10 [h.v] st=some (.ret (.tup [(⟨m,s,h.fut++[h.shw]⟩:His).v,.int .i64 0]),st):=by
 have h31:=fun(st:St)=>f31 (l:=m) (s:=s) hl (st:=st)
 have h20:=fun(st:St)=>f20 (l:=h.fut) (s:=h.shw) hf (st:=st)
 rw[←hp]at h31
 generalize h.fut++[h.shw]=z at *
 rw[run_shut F10 rfl rfl (by simp)]
 push_cast[His.v,Sho.v]at h31 h20
 push_cast[His.v,Sho.v,h31,h20]
theorem f11 {h:His}{m:List Sho}{s:Sho}(hp:h.fut=m++[s])(hl:m.length<256)(hf:h.past.length<256){st:St}:run Tryz.prog HY 11 [h.v] st=some (.ret (.tup [(⟨h.past++[h.shw],s,m⟩:His).v,.int .i64 0]),st):=by
 have h31:=fun(st:St)=>f31 (l:=m) (s:=s) hl (st:=st)
 have h20:=fun(st:St)=>f20 (l:=h.past) (s:=h.shw) hf (st:=st)
 rw[←hp]at h31
 generalize h.past++[h.shw]=z at *
 rw[run_shut F11 rfl rfl (by simp)]
 push_cast[His.v,Sho.v]at h31 h20
 push_cast[His.v,Sho.v,h31,h20]
theorem f11n {h:His}(hp:h.fut=[]){st:St}:run Tryz.prog HY 11 [h.v] st=some (.ret (.tup [H0.v,.int .i64 12]),st):=by
 have h31:=fun(st:St)=>f31n (st:=st)
 rw[run_shut F11 rfl rfl (by simp)]
 push_cast[His.v,Sho.v,S0,List.map_nil]at h31
 push_cast[His.v,Sho.v,hp,h31,H0,S0,List.map_nil]
noncomputable def folS (s:Sho)(l:List Edi):Sho:=l.foldl eS s
def Made:Sho→List Edi→Prop
 |_,[]=>True
 |s,e::r=>s.rt∧e.ok∧apC s e=0∧Made (eS s e) r
end Go.Proofs.YtmjkgajnpmiomaaGreatDoor

namespace Go.Proofs.YtmjkgajnpmiomaaGreatDoor
open Go.Sha
set_option maxRecDepth 100000
variable {g:List (Nat×Obj)}{n:Nat}
theorem L8 {l:List Edi}(hl:l.length<256):∀(r:List Edi) (j:Nat),l.drop j=r→∀s:Sho,Made s r →
  runL Tryz.prog HY [1,2,4,22,23,24] 2 B8_0 [(1,.sl (l.map Edi.v)),(2,.ptr 0 0),(4,.ptr 1 0),(22,.sl (l.map Edi.v)),(23,.int .i64 l.length),(24,.int .i64 j)] ⟨2,[(1,[.str [],.nils,.nils,.nils,.nils,.nils,.nils,.nils,.nils]),(0,s.v.cells)],[],⟨[],g,[]⟩⟩
   = some (.exit 0,[(1,.sl (l.map Edi.v)),(2,.ptr 0 0),(4,.ptr 1 0)],⟨2,[(1,[.str [],.nils,.nils,.nils,.nils,.nils,.nils,.nils,.nils]),(0,(folS s r).v.cells)],[],⟨[],g,[]⟩⟩):=by
 refine drop_ind (fun j h s hm=>?_) (fun q r j h hx hd ih s hm=>?_)
 all_goals rw[runL_of B8_0.eq_1]
 ·have h1:¬(j:Int)<l.length:=by omega
  push_cast[h1,folS,List.foldl_nil]
 ·have h1:(j:Int)<l.length:=by omega
  have hw:=iw1 (j:=j) (by omega)
  obtain⟨m1,m2,m3,m4⟩:=hm
  have h22:=fun(st:St)=>e22 m1 m2 (st:=st)
  rw[if_pos m3,m3]at h22
  have ih:=ih (eS s q) m4
  rw[show folS s (q::r)=folS (eS s q) r from rfl]
  generalize eS s q=y at *
  generalize folS y r=z at *
  push_cast[Edi.v,Sho.v,V.cells]at h22 ih
  push_cast[h,h1,hw,hx,h22,Edi.v,Sho.v,V.cells]
  exact ih
theorem f8 {s:Sho}{l:List Edi}(hs:s.rt)(hl:l.length<256)(hm:Made s l){st:St}:run Tryz.prog HY 8 [s.v,.sl (l.map Edi.v)] st=some (.ret (.tup [(folS s l).v,.int .i64 l.length,.int .i64 0]),st):=by
 have h21:=fun(st:St)=>upY (f21 hs.o (st:=st))
 rw[hs.c]at h21
 have hL:=L8 (g:=st.x.gl) hl l 0 rfl s hm
 have h1:¬(256:Int)<l.length:=by omega
 generalize folS s l=z at *
 rw[run_shut F8 rfl rfl (by simp)]
 push_cast[Sho.v,V.cells,Edi.v]at h21 hL
 push_cast[Sho.v,V.cells,Edi.v,h21,h1,hL]
end Go.Proofs.YtmjkgajnpmiomaaGreatDoor

namespace Go.Proofs.YtmjkgajnpmiomaaGreatDoor
open Go.Sha
set_option maxRecDepth 100000
variable {g:List (Nat×Obj)}{n:Nat}
theorem lV_q {l:List Lst}{e:Edi}{k:Nat}(h:∀q∈l,q.cues.length≤k):∀q∈lV e l,q.cues.length≤k+1:=by
 have hD:∀i,(l.getD i default).cues.length≤k:=fun i=>getD_P (P:=fun q:Lst=>q.cues.length≤k) h (by show(0:Nat)≤k;omega)
 have h0:∀q∈l,q.cues.length≤k+1:=fun q hq=>by have:=h q hq;omega
 have st:∀(i:Nat) (z:Lst),z.cues.length≤k+1→∀q∈l.set i z,q.cues.length≤k+1:=fun i z hz q hq=>(List.mem_or_eq_of_mem_set hq).elim (h0 q) fun e=>by rw[e];exact hz
 unfold lV lSet priN
 split
 ·refine st _ _ ?_
  have:=hD (lstI l e.num).toNat
  generalize l.getD (lstI l e.num).toNat default=y at *
  have:=(puL_spec (x:=y) (c:=e.cue)).1
  show(puL y e.cue).cues.length≤k+1
  omega
 split
 ·refine st _ _ ?_
  have:=hD (lstI l e.num).toNat
  generalize l.getD (lstI l e.num).toNat default=y at *
  have z0:L0.cues.length≤k+1:=by show(0:Nat)≤_;omega
  show(goL y e.key).cues.length≤k+1
  unfold goL
  split
  ·unfold drL
   split
   ·split
    ·simp only[drC,List.length_append,List.length_take,List.length_drop];omega
    ·omega
   ·exact z0
  ·exact z0
 split
 ·split
  ·refine st _ _ ?_
   have:=h _ (List.mem_of_getElem? (by assumption))
   exact Nat.le_succ_of_le this
  ·intro q hq
   simp only[List.mem_append,List.mem_singleton]at hq
   rcases hq with(hq|hq)|hq
   ·exact h0 q (List.mem_of_mem_take hq)
   ·rw[hq];exact Nat.zero_le _
   ·exact h0 q (List.mem_of_mem_drop hq)
 ·exact h0
theorem apC_0 {s:Sho}{e:Edi}:apC s e=0↔edtC e=0∧eC s e=0∧shoC (eS s e)=0:=by
 unfold apC appR
 by_cases h:edtC e=0
 ·by_cases h1:eC s e=0
  ·simp[h,h1]
  ·simp[h,h1]
 ·simp[h]
theorem made_app:∀{m:List Edi}{s:Sho}{e:Edi},Made s m→(folS s m).rt→e.ok→apC (folS s m) e=0→Made s (m++[e])
 |[],s,e,_,h1,h2,h3=>⟨h1,h2,h3,trivial⟩
 |x::m,s,e,h,h1,h2,h3=>⟨h.1,h.2.1,h.2.2.1,made_app (m:=m) h.2.2.2 h1 h2 h3⟩
structure Inv (s:Sho) (m:List Edi) (p:List Sho) (y:Sho) (b:Bool):Prop where
 ok:y.ok
 c:shoC y=0
 q:∀q∈y.lsts,q.cues.length≤10+m.length
 md:Made s m
 fl:folS s m=y
 ln:p.length=m.length
 po:∀z∈p,z.ok
 bb:b=true→p=[]
def hC (b:Bool)(p:List Sho)(y:Sho):List V:=(if b then .nils else .sl (p.map Sho.v))::(y.v.cells++[if b then .nils else .sl []])
def stL (g:List (Nat×Obj))(b:Bool)(m:List Edi)(p:List Sho)(y:Sho):St:=⟨4,[(1,hC b p y)],[(3,⟨57,35,m.map Edi.v,false,false⟩),(2,⟨31,9,(p++[y]).map Sho.v,false,false⟩)],⟨[],g,[]⟩⟩
theorem hC_bd {b:Bool}{p:List Sho}{y:Sho}{n:Nat}:V.bdL n (hC b p y)=true:=by
 cases b<;>simp[hC,V.bdL,V.bd,V.cells,bdL_map']
noncomputable def runB (g:List (Nat×Obj))(l:List Edi)(S:V)(j:Nat)(b:Bool)(m:List Edi)(p:List Sho)(y:Sho):Option (VX×Env×St) :=
 runL Tryz.prog HY [2,5,6,7,35,36,37] 4 B3_0 [(2,S),(5,.ptr 1 0),(6,.osl 3 m.length),(7,.osl 2 (p.length+1)),(35,.sl (l.map Edi.v)),(36,.int .i64 l.length),(37,.int .i64 j)] (stL g b m p y)
theorem runB_end {l:List Edi}{S:V}{j:Nat}(h:¬j<l.length){b:Bool}{m:List Edi}{p:List Sho}{y:Sho}:runB g l S j b m p y=some (.exit 0,[(2,S),(5,.ptr 1 0),(6,.osl 3 m.length),(7,.osl 2 (p.length+1))],stL g b m p y):=by
 have h1:¬(j:Int)<l.length:=by omega
 unfold runB
 rw[runL_of B3_0.eq_1]
 unfold stL
 push_cast[h1]
theorem runB_no {l:List Edi}{S:V}{j:Nat}(h:j<l.length){q:Edi}(hx:∀d,l.getD j d=q)(hN:l.length<1000)(h6:∀st:St,run Tryz.prog HY 6 [q.v] st=some (.ret (.bool false),st)){b:Bool}{m:List Edi}{p:List Sho}{y:Sho}:runB g l S j b m p y=some (.ret,[(4,.bool true)],stL g b m p y):=by
 have h1:(j:Int)<l.length:=by omega
 have hw:=iw1 (j:=j) (by omega)
 unfold runB
 rw[runL_of B3_0.eq_1]
 have hbd:=hC_bd (b:=b) (p:=p) (y:=y) (n:=4)
 unfold stL
 push_cast[Edi.v]at h6
 push_cast[h,h1,hw,hx,h6,Edi.v,hbd]
theorem runB_made {l:List Edi}{S:V}{j:Nat}(h:j<l.length){q:Edi}(hx:∀d,l.getD j d=q)(hN:l.length≤6)(h6:∀st:St,run Tryz.prog HY 6 [q.v] st=some (.ret (.bool true),st)){b:Bool}{m:List Edi}{p:List Sho}{y z:Sho}(hb:b=true→p=[])(hS:V.bd 4 S=true)(hm:m.length<100)(hp:p.length<100)
  (h7:∀st:St,run Tryz.prog HY 7 [(⟨p,y,[]⟩:His).v,q.v] st=some (.ret (.tup [(⟨p++[y],z,[]⟩:His).v,.int .i64 0]),st)):runB g l S j b m p y=runB g l S (j+1) false (m++[q]) (p++[y]) z:=by
 have h1:(j:Int)<l.length:=by omega
 have hw:=iw1 (j:=j) (by omega)
 have hr1:roomV (m.length+1) 416=true:=roomV_lit (by omega) (by omega)
 have hr2:roomV (p.length+1+1) 208=true:=roomV_lit (by omega) (by omega)
 unfold runB
 rw[runL_of B3_0.eq_1 (env:=[(2,S),(5,.ptr 1 0),(6,.osl 3 m.length),(7,.osl 2 (p.length+1)),(35,.sl (l.map Edi.v)),(36,.int .i64 l.length),(37,.int .i64 j)])]
 cases b with
 |true =>
  have hp0:=hb rfl
  subst hp0
  unfold stL hC
  rw[show(m++[q]).map Edi.v=m.map Edi.v++[q.v] by simp,show(m++[q]).length=m.length+1 by simp]
  push_cast[Edi.v,Sho.v,His.v,V.cells,List.cons_append,List.nil_append,List.map_nil,List.length_nil,Bool.false_eq_true]at h6 h7
  have hr3:roomV 2 208=true:=by decide
  push_cast[h,h1,hw,hx,h6,h7,hr1,hr3,hS,Edi.v,Sho.v,His.v,V.cells,List.cons_append,List.nil_append,List.map_nil,List.length_nil,Bool.false_eq_true]
 |false =>
  unfold stL hC
  have e1:(p++[y]).length=p.length+1:=by simp
  have e2:(p++[y]).map Sho.v=p.map Sho.v++[y.v]:=by simp
  have e3:(p++[y]++[z]).map Sho.v=p.map Sho.v++[y.v]++[z.v]:=by simp
  have e4:(m++[q]).map Edi.v=m.map Edi.v++[q.v]:=by simp
  rw[e1,e2,e3,e4,show(m++[q]).length=m.length+1 by simp]
  rw[show(⟨p++[y],z,[]⟩:His).v=.agg (.sl (p.map Sho.v++[y.v])::(z.v.cells++[.sl []])) by simp[His.v,Sho.v,V.cells]]at h7
  push_cast[Edi.v,Sho.v,His.v,V.cells,List.cons_append,List.nil_append,List.map_nil,Bool.false_eq_true]at h6 h7
  push_cast[h,h1,hw,hx,h6,h7,hr1,hr2,hS,Edi.v,Sho.v,V.cells,List.cons_append,List.nil_append,List.map_nil,Bool.false_eq_true]
theorem runB_skip {l:List Edi}{S:V}{j:Nat}(h:j<l.length){q:Edi}(hx:∀d,l.getD j d=q)(hN:l.length≤6)(h6:∀st:St,run Tryz.prog HY 6 [q.v] st=some (.ret (.bool true),st)){b:Bool}{m:List Edi}{p:List Sho}{y:Sho}{x:Int}(hb:b=true→p=[])(hS:V.bd 4 S=true)(hc:¬x=0)
  (h7:∀st:St,run Tryz.prog HY 7 [(⟨p,y,[]⟩:His).v,q.v] st=some (.ret (.tup [H0.v,.int .i64 x]),st)):runB g l S j b m p y=runB g l S (j+1) b m p y:=by
 have h1:(j:Int)<l.length:=by omega
 have hw:=iw1 (j:=j) (by omega)
 unfold runB
 rw[runL_of B3_0.eq_1 (env:=[(2,S),(5,.ptr 1 0),(6,.osl 3 m.length),(7,.osl 2 (p.length+1)),(35,.sl (l.map Edi.v)),(36,.int .i64 l.length),(37,.int .i64 j)])]
 cases b with
 |true =>
  have hp0:=hb rfl
  subst hp0
  unfold stL hC
  push_cast[Edi.v,Sho.v,His.v,H0,S0,V.cells,List.cons_append,List.nil_append,List.map_nil,List.length_nil,Bool.false_eq_true]at h6 h7
  push_cast[h,h1,hw,hx,h6,h7,hc,hS,Edi.v,Sho.v,His.v,V.cells,List.cons_append,List.nil_append,List.map_nil,List.length_nil,Bool.false_eq_true]
 |false =>
  unfold stL hC
  push_cast[Edi.v,Sho.v,His.v,H0,S0,V.cells,List.cons_append,List.nil_append,List.map_nil,Bool.false_eq_true]at h6 h7
  push_cast[h,h1,hw,hx,h6,h7,hc,hS,Edi.v,Sho.v,V.cells,List.cons_append,List.nil_append,List.map_nil,Bool.false_eq_true]
theorem lawL0 {l:List Edi}(hl:l.length≤6)(hok:∀q∈l,q.ok){s:Sho}{S:V}(hS:V.bd 4 S=true):∀(r:List Edi) (j:Nat),l.drop j=r→∀(b:Bool) (m:List Edi) (p:List Sho) (y:Sho),Inv s m p y b→m.length≤j→m.length≤l.length →
  (∃s',runB g l S j b m p y=some (.ret,[(4,.bool true)],s'))
  ∨ ∃b' m' p' y',Inv s m' p' y' b'∧m'.length≤l.length∧runB g l S j b m p y=some (.exit 0,[(2,S),(5,.ptr 1 0),(6,.osl 3 m'.length),(7,.osl 2 (p'.length+1))],stL g b' m' p' y'):=by
 refine drop_ind (fun j h b m p y hI hj hm=>?_) (fun q r j h hx hd ih b m p y hI hj hm=>?_)
 ·exact .inr ⟨b,m,p,y,hI,hm,runB_end (by omega)⟩
 ·have hqm:=hok q (mem_at hd)
  obtain⟨b6,h6'⟩:=f6 (e:=q)
  have h6:=fun(st:St)=>upY (h6' st)
  have hrt:y.rt:=⟨hI.ok,hI.c,fun z hz=>by have:=hI.q z hz;omega⟩
  have hln:=hI.ln
  have h7:=fun(st:St)=>f7 (h:=⟨p,y,[]⟩) (e:=q) hrt hqm (by show p.length<256;omega) (st:=st)
  cases b6 with
  |false=>exact .inl ⟨_,runB_no h hx (by omega) h6⟩
  |true =>
   by_cases c:apC y q=0
   ·have hI':Inv s (m++[q]) (p++[y]) (eS y q) false:=⟨eS_ok hrt hqm,(apC_0.1 c).2.2,fun z hz=>by have:=lV_q hI.q z hz;simp;omega,made_app hI.md (by rw[hI.fl];exact hrt) hqm (by rw[hI.fl];exact c),by
     show(m++[q]).foldl eS s=_
     rw[List.foldl_append]
     show eS (folS s m) q=_
     rw[hI.fl],by simp[hln],fun z hz=>(List.mem_append.1 hz).elim (hI.po z) fun a=>by rw[List.mem_singleton.1 a];exact hI.ok,fun a=>by cases a⟩
    replace h7:=fun(st:St)=>(show run Tryz.prog HY 7 [(⟨p,y,[]⟩:His).v,q.v] st=some (.ret (.tup [(⟨p++[y],eS y q,[]⟩:His).v,.int .i64 0]),st) from by have h7:=h7 st;rw[if_pos c,c]at h7;exact h7)
    rw[runB_made h hx hl h6 hI.bb hS (by omega) (by omega) h7]
    exact ih false (m++[q]) (p++[y]) (eS y q) hI' (by simp;omega) (by simp;omega)
   ·replace h7:=fun(st:St)=>(show run Tryz.prog HY 7 [(⟨p,y,[]⟩:His).v,q.v] st=some (.ret (.tup [H0.v,.int .i64 (apC y q)]),st) from by have h7:=h7 st;rw[if_neg c]at h7;exact h7)
    rw[runB_skip h hx hl h6 hI.bb hS c h7]
    exact ih b m p y hI (by omega) hm
end Go.Proofs.YtmjkgajnpmiomaaGreatDoor

namespace Go.Proofs.YtmjkgajnpmiomaaGreatDoor
open Go.Sha
set_option maxRecDepth 100000
variable {g:List (Nat×Obj)}{n:Nat}
theorem getsS {T:List Sho}{m N:Nat}(e:T.length=N)(h:m<N):∃x,x∈T∧(∀d,T.getD m d=x)∧T[m]?=some x∧(T.map Sho.v).getD m V.und=x.v∧(m:Int)<N:=by
 have h':m<T.length:=by omega
 refine⟨T[m],List.getElem_mem h',fun d=>?_,List.getElem?_eq_getElem h',?_,by omega⟩
 ·simp[List.getD_eq_getElem?_getD,h']
 ·simp[List.getD_eq_getElem?_getD,h']
def hisT (T:List Sho)(i:Nat):His:=⟨T.take i,T.getD i default,(T.drop (i+1)).reverse⟩
def stT (g:List (Nat×Obj))(R:Arr)(T:List Sho)(i:Nat):St:=⟨5,[(1,(hisT T i).v.cells)],[(3,R),(2,⟨31,9,T.map Sho.v,false,false⟩)],⟨[],g,[]⟩⟩
section
variable {R:Arr}{T:List Sho}
theorem e10 {N i:Nat}(hT:T.length=N+1)(hN:N<100)(hi:i<N){st:St}:run Tryz.prog HY 10 [(hisT T (i+1)).v] st=some (.ret (.tup [(hisT T i).v,.int .i64 0]),st):=by
 have hd:T.drop (i+1)=T.getD (i+1) default::T.drop (i+2):=by
  rw[List.drop_eq_getElem_cons (by omega),List.getD_eq_getElem?_getD,List.getElem?_eq_getElem (by omega)];rfl
 have ht:T.take (i+1)=T.take i++[T.getD i default]:=by
  rw[List.take_add_one,List.getD_eq_getElem?_getD,List.getElem?_eq_getElem (by omega)];rfl
 have:=f10 (h:=hisT T (i+1)) (m:=T.take i) (s:=T.getD i default) ht (by simp;omega) (by show(T.drop (i+1+1)).reverse.length<256;simp;omega) (st:=st)
 rw[this]
 unfold hisT
 rw[hd,List.reverse_cons]
theorem e11 {N i:Nat}(hT:T.length=N+1)(hN:N<100)(hi:i<N){st:St}:run Tryz.prog HY 11 [(hisT T i).v] st=some (.ret (.tup [(hisT T (i+1)).v,.int .i64 0]),st):=by
 have hd:T.drop (i+1)=T.getD (i+1) default::T.drop (i+2):=by
  rw[List.drop_eq_getElem_cons (by omega),List.getD_eq_getElem?_getD,List.getElem?_eq_getElem (by omega)];rfl
 have ht:T.take (i+1)=T.take i++[T.getD i default]:=by
  rw[List.take_add_one,List.getD_eq_getElem?_getD,List.getElem?_eq_getElem (by omega)];rfl
 have:=f11 (h:=hisT T i) (m:=(T.drop (i+2)).reverse) (s:=T.getD (i+1) default) (by show(T.drop (i+1)).reverse=_;rw[hd,List.reverse_cons]) (by simp;omega) (by show(T.take i).length<256;simp;omega) (st:=st)
 rw[this]
 unfold hisT
 rw[ht]
theorem lawU {N:Nat}(hR:V.bdL 5 R.xs=true)(hT:T.length=N+1)(hN:N<100)(ok:∀z∈T,z.ok):∀i:Nat,i≤N→runL Tryz.prog HY [5,7,13,15] 5 B3_1 [(5,.ptr 1 0),(7,.osl 2 (N+1)),(13,.int .i64 N),(15,.int .i64 ((i:Int)-1))] (stT g R T i)=some (.exit 2,[(5,.ptr 1 0),(7,.osl 2 (N+1)),(13,.int .i64 N)],stT g R T 0):=by
 intro i
 induction i with
 |zero =>
  intro h
  have h1:¬(0:Int)≤((0:Nat):Int)-1:=by omega
  rw[runL_of B3_1.eq_1]
  unfold stT
  push_cast[h1]
 |succ i ih =>
  intro h
  have ih:=ih (by omega)
  have h10:=fun(st:St)=>e10 hT hN (i:=i) (by omega) (st:=st)
  obtain⟨x,x1,x2,x3,x4,x5⟩:=getsS (m:=i) hT (by omega)
  have h9:=fun(st:St)=>upY (f9 (ok x x1) (st:=st))
  have e1:(hisT T i).shw=x:=x2 _
  have hw:IntKind.i64.wrap ((i:Int)-1)=(i:Int)-1:=iwrap (by omega) (by omega)
  have h1:(0:Int)≤i:=by omega
  have h2:i<N+1:=by omega
  rw[show(((i+1:Nat):Int)-1)=i by omega]
  rw[runL_of B3_1.eq_1]
  unfold stT at *
  generalize hisT T (i+1)=A at *
  generalize hisT T i=B at *
  generalize hisT T 0=C at *
  obtain⟨Bp,Bs,Bf⟩:=B
  simp only at e1
  subst e1
  push_cast[His.v,Sho.v,V.cells]at h10 h9 ih
  push_cast[His.v,Sho.v,V.cells,h10,h9,h1,h2,hT,x2,x3,x4,x5,hw,hR]
  exact ih
theorem lawR {N:Nat}(hR:V.bdL 5 R.xs=true)(hT:T.length=N+1)(hN:N<100)(ok:∀z∈T,z.ok):∀d i:Nat,i+d=N→runL Tryz.prog HY [5,7,116,117] 5 B3_2 [(5,.ptr 1 0),(7,.osl 2 (N+1)),(116,.int .i64 N),(117,.int .i64 i)] (stT g R T i)=some (.exit 4,[(5,.ptr 1 0)],stT g R T N):=by
 intro d
 induction d with
 |zero =>
  intro i h
  have h1:¬(i:Int)<N:=by omega
  have:i=N:=by omega
  subst this
  rw[runL_of B3_2.eq_1]
  unfold stT
  push_cast[h1]
 |succ d ih =>
  intro i h
  have ih:=ih (i+1) (by omega)
  have h11:=fun(st:St)=>e11 hT hN (i:=i) (by omega) (st:=st)
  obtain⟨x,x1,x2,x3,x4,x5⟩:=getsS (m:=i+1) hT (by omega)
  have h9:=fun(st:St)=>upY (f9 (ok x x1) (st:=st))
  have e1:(hisT T (i+1)).shw=x:=x2 _
  have hw:=iw1 (j:=i) (by omega)
  have h1:(i:Int)<N:=by omega
  have h2:i+1<N+1:=by omega
  have h3:i<N:=by omega
  rw[runL_of B3_2.eq_1]
  unfold stT at *
  generalize hisT T (i+1)=B at *
  generalize hisT T i=A at *
  generalize hisT T N=C at *
  obtain⟨Bp,Bs,Bf⟩:=B
  simp only at e1
  subst e1
  push_cast[His.v,Sho.v,V.cells]at h11 h9 ih x5
  push_cast[His.v,Sho.v,V.cells,h11,h9,h1,h2,h3,hT,x2,x3,x4,x5,hw,hR]
  exact ih
end
theorem law_at {s:Sho}{l:List Edi}(hs:s.ok)(hl:l.length<140737488355328)(hok:∀q∈l,q.ok){st:St}:run Tryz.prog HY 3 [s.v,.sl (l.map Edi.v)] st=some (.ret (.bool true),st):=by
 have h4:=fun(st:St)=>upY (f4 (st:=st))
 obtain⟨bf,hF⟩:=f12 hs
 have h5:=fun(st:St)=>upY (f5 hs hF (st:=st))
 by_cases c1:¬(bf&&shoC s == 0)=true
 ·have c1':(bf&&shoC s == 0)=false:=by simpa using c1
  rw[c1']at h5
  rw[run_shut F3 rfl rfl (by simp)]
  push_cast[Sho.v,Edi.v]at h5
  push_cast[Sho.v,Edi.v,h4,h5]
 rw[Classical.not_not]at c1
 rw[c1]at h5
 by_cases c2:(6:Int)<l.length
 ·rw[run_shut F3 rfl rfl (by simp)]
  push_cast[Sho.v,Edi.v]at h5
  push_cast[Sho.v,Edi.v,h4,h5,c2]
 have c0:shoC s=0:=by simp at c1;exact c1.2
 have cf:bf=true:=by simp at c1;exact c1.1
 subst cf
 have hq:=few_q hs c0 hF
 have hrt:s.rt:=⟨hs,c0,fun q hm=>by have:=hq q hm;omega⟩
 have hI:Inv s [] [] s true:=⟨hs,c0,fun q hm=>by have:=hq q hm;simp;omega,trivial,rfl,rfl,fun z hz=>(by cases hz),fun _=>rfl⟩
 rcases lawL0 (g:=st.x.gl) (l:=l) (by omega) hok (s:=s) (S:=.ep s.v 0) (by simp[V.bd,V.bdL,Sho.v,bdL_map']) l 0 rfl true [] [] s hI (Nat.le_refl _) (Nat.zero_le _) with⟨s',h⟩|⟨b,m,p,y,hJ,hm,h⟩
 ·unfold runB stL hC at h
  rw[run_shut F3 rfl rfl (by simp)]
  push_cast[Sho.v,Edi.v,V.cells,List.cons_append,List.nil_append,List.map_nil,List.length_nil]at h5 h
  push_cast[Sho.v,Edi.v,h4,h5,c2,h]
 ·have h8:=fun(st:St)=>f8 hrt (l:=m) (by omega) hJ.md (st:=st)
  rw[hJ.fl]at h8
  have h9:=fun(st:St)=>upY (f9 hJ.ok (st:=st))
  have hln:=hJ.ln
  cases b with
  |true =>
   have hp0:=hJ.bb rfl
   subst hp0
   have hm0:m=[]:=List.eq_nil_of_length_eq_zero hln.symm
   subst hm0
   have h11:=fun(st:St)=>f11n (h:=⟨[],y,[]⟩) rfl (st:=st)
   have hw0:IntKind.i64.wrap ((0:Int)-1)=-1:=by decide
   unfold runB stL hC at h
   rw[run_shut F3 rfl rfl (by simp)]
   push_cast[Sho.v,Edi.v,His.v,H0,S0,V.cells,List.cons_append,List.nil_append,List.map_nil,List.length_nil]at h5 h h8 h9 h11
   push_cast[Sho.v,Edi.v,V.cells,List.map_nil,List.length_nil,h4,h5,c2,h,h8,h9,h11,hw0,runL_of B3_1.eq_1,runL_of B3_2.eq_1]
  |false =>
   obtain⟨T,hT⟩:∃T,p++[y]=T:=⟨_,rfl⟩
   obtain⟨N,hN⟩:∃N,p.length=N:=⟨_,rfl⟩
   have hTl:T.length=N+1:=by rw[←hT,←hN];simp
   have hok':∀z∈T,z.ok:=fun z hz=>by
    rw[←hT]at hz
    exact(List.mem_append.1 hz).elim (hJ.po z) fun a=>by rw[List.mem_singleton.1 a];exact hJ.ok
   have hhN:hisT T N=⟨p,y,[]⟩:=by
    unfold hisT
    rw[←hT,←hN]
    simp[List.getD_eq_getElem?_getD]
   have hRb:V.bdL 5 (Arr.mk 57 35 (m.map Edi.v) false false).xs=true:=by
    show V.bdL 5 (m.map Edi.v)=true
    rw[bdL_map',List.all_eq_true];intro q _;simp[Edi.v,V.bd,V.bdL,bdL_map']
   have hU:=lawU (g:=st.x.gl) (R:=⟨57,35,m.map Edi.v,false,false⟩) hRb hTl (by omega) hok' N (Nat.le_refl _)
   have hR:=lawR (g:=st.x.gl) (R:=⟨57,35,m.map Edi.v,false,false⟩) hRb hTl (by omega) hok' N 0 (by omega)
   have h11:=fun(st:St)=>f11n (h:=⟨p,y,[]⟩) rfl (st:=st)
   unfold stT at hU hR
   rw[hhN]at hU hR
   generalize hisT T 0=A at *
   have hw0:IntKind.i64.wrap ((N:Int)-1)=(N:Int)-1:=iwrap (by omega) (by omega)
   have hmN:m.length=N:=by omega
   unfold runB stL hC at h
   rw[hT,hN,hmN]at h
   rw[hmN]at h8
   have hlp:p.length=N:=hN
   clear hT
   rw[run_shut F3 rfl rfl (by simp)]
   push_cast[Sho.v,Edi.v,His.v,H0,S0,V.cells,List.cons_append,List.nil_append,List.map_nil,List.length_nil,Bool.false_eq_true]at h5 h h8 h9 h11 hU hR
   push_cast[Sho.v,Edi.v,V.cells,List.map_nil,List.length_nil,h4,h5,c2,h,h8,h9,h11,hw0,hU,hR,hmN,hlp]
end Go.Proofs.YtmjkgajnpmiomaaGreatDoor

namespace Go.Proofs.YtmjkgajnpmiomaaGreatDoor
open Go.Sha
def Pt.sh:List CSh:=[.int .i64,.int .i64]
structure Pt.Dk (z:Pt):Prop where
 x:-9223372036854775808≤z.x∧z.x≤9223372036854775807
 y:-9223372036854775808≤z.y∧z.y≤9223372036854775807
theorem Pt.rd {vs:List V}(h:OkCs Pt.sh vs):∃x:Pt,V.agg vs=x.v∧x.Dk:=by
 obtain⟨v0,r0,rfl,h0,t0⟩:=h.cons_inv
 obtain⟨v1,r1,rfl,h1,t1⟩:=t0.cons_inv
 obtain rfl:=t1.nil_inv
 obtain⟨y0,rfl,b0⟩:=h0.i64_inv
 obtain⟨y1,rfl,b1⟩:=h1.i64_inv
 exact⟨⟨y0,y1⟩,rfl,⟨b0,b1⟩⟩
def Slt.sh:List CSh:=[.str,.int .i64,.int .i64]
structure Slt.Dk (z:Slt):Prop where
 name:z.name.length≤140737488351232
 fr:-9223372036854775808≤z.fr∧z.fr≤9223372036854775807
 to_:-9223372036854775808≤z.to_∧z.to_≤9223372036854775807
theorem Slt.rd {vs:List V}(h:OkCs Slt.sh vs):∃x:Slt,V.agg vs=x.v∧x.Dk:=by
 obtain⟨v0,r0,rfl,h0,t0⟩:=h.cons_inv
 obtain⟨v1,r1,rfl,h1,t1⟩:=t0.cons_inv
 obtain⟨v2,r2,rfl,h2,t2⟩:=t1.cons_inv
 obtain rfl:=t2.nil_inv
 obtain⟨y0,rfl,b0⟩:=h0.str_inv
 obtain⟨y1,rfl,b1⟩:=h1.i64_inv
 obtain⟨y2,rfl,b2⟩:=h2.i64_inv
 exact⟨⟨y0,y1,y2⟩,rfl,⟨b0,b1,b2⟩⟩
def Ftr.sh:List CSh:=[.int .i64,.int .i64,.int .i64,.int .i64,.int .i64,.int .i64,.int .i64,.int .i64,.bool,.sl true 32 Slt.sh]
structure Ftr.Dk (z:Ftr):Prop where
 attr:-9223372036854775808≤z.attr∧z.attr≤9223372036854775807
 bits:-9223372036854775808≤z.bits∧z.bits≤9223372036854775807
 coarse:-9223372036854775808≤z.coarse∧z.coarse≤9223372036854775807
 fine:-9223372036854775808≤z.fine∧z.fine≤9223372036854775807
 curve:-9223372036854775808≤z.curve∧z.curve≤9223372036854775807
 home:-9223372036854775808≤z.home∧z.home≤9223372036854775807
 low:-9223372036854775808≤z.low∧z.low≤9223372036854775807
 high:-9223372036854775808≤z.high∧z.high≤9223372036854775807
 snap:True
 wheel:z.wheel.length≤140737488351232∧∀q∈z.wheel,q.Dk
theorem Ftr.rd {vs:List V}(h:OkCs Ftr.sh vs):∃x:Ftr,V.agg vs=x.v∧x.Dk:=by
 obtain⟨v0,r0,rfl,h0,t0⟩:=h.cons_inv
 obtain⟨v1,r1,rfl,h1,t1⟩:=t0.cons_inv
 obtain⟨v2,r2,rfl,h2,t2⟩:=t1.cons_inv
 obtain⟨v3,r3,rfl,h3,t3⟩:=t2.cons_inv
 obtain⟨v4,r4,rfl,h4,t4⟩:=t3.cons_inv
 obtain⟨v5,r5,rfl,h5,t5⟩:=t4.cons_inv
 obtain⟨v6,r6,rfl,h6,t6⟩:=t5.cons_inv
 obtain⟨v7,r7,rfl,h7,t7⟩:=t6.cons_inv
 obtain⟨v8,r8,rfl,h8,t8⟩:=t7.cons_inv
 obtain⟨v9,r9,rfl,h9,t9⟩:=t8.cons_inv
 obtain rfl:=t9.nil_inv
 obtain⟨y0,rfl,b0⟩:=h0.i64_inv
 obtain⟨y1,rfl,b1⟩:=h1.i64_inv
 obtain⟨y2,rfl,b2⟩:=h2.i64_inv
 obtain⟨y3,rfl,b3⟩:=h3.i64_inv
 obtain⟨y4,rfl,b4⟩:=h4.i64_inv
 obtain⟨y5,rfl,b5⟩:=h5.i64_inv
 obtain⟨y6,rfl,b6⟩:=h6.i64_inv
 obtain⟨y7,rfl,b7⟩:=h7.i64_inv
 obtain⟨y8,rfl⟩:=h8.bool_inv
 have b8:=trivial
 obtain⟨y9,rfl,b9⟩:=h9.agg_inv (f:=Slt.v) (by decide) (fun _=>Slt.rd)
 exact⟨⟨y0,y1,y2,y3,y4,y5,y6,y7,y8,y9⟩,rfl,⟨b0,b1,b2,b3,b4,b5,b6,b7,b8,b9⟩⟩
def Prof.sh:List CSh:=[.str,.int .i64,.int .i64,.sl true 96 Ftr.sh]
structure Prof.Dk (z:Prof):Prop where
 name:z.name.length≤140737488351232
 foot:-9223372036854775808≤z.foot∧z.foot≤9223372036854775807
 watts:-9223372036854775808≤z.watts∧z.watts≤9223372036854775807
 feats:z.feats.length≤140737488351232∧∀q∈z.feats,q.Dk
theorem Prof.rd {vs:List V}(h:OkCs Prof.sh vs):∃x:Prof,V.agg vs=x.v∧x.Dk:=by
 obtain⟨v0,r0,rfl,h0,t0⟩:=h.cons_inv
 obtain⟨v1,r1,rfl,h1,t1⟩:=t0.cons_inv
 obtain⟨v2,r2,rfl,h2,t2⟩:=t1.cons_inv
 obtain⟨v3,r3,rfl,h3,t3⟩:=t2.cons_inv
 obtain rfl:=t3.nil_inv
 obtain⟨y0,rfl,b0⟩:=h0.str_inv
 obtain⟨y1,rfl,b1⟩:=h1.i64_inv
 obtain⟨y2,rfl,b2⟩:=h2.i64_inv
 obtain⟨y3,rfl,b3⟩:=h3.agg_inv (f:=Ftr.v) (by decide) (fun _=>Ftr.rd)
 exact⟨⟨y0,y1,y2,y3⟩,rfl,⟨b0,b1,b2,b3⟩⟩
def Fixt.sh:List CSh:=[.int .i64,.int .i64,.str,.int .i64,.int .i64,.int .i64,.str]
structure Fixt.Dk (z:Fixt):Prop where
 chan:-9223372036854775808≤z.chan∧z.chan≤9223372036854775807
 part:-9223372036854775808≤z.part∧z.part≤9223372036854775807
 prof:z.prof.length≤140737488351232
 univ:-9223372036854775808≤z.univ∧z.univ≤9223372036854775807
 addr:-9223372036854775808≤z.addr∧z.addr≤9223372036854775807
 phase:-9223372036854775808≤z.phase∧z.phase≤9223372036854775807
 cable:z.cable.length≤140737488351232
theorem Fixt.rd {vs:List V}(h:OkCs Fixt.sh vs):∃x:Fixt,V.agg vs=x.v∧x.Dk:=by
 obtain⟨v0,r0,rfl,h0,t0⟩:=h.cons_inv
 obtain⟨v1,r1,rfl,h1,t1⟩:=t0.cons_inv
 obtain⟨v2,r2,rfl,h2,t2⟩:=t1.cons_inv
 obtain⟨v3,r3,rfl,h3,t3⟩:=t2.cons_inv
 obtain⟨v4,r4,rfl,h4,t4⟩:=t3.cons_inv
 obtain⟨v5,r5,rfl,h5,t5⟩:=t4.cons_inv
 obtain⟨v6,r6,rfl,h6,t6⟩:=t5.cons_inv
 obtain rfl:=t6.nil_inv
 obtain⟨y0,rfl,b0⟩:=h0.i64_inv
 obtain⟨y1,rfl,b1⟩:=h1.i64_inv
 obtain⟨y2,rfl,b2⟩:=h2.str_inv
 obtain⟨y3,rfl,b3⟩:=h3.i64_inv
 obtain⟨y4,rfl,b4⟩:=h4.i64_inv
 obtain⟨y5,rfl,b5⟩:=h5.i64_inv
 obtain⟨y6,rfl,b6⟩:=h6.str_inv
 exact⟨⟨y0,y1,y2,y3,y4,y5,y6⟩,rfl,⟨b0,b1,b2,b3,b4,b5,b6⟩⟩
def Prm.sh:List CSh:=[.int .i64,.int .i64]
structure Prm.Dk (z:Prm):Prop where
 chan:-9223372036854775808≤z.chan∧z.chan≤9223372036854775807
 attr:-9223372036854775808≤z.attr∧z.attr≤9223372036854775807
theorem Prm.rd {vs:List V}(h:OkCs Prm.sh vs):∃x:Prm,V.agg vs=x.v∧x.Dk:=by
 obtain⟨v0,r0,rfl,h0,t0⟩:=h.cons_inv
 obtain⟨v1,r1,rfl,h1,t1⟩:=t0.cons_inv
 obtain rfl:=t1.nil_inv
 obtain⟨y0,rfl,b0⟩:=h0.i64_inv
 obtain⟨y1,rfl,b1⟩:=h1.i64_inv
 exact⟨⟨y0,y1⟩,rfl,⟨b0,b1⟩⟩
def Val.sh:List CSh:=[.int .i64,.int .i64]
structure Val.Dk (z:Val):Prop where
 pal:-9223372036854775808≤z.pal∧z.pal≤9223372036854775807
 lev:-9223372036854775808≤z.lev∧z.lev≤9223372036854775807
theorem Val.rd {vs:List V}(h:OkCs Val.sh vs):∃x:Val,V.agg vs=x.v∧x.Dk:=by
 obtain⟨v0,r0,rfl,h0,t0⟩:=h.cons_inv
 obtain⟨v1,r1,rfl,h1,t1⟩:=t0.cons_inv
 obtain rfl:=t1.nil_inv
 obtain⟨y0,rfl,b0⟩:=h0.i64_inv
 obtain⟨y1,rfl,b1⟩:=h1.i64_inv
 exact⟨⟨y0,y1⟩,rfl,⟨b0,b1⟩⟩
def Grp.sh:List CSh:=[.int .i64,.sl false 8 [.int .i64]]
structure Grp.Dk (z:Grp):Prop where
 num:-9223372036854775808≤z.num∧z.num≤9223372036854775807
 chans:z.chans.length≤140737488351232∧∀q∈z.chans,-9223372036854775808≤q∧q≤9223372036854775807
theorem Grp.rd {vs:List V}(h:OkCs Grp.sh vs):∃x:Grp,V.agg vs=x.v∧x.Dk:=by
 obtain⟨v0,r0,rfl,h0,t0⟩:=h.cons_inv
 obtain⟨v1,r1,rfl,h1,t1⟩:=t0.cons_inv
 obtain rfl:=t1.nil_inv
 obtain⟨y0,rfl,b0⟩:=h0.i64_inv
 obtain⟨y1,rfl,b1⟩:=h1.one_inv (f:=V.int .i64) (by decide) (fun v h=>h.i64_inv)
 exact⟨⟨y0,y1⟩,rfl,⟨b0,b1⟩⟩
def Hue.sh:List CSh:=[.int .i64,.int .i64,.int .i64]
structure Hue.Dk (z:Hue):Prop where
 chan:-9223372036854775808≤z.chan∧z.chan≤9223372036854775807
 attr:-9223372036854775808≤z.attr∧z.attr≤9223372036854775807
 lev:-9223372036854775808≤z.lev∧z.lev≤9223372036854775807
theorem Hue.rd {vs:List V}(h:OkCs Hue.sh vs):∃x:Hue,V.agg vs=x.v∧x.Dk:=by
 obtain⟨v0,r0,rfl,h0,t0⟩:=h.cons_inv
 obtain⟨v1,r1,rfl,h1,t1⟩:=t0.cons_inv
 obtain⟨v2,r2,rfl,h2,t2⟩:=t1.cons_inv
 obtain rfl:=t2.nil_inv
 obtain⟨y0,rfl,b0⟩:=h0.i64_inv
 obtain⟨y1,rfl,b1⟩:=h1.i64_inv
 obtain⟨y2,rfl,b2⟩:=h2.i64_inv
 exact⟨⟨y0,y1,y2⟩,rfl,⟨b0,b1,b2⟩⟩
def Pal.sh:List CSh:=[.int .i64,.sl true 24 Hue.sh]
structure Pal.Dk (z:Pal):Prop where
 num:-9223372036854775808≤z.num∧z.num≤9223372036854775807
 hues:z.hues.length≤140737488351232∧∀q∈z.hues,q.Dk
theorem Pal.rd {vs:List V}(h:OkCs Pal.sh vs):∃x:Pal,V.agg vs=x.v∧x.Dk:=by
 obtain⟨v0,r0,rfl,h0,t0⟩:=h.cons_inv
 obtain⟨v1,r1,rfl,h1,t1⟩:=t0.cons_inv
 obtain rfl:=t1.nil_inv
 obtain⟨y0,rfl,b0⟩:=h0.i64_inv
 obtain⟨y1,rfl,b1⟩:=h1.agg_inv (f:=Hue.v) (by decide) (fun _=>Hue.rd)
 exact⟨⟨y0,y1⟩,rfl,⟨b0,b1⟩⟩
def Tim.sh:List CSh:=[.int .i64,.int .i64,.int .i64,.int .i64,.int .i64,.int .i64]
structure Tim.Dk (z:Tim):Prop where
 up:-9223372036854775808≤z.up∧z.up≤9223372036854775807
 down:-9223372036854775808≤z.down∧z.down≤9223372036854775807
 posi:-9223372036854775808≤z.posi∧z.posi≤9223372036854775807
 colour:-9223372036854775808≤z.colour∧z.colour≤9223372036854775807
 beam:-9223372036854775808≤z.beam∧z.beam≤9223372036854775807
 delay:-9223372036854775808≤z.delay∧z.delay≤9223372036854775807
theorem Tim.rd {vs:List V}(h:OkCs Tim.sh vs):∃x:Tim,V.agg vs=x.v∧x.Dk:=by
 obtain⟨v0,r0,rfl,h0,t0⟩:=h.cons_inv
 obtain⟨v1,r1,rfl,h1,t1⟩:=t0.cons_inv
 obtain⟨v2,r2,rfl,h2,t2⟩:=t1.cons_inv
 obtain⟨v3,r3,rfl,h3,t3⟩:=t2.cons_inv
 obtain⟨v4,r4,rfl,h4,t4⟩:=t3.cons_inv
 obtain⟨v5,r5,rfl,h5,t5⟩:=t4.cons_inv
 obtain rfl:=t5.nil_inv
 obtain⟨y0,rfl,b0⟩:=h0.i64_inv
 obtain⟨y1,rfl,b1⟩:=h1.i64_inv
 obtain⟨y2,rfl,b2⟩:=h2.i64_inv
 obtain⟨y3,rfl,b3⟩:=h3.i64_inv
 obtain⟨y4,rfl,b4⟩:=h4.i64_inv
 obtain⟨y5,rfl,b5⟩:=h5.i64_inv
 exact⟨⟨y0,y1,y2,y3,y4,y5⟩,rfl,⟨b0,b1,b2,b3,b4,b5⟩⟩
def Mov.sh:List CSh:=[.int .i64,.int .i64,.int .i64,.int .i64,.int .i64]
structure Mov.Dk (z:Mov):Prop where
 prm:z.prm.Dk
 val:z.val.Dk
 part:-9223372036854775808≤z.part∧z.part≤9223372036854775807
theorem Mov.rd {vs:List V}(h:OkCs Mov.sh vs):∃x:Mov,V.agg vs=x.v∧x.Dk:=by
 obtain⟨v0,r0,rfl,h0,t0⟩:=h.cons_inv
 obtain⟨v1,r1,rfl,h1,t1⟩:=t0.cons_inv
 obtain⟨v2,r2,rfl,h2,t2⟩:=t1.cons_inv
 obtain⟨v3,r3,rfl,h3,t3⟩:=t2.cons_inv
 obtain⟨v4,r4,rfl,h4,t4⟩:=t3.cons_inv
 obtain rfl:=t4.nil_inv
 obtain⟨y0,rfl,b0⟩:=h0.i64_inv
 obtain⟨y1,rfl,b1⟩:=h1.i64_inv
 obtain⟨y2,rfl,b2⟩:=h2.i64_inv
 obtain⟨y3,rfl,b3⟩:=h3.i64_inv
 obtain⟨y4,rfl,b4⟩:=h4.i64_inv
 exact⟨⟨⟨y0,y1⟩,⟨y2,y3⟩,y4⟩,rfl,⟨⟨b0,b1⟩,⟨b2,b3⟩,b4⟩⟩
def Cu.sh:List CSh:=[.str,.str,.sl true 40 Mov.sh,.sl true 48 Tim.sh,.bool,.bool,.int .i64,.str,.int .i64]
structure Cu.Dk (z:Cu):Prop where
 num:z.num.length≤140737488351232
 label:z.label.length≤140737488351232
 moves:z.moves.length≤140737488351232∧∀q∈z.moves,q.Dk
 parts:z.parts.length≤140737488351232∧∀q∈z.parts,q.Dk
 block:True
 mark:True
 follow:-9223372036854775808≤z.follow∧z.follow≤9223372036854775807
 link:z.link.length≤140737488351232
 loops:-9223372036854775808≤z.loops∧z.loops≤9223372036854775807
theorem Cu.rd {vs:List V}(h:OkCs Cu.sh vs):∃x:Cu,V.agg vs=x.v∧x.Dk:=by
 obtain⟨v0,r0,rfl,h0,t0⟩:=h.cons_inv
 obtain⟨v1,r1,rfl,h1,t1⟩:=t0.cons_inv
 obtain⟨v2,r2,rfl,h2,t2⟩:=t1.cons_inv
 obtain⟨v3,r3,rfl,h3,t3⟩:=t2.cons_inv
 obtain⟨v4,r4,rfl,h4,t4⟩:=t3.cons_inv
 obtain⟨v5,r5,rfl,h5,t5⟩:=t4.cons_inv
 obtain⟨v6,r6,rfl,h6,t6⟩:=t5.cons_inv
 obtain⟨v7,r7,rfl,h7,t7⟩:=t6.cons_inv
 obtain⟨v8,r8,rfl,h8,t8⟩:=t7.cons_inv
 obtain rfl:=t8.nil_inv
 obtain⟨y0,rfl,b0⟩:=h0.str_inv
 obtain⟨y1,rfl,b1⟩:=h1.str_inv
 obtain⟨y2,rfl,b2⟩:=h2.agg_inv (f:=Mov.v) (by decide) (fun _=>Mov.rd)
 obtain⟨y3,rfl,b3⟩:=h3.agg_inv (f:=Tim.v) (by decide) (fun _=>Tim.rd)
 obtain⟨y4,rfl⟩:=h4.bool_inv
 have b4:=trivial
 obtain⟨y5,rfl⟩:=h5.bool_inv
 have b5:=trivial
 obtain⟨y6,rfl,b6⟩:=h6.i64_inv
 obtain⟨y7,rfl,b7⟩:=h7.str_inv
 obtain⟨y8,rfl,b8⟩:=h8.i64_inv
 exact⟨⟨y0,y1,y2,y3,y4,y5,y6,y7,y8⟩,rfl,⟨b0,b1,b2,b3,b4,b5,b6,b7,b8⟩⟩
def Lst.sh:List CSh:=[.int .i64,.int .i64,.sl true 120 Cu.sh]
structure Lst.Dk (z:Lst):Prop where
 num:-9223372036854775808≤z.num∧z.num≤9223372036854775807
 prio:-9223372036854775808≤z.prio∧z.prio≤9223372036854775807
 cues:z.cues.length≤140737488351232∧∀q∈z.cues,q.Dk
theorem Lst.rd {vs:List V}(h:OkCs Lst.sh vs):∃x:Lst,V.agg vs=x.v∧x.Dk:=by
 obtain⟨v0,r0,rfl,h0,t0⟩:=h.cons_inv
 obtain⟨v1,r1,rfl,h1,t1⟩:=t0.cons_inv
 obtain⟨v2,r2,rfl,h2,t2⟩:=t1.cons_inv
 obtain rfl:=t2.nil_inv
 obtain⟨y0,rfl,b0⟩:=h0.i64_inv
 obtain⟨y1,rfl,b1⟩:=h1.i64_inv
 obtain⟨y2,rfl,b2⟩:=h2.agg_inv (f:=Cu.v) (by decide) (fun _=>Cu.rd)
 exact⟨⟨y0,y1,y2⟩,rfl,⟨b0,b1,b2⟩⟩
def Gan.sh:List CSh:=[.int .i64,.int .i64,.int .i64]
structure Gan.Dk (z:Gan):Prop where
 prm:z.prm.Dk
 lev:-9223372036854775808≤z.lev∧z.lev≤9223372036854775807
theorem Gan.rd {vs:List V}(h:OkCs Gan.sh vs):∃x:Gan,V.agg vs=x.v∧x.Dk:=by
 obtain⟨v0,r0,rfl,h0,t0⟩:=h.cons_inv
 obtain⟨v1,r1,rfl,h1,t1⟩:=t0.cons_inv
 obtain⟨v2,r2,rfl,h2,t2⟩:=t1.cons_inv
 obtain rfl:=t2.nil_inv
 obtain⟨y0,rfl,b0⟩:=h0.i64_inv
 obtain⟨y1,rfl,b1⟩:=h1.i64_inv
 obtain⟨y2,rfl,b2⟩:=h2.i64_inv
 exact⟨⟨⟨y0,y1⟩,y2⟩,rfl,⟨⟨b0,b1⟩,b2⟩⟩
def Sb.sh:List CSh:=[.int .i64,.int .i64,.bool,.sl true 24 Gan.sh]
structure Sb.Dk (z:Sb):Prop where
 num:-9223372036854775808≤z.num∧z.num≤9223372036854775807
 prio:-9223372036854775808≤z.prio∧z.prio≤9223372036854775807
 inh:True
 gains:z.gains.length≤140737488351232∧∀q∈z.gains,q.Dk
theorem Sb.rd {vs:List V}(h:OkCs Sb.sh vs):∃x:Sb,V.agg vs=x.v∧x.Dk:=by
 obtain⟨v0,r0,rfl,h0,t0⟩:=h.cons_inv
 obtain⟨v1,r1,rfl,h1,t1⟩:=t0.cons_inv
 obtain⟨v2,r2,rfl,h2,t2⟩:=t1.cons_inv
 obtain⟨v3,r3,rfl,h3,t3⟩:=t2.cons_inv
 obtain rfl:=t3.nil_inv
 obtain⟨y0,rfl,b0⟩:=h0.i64_inv
 obtain⟨y1,rfl,b1⟩:=h1.i64_inv
 obtain⟨y2,rfl⟩:=h2.bool_inv
 have b2:=trivial
 obtain⟨y3,rfl,b3⟩:=h3.agg_inv (f:=Gan.v) (by decide) (fun _=>Gan.rd)
 exact⟨⟨y0,y1,y2,y3⟩,rfl,⟨b0,b1,b2,b3⟩⟩
def Eff.sh:List CSh:=[.int .i64,.int .i64,.sl true 16 Pt.sh,.int .i64,.int .i64,.int .i64]
structure Eff.Dk (z:Eff):Prop where
 num:-9223372036854775808≤z.num∧z.num≤9223372036854775807
 attr:-9223372036854775808≤z.attr∧z.attr≤9223372036854775807
 wave:z.wave.length≤140737488351232∧∀q∈z.wave,q.Dk
 period:-9223372036854775808≤z.period∧z.period≤9223372036854775807
 spread:-9223372036854775808≤z.spread∧z.spread≤9223372036854775807
 size:-9223372036854775808≤z.size∧z.size≤9223372036854775807
theorem Eff.rd {vs:List V}(h:OkCs Eff.sh vs):∃x:Eff,V.agg vs=x.v∧x.Dk:=by
 obtain⟨v0,r0,rfl,h0,t0⟩:=h.cons_inv
 obtain⟨v1,r1,rfl,h1,t1⟩:=t0.cons_inv
 obtain⟨v2,r2,rfl,h2,t2⟩:=t1.cons_inv
 obtain⟨v3,r3,rfl,h3,t3⟩:=t2.cons_inv
 obtain⟨v4,r4,rfl,h4,t4⟩:=t3.cons_inv
 obtain⟨v5,r5,rfl,h5,t5⟩:=t4.cons_inv
 obtain rfl:=t5.nil_inv
 obtain⟨y0,rfl,b0⟩:=h0.i64_inv
 obtain⟨y1,rfl,b1⟩:=h1.i64_inv
 obtain⟨y2,rfl,b2⟩:=h2.agg_inv (f:=Pt.v) (by decide) (fun _=>Pt.rd)
 obtain⟨y3,rfl,b3⟩:=h3.i64_inv
 obtain⟨y4,rfl,b4⟩:=h4.i64_inv
 obtain⟨y5,rfl,b5⟩:=h5.i64_inv
 exact⟨⟨y0,y1,y2,y3,y4,y5⟩,rfl,⟨b0,b1,b2,b3,b4,b5⟩⟩
def Sho.sh:List CSh:=[.str,.sl false 24 [.sl true 16 Pt.sh],.sl true 56 Prof.sh,.sl true 72 Fixt.sh,.sl true 32 Grp.sh,.sl true 32 Pal.sh,.sl true 40 Lst.sh,.sl true 48 Sb.sh,.sl true 64 Eff.sh]
structure Sho.Dk (z:Sho):Prop where
 title:z.title.length≤140737488351232
 curves:z.curves.length≤140737488351232∧∀l∈z.curves,l.length≤140737488351232∧∀q∈l,q.Dk
 profs:z.profs.length≤140737488351232∧∀q∈z.profs,q.Dk
 fixts:z.fixts.length≤140737488351232∧∀q∈z.fixts,q.Dk
 grps:z.grps.length≤140737488351232∧∀q∈z.grps,q.Dk
 pals:z.pals.length≤140737488351232∧∀q∈z.pals,q.Dk
 lsts:z.lsts.length≤140737488351232∧∀q∈z.lsts,q.Dk
 subs:z.subs.length≤140737488351232∧∀q∈z.subs,q.Dk
 effs:z.effs.length≤140737488351232∧∀q∈z.effs,q.Dk
theorem Sho.rd {vs:List V}(h:OkCs Sho.sh vs):∃x:Sho,V.agg vs=x.v∧x.Dk:=by
 obtain⟨v0,r0,rfl,h0,t0⟩:=h.cons_inv
 obtain⟨v1,r1,rfl,h1,t1⟩:=t0.cons_inv
 obtain⟨v2,r2,rfl,h2,t2⟩:=t1.cons_inv
 obtain⟨v3,r3,rfl,h3,t3⟩:=t2.cons_inv
 obtain⟨v4,r4,rfl,h4,t4⟩:=t3.cons_inv
 obtain⟨v5,r5,rfl,h5,t5⟩:=t4.cons_inv
 obtain⟨v6,r6,rfl,h6,t6⟩:=t5.cons_inv
 obtain⟨v7,r7,rfl,h7,t7⟩:=t6.cons_inv
 obtain⟨v8,r8,rfl,h8,t8⟩:=t7.cons_inv
 obtain rfl:=t8.nil_inv
 obtain⟨y0,rfl,b0⟩:=h0.str_inv
 obtain⟨y1,rfl,b1⟩:=h1.one_inv (f:=Pt.vs) (by decide) (fun v h=>h.agg_inv (f:=Pt.v) (by decide) (fun _=>Pt.rd))
 obtain⟨y2,rfl,b2⟩:=h2.agg_inv (f:=Prof.v) (by decide) (fun _=>Prof.rd)
 obtain⟨y3,rfl,b3⟩:=h3.agg_inv (f:=Fixt.v) (by decide) (fun _=>Fixt.rd)
 obtain⟨y4,rfl,b4⟩:=h4.agg_inv (f:=Grp.v) (by decide) (fun _=>Grp.rd)
 obtain⟨y5,rfl,b5⟩:=h5.agg_inv (f:=Pal.v) (by decide) (fun _=>Pal.rd)
 obtain⟨y6,rfl,b6⟩:=h6.agg_inv (f:=Lst.v) (by decide) (fun _=>Lst.rd)
 obtain⟨y7,rfl,b7⟩:=h7.agg_inv (f:=Sb.v) (by decide) (fun _=>Sb.rd)
 obtain⟨y8,rfl,b8⟩:=h8.agg_inv (f:=Eff.v) (by decide) (fun _=>Eff.rd)
 exact⟨⟨y0,y1,y2,y3,y4,y5,y6,y7,y8⟩,rfl,⟨b0,b1,b2,b3,b4,b5,b6,b7,b8⟩⟩
def Edi.sh:List CSh:=[.int .i64,.int .i64,.int .i64,.int .i64,.str,.str,.str,.sl true 40 Mov.sh,.sl true 48 Tim.sh,.bool,.bool,.int .i64,.str,.int .i64,.int .i64,.sl true 24 Hue.sh,.int .i64,.sl false 8 [.int .i64],.int .i64,.int .i64,.bool,.sl true 24 Gan.sh,.int .i64,.int .i64,.sl true 16 Pt.sh,.int .i64,.int .i64,.int .i64,.int .i64,.int .i64,.str,.int .i64,.int .i64,.int .i64,.str]
structure Edi.Dk (z:Edi):Prop where
 kind:-9223372036854775808≤z.kind∧z.kind≤9223372036854775807
 num:-9223372036854775808≤z.num∧z.num≤9223372036854775807
 chan:-9223372036854775808≤z.chan∧z.chan≤9223372036854775807
 prio:-9223372036854775808≤z.prio∧z.prio≤9223372036854775807
 key:z.key.length≤140737488351232
 cue:z.cue.Dk
 pal:z.pal.Dk
 grp:z.grp.Dk
 sub:z.sub.Dk
 eff:z.eff.Dk
 fix:z.fix.Dk
theorem Edi.rd {vs:List V}(h:OkCs Edi.sh vs):∃x:Edi,V.agg vs=x.v∧x.Dk:=by
 obtain⟨v0,r0,rfl,h0,t0⟩:=h.cons_inv
 obtain⟨v1,r1,rfl,h1,t1⟩:=t0.cons_inv
 obtain⟨v2,r2,rfl,h2,t2⟩:=t1.cons_inv
 obtain⟨v3,r3,rfl,h3,t3⟩:=t2.cons_inv
 obtain⟨v4,r4,rfl,h4,t4⟩:=t3.cons_inv
 obtain⟨v5,r5,rfl,h5,t5⟩:=t4.cons_inv
 obtain⟨v6,r6,rfl,h6,t6⟩:=t5.cons_inv
 obtain⟨v7,r7,rfl,h7,t7⟩:=t6.cons_inv
 obtain⟨v8,r8,rfl,h8,t8⟩:=t7.cons_inv
 obtain⟨v9,r9,rfl,h9,t9⟩:=t8.cons_inv
 obtain⟨v10,r10,rfl,h10,t10⟩:=t9.cons_inv
 obtain⟨v11,r11,rfl,h11,t11⟩:=t10.cons_inv
 obtain⟨v12,r12,rfl,h12,t12⟩:=t11.cons_inv
 obtain⟨v13,r13,rfl,h13,t13⟩:=t12.cons_inv
 obtain⟨v14,r14,rfl,h14,t14⟩:=t13.cons_inv
 obtain⟨v15,r15,rfl,h15,t15⟩:=t14.cons_inv
 obtain⟨v16,r16,rfl,h16,t16⟩:=t15.cons_inv
 obtain⟨v17,r17,rfl,h17,t17⟩:=t16.cons_inv
 obtain⟨v18,r18,rfl,h18,t18⟩:=t17.cons_inv
 obtain⟨v19,r19,rfl,h19,t19⟩:=t18.cons_inv
 obtain⟨v20,r20,rfl,h20,t20⟩:=t19.cons_inv
 obtain⟨v21,r21,rfl,h21,t21⟩:=t20.cons_inv
 obtain⟨v22,r22,rfl,h22,t22⟩:=t21.cons_inv
 obtain⟨v23,r23,rfl,h23,t23⟩:=t22.cons_inv
 obtain⟨v24,r24,rfl,h24,t24⟩:=t23.cons_inv
 obtain⟨v25,r25,rfl,h25,t25⟩:=t24.cons_inv
 obtain⟨v26,r26,rfl,h26,t26⟩:=t25.cons_inv
 obtain⟨v27,r27,rfl,h27,t27⟩:=t26.cons_inv
 obtain⟨v28,r28,rfl,h28,t28⟩:=t27.cons_inv
 obtain⟨v29,r29,rfl,h29,t29⟩:=t28.cons_inv
 obtain⟨v30,r30,rfl,h30,t30⟩:=t29.cons_inv
 obtain⟨v31,r31,rfl,h31,t31⟩:=t30.cons_inv
 obtain⟨v32,r32,rfl,h32,t32⟩:=t31.cons_inv
 obtain⟨v33,r33,rfl,h33,t33⟩:=t32.cons_inv
 obtain⟨v34,r34,rfl,h34,t34⟩:=t33.cons_inv
 obtain rfl:=t34.nil_inv
 obtain⟨y0,rfl,b0⟩:=h0.i64_inv
 obtain⟨y1,rfl,b1⟩:=h1.i64_inv
 obtain⟨y2,rfl,b2⟩:=h2.i64_inv
 obtain⟨y3,rfl,b3⟩:=h3.i64_inv
 obtain⟨y4,rfl,b4⟩:=h4.str_inv
 obtain⟨y5,rfl,b5⟩:=h5.str_inv
 obtain⟨y6,rfl,b6⟩:=h6.str_inv
 obtain⟨y7,rfl,b7⟩:=h7.agg_inv (f:=Mov.v) (by decide) (fun _=>Mov.rd)
 obtain⟨y8,rfl,b8⟩:=h8.agg_inv (f:=Tim.v) (by decide) (fun _=>Tim.rd)
 obtain⟨y9,rfl⟩:=h9.bool_inv
 have b9:=trivial
 obtain⟨y10,rfl⟩:=h10.bool_inv
 have b10:=trivial
 obtain⟨y11,rfl,b11⟩:=h11.i64_inv
 obtain⟨y12,rfl,b12⟩:=h12.str_inv
 obtain⟨y13,rfl,b13⟩:=h13.i64_inv
 obtain⟨y14,rfl,b14⟩:=h14.i64_inv
 obtain⟨y15,rfl,b15⟩:=h15.agg_inv (f:=Hue.v) (by decide) (fun _=>Hue.rd)
 obtain⟨y16,rfl,b16⟩:=h16.i64_inv
 obtain⟨y17,rfl,b17⟩:=h17.one_inv (f:=V.int .i64) (by decide) (fun v h=>h.i64_inv)
 obtain⟨y18,rfl,b18⟩:=h18.i64_inv
 obtain⟨y19,rfl,b19⟩:=h19.i64_inv
 obtain⟨y20,rfl⟩:=h20.bool_inv
 have b20:=trivial
 obtain⟨y21,rfl,b21⟩:=h21.agg_inv (f:=Gan.v) (by decide) (fun _=>Gan.rd)
 obtain⟨y22,rfl,b22⟩:=h22.i64_inv
 obtain⟨y23,rfl,b23⟩:=h23.i64_inv
 obtain⟨y24,rfl,b24⟩:=h24.agg_inv (f:=Pt.v) (by decide) (fun _=>Pt.rd)
 obtain⟨y25,rfl,b25⟩:=h25.i64_inv
 obtain⟨y26,rfl,b26⟩:=h26.i64_inv
 obtain⟨y27,rfl,b27⟩:=h27.i64_inv
 obtain⟨y28,rfl,b28⟩:=h28.i64_inv
 obtain⟨y29,rfl,b29⟩:=h29.i64_inv
 obtain⟨y30,rfl,b30⟩:=h30.str_inv
 obtain⟨y31,rfl,b31⟩:=h31.i64_inv
 obtain⟨y32,rfl,b32⟩:=h32.i64_inv
 obtain⟨y33,rfl,b33⟩:=h33.i64_inv
 obtain⟨y34,rfl,b34⟩:=h34.str_inv
 exact⟨⟨y0,y1,y2,y3,y4,⟨y5,y6,y7,y8,y9,y10,y11,y12,y13⟩,⟨y14,y15⟩,⟨y16,y17⟩,⟨y18,y19,y20,y21⟩,⟨y22,y23,y24,y25,y26,y27⟩,⟨y28,y29,y30,y31,y32,y33,y34⟩⟩,rfl,⟨b0,b1,b2,b3,b4,⟨b5,b6,b7,b8,b9,b10,b11,b12,b13⟩,⟨b14,b15⟩,⟨b16,b17⟩,⟨b18,b19,b20,b21⟩,⟨b22,b23,b24,b25,b26,b27⟩,⟨b28,b29,b30,b31,b32,b33,b34⟩⟩⟩
def His.sh:List CSh:=[.sl true 208 Sho.sh,.str,.sl false 24 [.sl true 16 Pt.sh],.sl true 56 Prof.sh,.sl true 72 Fixt.sh,.sl true 32 Grp.sh,.sl true 32 Pal.sh,.sl true 40 Lst.sh,.sl true 48 Sb.sh,.sl true 64 Eff.sh,.sl true 208 Sho.sh]
structure His.Dk (z:His):Prop where
 past:z.past.length≤140737488351232∧∀q∈z.past,q.Dk
 shw:z.shw.Dk
 fut:z.fut.length≤140737488351232∧∀q∈z.fut,q.Dk
theorem His.rd {vs:List V}(h:OkCs His.sh vs):∃x:His,V.agg vs=x.v∧x.Dk:=by
 obtain⟨v0,r0,rfl,h0,t0⟩:=h.cons_inv
 obtain⟨v1,r1,rfl,h1,t1⟩:=t0.cons_inv
 obtain⟨v2,r2,rfl,h2,t2⟩:=t1.cons_inv
 obtain⟨v3,r3,rfl,h3,t3⟩:=t2.cons_inv
 obtain⟨v4,r4,rfl,h4,t4⟩:=t3.cons_inv
 obtain⟨v5,r5,rfl,h5,t5⟩:=t4.cons_inv
 obtain⟨v6,r6,rfl,h6,t6⟩:=t5.cons_inv
 obtain⟨v7,r7,rfl,h7,t7⟩:=t6.cons_inv
 obtain⟨v8,r8,rfl,h8,t8⟩:=t7.cons_inv
 obtain⟨v9,r9,rfl,h9,t9⟩:=t8.cons_inv
 obtain⟨v10,r10,rfl,h10,t10⟩:=t9.cons_inv
 obtain rfl:=t10.nil_inv
 obtain⟨y0,rfl,b0⟩:=h0.agg_inv (f:=Sho.v) (by decide) (fun _=>Sho.rd)
 obtain⟨y1,rfl,b1⟩:=h1.str_inv
 obtain⟨y2,rfl,b2⟩:=h2.one_inv (f:=Pt.vs) (by decide) (fun v h=>h.agg_inv (f:=Pt.v) (by decide) (fun _=>Pt.rd))
 obtain⟨y3,rfl,b3⟩:=h3.agg_inv (f:=Prof.v) (by decide) (fun _=>Prof.rd)
 obtain⟨y4,rfl,b4⟩:=h4.agg_inv (f:=Fixt.v) (by decide) (fun _=>Fixt.rd)
 obtain⟨y5,rfl,b5⟩:=h5.agg_inv (f:=Grp.v) (by decide) (fun _=>Grp.rd)
 obtain⟨y6,rfl,b6⟩:=h6.agg_inv (f:=Pal.v) (by decide) (fun _=>Pal.rd)
 obtain⟨y7,rfl,b7⟩:=h7.agg_inv (f:=Lst.v) (by decide) (fun _=>Lst.rd)
 obtain⟨y8,rfl,b8⟩:=h8.agg_inv (f:=Sb.v) (by decide) (fun _=>Sb.rd)
 obtain⟨y9,rfl,b9⟩:=h9.agg_inv (f:=Eff.v) (by decide) (fun _=>Eff.rd)
 obtain⟨y10,rfl,b10⟩:=h10.agg_inv (f:=Sho.v) (by decide) (fun _=>Sho.rd)
 exact⟨⟨y0,⟨y1,y2,y3,y4,y5,y6,y7,y8,y9⟩,y10⟩,rfl,⟨b0,⟨b1,b2,b3,b4,b5,b6,b7,b8,b9⟩,b10⟩⟩
theorem Pt.inj {x y:Pt}(h:x.v=y.v):x=y:=by
 obtain⟨x0,x1⟩:=x;obtain⟨y0,y1⟩:=y
 simp only[Pt.v,V.agg.injEq,List.cons.injEq,V.int.injEq,V.str.injEq,V.bool.injEq,V.sl.injEq,true_and,and_true]at h
 obtain⟨h0,h1⟩:=h
 cases h0
 cases h1
 rfl
theorem Slt.inj {x y:Slt}(h:x.v=y.v):x=y:=by
 obtain⟨x0,x1,x2⟩:=x;obtain⟨y0,y1,y2⟩:=y
 simp only[Slt.v,V.agg.injEq,List.cons.injEq,V.int.injEq,V.str.injEq,V.bool.injEq,V.sl.injEq,true_and,and_true]at h
 obtain⟨h0,h1,h2⟩:=h
 cases h0
 cases h1
 cases h2
 rfl
theorem Ftr.inj {x y:Ftr}(h:x.v=y.v):x=y:=by
 obtain⟨x0,x1,x2,x3,x4,x5,x6,x7,x8,x9⟩:=x;obtain⟨y0,y1,y2,y3,y4,y5,y6,y7,y8,y9⟩:=y
 simp only[Ftr.v,V.agg.injEq,List.cons.injEq,V.int.injEq,V.str.injEq,V.bool.injEq,V.sl.injEq,true_and,and_true]at h
 obtain⟨h0,h1,h2,h3,h4,h5,h6,h7,h8,h9⟩:=h
 cases h0
 cases h1
 cases h2
 cases h3
 cases h4
 cases h5
 cases h6
 cases h7
 cases h8
 cases map_inj Slt.inj h9
 rfl
theorem Prof.inj {x y:Prof}(h:x.v=y.v):x=y:=by
 obtain⟨x0,x1,x2,x3⟩:=x;obtain⟨y0,y1,y2,y3⟩:=y
 simp only[Prof.v,V.agg.injEq,List.cons.injEq,V.int.injEq,V.str.injEq,V.bool.injEq,V.sl.injEq,true_and,and_true]at h
 obtain⟨h0,h1,h2,h3⟩:=h
 cases h0
 cases h1
 cases h2
 cases map_inj Ftr.inj h3
 rfl
theorem Fixt.inj {x y:Fixt}(h:x.v=y.v):x=y:=by
 obtain⟨x0,x1,x2,x3,x4,x5,x6⟩:=x;obtain⟨y0,y1,y2,y3,y4,y5,y6⟩:=y
 simp only[Fixt.v,V.agg.injEq,List.cons.injEq,V.int.injEq,V.str.injEq,V.bool.injEq,V.sl.injEq,true_and,and_true]at h
 obtain⟨h0,h1,h2,h3,h4,h5,h6⟩:=h
 cases h0
 cases h1
 cases h2
 cases h3
 cases h4
 cases h5
 cases h6
 rfl
theorem Prm.inj {x y:Prm}(h:x.v=y.v):x=y:=by
 obtain⟨x0,x1⟩:=x;obtain⟨y0,y1⟩:=y
 simp only[Prm.v,V.agg.injEq,List.cons.injEq,V.int.injEq,V.str.injEq,V.bool.injEq,V.sl.injEq,true_and,and_true]at h
 obtain⟨h0,h1⟩:=h
 cases h0
 cases h1
 rfl
theorem Val.inj {x y:Val}(h:x.v=y.v):x=y:=by
 obtain⟨x0,x1⟩:=x;obtain⟨y0,y1⟩:=y
 simp only[Val.v,V.agg.injEq,List.cons.injEq,V.int.injEq,V.str.injEq,V.bool.injEq,V.sl.injEq,true_and,and_true]at h
 obtain⟨h0,h1⟩:=h
 cases h0
 cases h1
 rfl
theorem Grp.inj {x y:Grp}(h:x.v=y.v):x=y:=by
 obtain⟨x0,x1⟩:=x;obtain⟨y0,y1⟩:=y
 simp only[Grp.v,V.agg.injEq,List.cons.injEq,V.int.injEq,V.str.injEq,V.bool.injEq,V.sl.injEq,true_and,and_true]at h
 obtain⟨h0,h1⟩:=h
 cases h0
 cases map_inj (f:=V.int .i64) (fun h=>(V.int.inj h).2) h1
 rfl
theorem Hue.inj {x y:Hue}(h:x.v=y.v):x=y:=by
 obtain⟨x0,x1,x2⟩:=x;obtain⟨y0,y1,y2⟩:=y
 simp only[Hue.v,V.agg.injEq,List.cons.injEq,V.int.injEq,V.str.injEq,V.bool.injEq,V.sl.injEq,true_and,and_true]at h
 obtain⟨h0,h1,h2⟩:=h
 cases h0
 cases h1
 cases h2
 rfl
theorem Pal.inj {x y:Pal}(h:x.v=y.v):x=y:=by
 obtain⟨x0,x1⟩:=x;obtain⟨y0,y1⟩:=y
 simp only[Pal.v,V.agg.injEq,List.cons.injEq,V.int.injEq,V.str.injEq,V.bool.injEq,V.sl.injEq,true_and,and_true]at h
 obtain⟨h0,h1⟩:=h
 cases h0
 cases map_inj Hue.inj h1
 rfl
theorem Tim.inj {x y:Tim}(h:x.v=y.v):x=y:=by
 obtain⟨x0,x1,x2,x3,x4,x5⟩:=x;obtain⟨y0,y1,y2,y3,y4,y5⟩:=y
 simp only[Tim.v,V.agg.injEq,List.cons.injEq,V.int.injEq,V.str.injEq,V.bool.injEq,V.sl.injEq,true_and,and_true]at h
 obtain⟨h0,h1,h2,h3,h4,h5⟩:=h
 cases h0
 cases h1
 cases h2
 cases h3
 cases h4
 cases h5
 rfl
theorem Mov.inj {x y:Mov}(h:x.v=y.v):x=y:=by
 obtain⟨⟨x0,x1⟩,⟨x2,x3⟩,x4⟩:=x;obtain⟨⟨y0,y1⟩,⟨y2,y3⟩,y4⟩:=y
 simp only[Mov.v,V.agg.injEq,List.cons.injEq,V.int.injEq,V.str.injEq,V.bool.injEq,V.sl.injEq,true_and,and_true]at h
 obtain⟨h0,h1,h2,h3,h4⟩:=h
 cases h0
 cases h1
 cases h2
 cases h3
 cases h4
 rfl
theorem Cu.inj {x y:Cu}(h:x.v=y.v):x=y:=by
 obtain⟨x0,x1,x2,x3,x4,x5,x6,x7,x8⟩:=x;obtain⟨y0,y1,y2,y3,y4,y5,y6,y7,y8⟩:=y
 simp only[Cu.v,V.agg.injEq,List.cons.injEq,V.int.injEq,V.str.injEq,V.bool.injEq,V.sl.injEq,true_and,and_true]at h
 obtain⟨h0,h1,h2,h3,h4,h5,h6,h7,h8⟩:=h
 cases h0
 cases h1
 cases map_inj Mov.inj h2
 cases map_inj Tim.inj h3
 cases h4
 cases h5
 cases h6
 cases h7
 cases h8
 rfl
theorem Lst.inj {x y:Lst}(h:x.v=y.v):x=y:=by
 obtain⟨x0,x1,x2⟩:=x;obtain⟨y0,y1,y2⟩:=y
 simp only[Lst.v,V.agg.injEq,List.cons.injEq,V.int.injEq,V.str.injEq,V.bool.injEq,V.sl.injEq,true_and,and_true]at h
 obtain⟨h0,h1,h2⟩:=h
 cases h0
 cases h1
 cases map_inj Cu.inj h2
 rfl
theorem Gan.inj {x y:Gan}(h:x.v=y.v):x=y:=by
 obtain⟨⟨x0,x1⟩,x2⟩:=x;obtain⟨⟨y0,y1⟩,y2⟩:=y
 simp only[Gan.v,V.agg.injEq,List.cons.injEq,V.int.injEq,V.str.injEq,V.bool.injEq,V.sl.injEq,true_and,and_true]at h
 obtain⟨h0,h1,h2⟩:=h
 cases h0
 cases h1
 cases h2
 rfl
theorem Sb.inj {x y:Sb}(h:x.v=y.v):x=y:=by
 obtain⟨x0,x1,x2,x3⟩:=x;obtain⟨y0,y1,y2,y3⟩:=y
 simp only[Sb.v,V.agg.injEq,List.cons.injEq,V.int.injEq,V.str.injEq,V.bool.injEq,V.sl.injEq,true_and,and_true]at h
 obtain⟨h0,h1,h2,h3⟩:=h
 cases h0
 cases h1
 cases h2
 cases map_inj Gan.inj h3
 rfl
theorem Eff.inj {x y:Eff}(h:x.v=y.v):x=y:=by
 obtain⟨x0,x1,x2,x3,x4,x5⟩:=x;obtain⟨y0,y1,y2,y3,y4,y5⟩:=y
 simp only[Eff.v,V.agg.injEq,List.cons.injEq,V.int.injEq,V.str.injEq,V.bool.injEq,V.sl.injEq,true_and,and_true]at h
 obtain⟨h0,h1,h2,h3,h4,h5⟩:=h
 cases h0
 cases h1
 cases map_inj Pt.inj h2
 cases h3
 cases h4
 cases h5
 rfl
theorem Sho.inj {x y:Sho}(h:x.v=y.v):x=y:=by
 obtain⟨x0,x1,x2,x3,x4,x5,x6,x7,x8⟩:=x;obtain⟨y0,y1,y2,y3,y4,y5,y6,y7,y8⟩:=y
 simp only[Sho.v,V.agg.injEq,List.cons.injEq,V.int.injEq,V.str.injEq,V.bool.injEq,V.sl.injEq,true_and,and_true]at h
 obtain⟨h0,h1,h2,h3,h4,h5,h6,h7,h8⟩:=h
 cases h0
 cases map_inj (f:=Pt.vs) (fun h=>map_inj Pt.inj (V.sl.inj h)) h1
 cases map_inj Prof.inj h2
 cases map_inj Fixt.inj h3
 cases map_inj Grp.inj h4
 cases map_inj Pal.inj h5
 cases map_inj Lst.inj h6
 cases map_inj Sb.inj h7
 cases map_inj Eff.inj h8
 rfl
theorem Edi.inj {x y:Edi}(h:x.v=y.v):x=y:=by
 obtain⟨x0,x1,x2,x3,x4,⟨x5,x6,x7,x8,x9,x10,x11,x12,x13⟩,⟨x14,x15⟩,⟨x16,x17⟩,⟨x18,x19,x20,x21⟩,⟨x22,x23,x24,x25,x26,x27⟩,⟨x28,x29,x30,x31,x32,x33,x34⟩⟩:=x;obtain⟨y0,y1,y2,y3,y4,⟨y5,y6,y7,y8,y9,y10,y11,y12,y13⟩,⟨y14,y15⟩,⟨y16,y17⟩,⟨y18,y19,y20,y21⟩,⟨y22,y23,y24,y25,y26,y27⟩,⟨y28,y29,y30,y31,y32,y33,y34⟩⟩:=y
 simp only[Edi.v,V.agg.injEq,List.cons.injEq,V.int.injEq,V.str.injEq,V.bool.injEq,V.sl.injEq,true_and,and_true]at h
 obtain⟨h0,h1,h2,h3,h4,h5,h6,h7,h8,h9,h10,h11,h12,h13,h14,h15,h16,h17,h18,h19,h20,h21,h22,h23,h24,h25,h26,h27,h28,h29,h30,h31,h32,h33,h34⟩:=h
 cases h0
 cases h1
 cases h2
 cases h3
 cases h4
 cases h5
 cases h6
 cases map_inj Mov.inj h7
 cases map_inj Tim.inj h8
 cases h9
 cases h10
 cases h11
 cases h12
 cases h13
 cases h14
 cases map_inj Hue.inj h15
 cases h16
 cases map_inj (f:=V.int .i64) (fun h=>(V.int.inj h).2) h17
 cases h18
 cases h19
 cases h20
 cases map_inj Gan.inj h21
 cases h22
 cases h23
 cases map_inj Pt.inj h24
 cases h25
 cases h26
 cases h27
 cases h28
 cases h29
 cases h30
 cases h31
 cases h32
 cases h33
 cases h34
 rfl
theorem His.inj {x y:His}(h:x.v=y.v):x=y:=by
 obtain⟨x0,⟨x1,x2,x3,x4,x5,x6,x7,x8,x9⟩,x10⟩:=x;obtain⟨y0,⟨y1,y2,y3,y4,y5,y6,y7,y8,y9⟩,y10⟩:=y
 simp only[His.v,V.agg.injEq,List.cons.injEq,V.int.injEq,V.str.injEq,V.bool.injEq,V.sl.injEq,true_and,and_true]at h
 obtain⟨h0,h1,h2,h3,h4,h5,h6,h7,h8,h9,h10⟩:=h
 cases map_inj Sho.inj h0
 cases h1
 cases map_inj (f:=Pt.vs) (fun h=>map_inj Pt.inj (V.sl.inj h)) h2
 cases map_inj Prof.inj h3
 cases map_inj Fixt.inj h4
 cases map_inj Grp.inj h5
 cases map_inj Pal.inj h6
 cases map_inj Lst.inj h7
 cases map_inj Sb.inj h8
 cases map_inj Eff.inj h9
 cases map_inj Sho.inj h10
 rfl
end Go.Proofs.YtmjkgajnpmiomaaGreatDoor

namespace Go.Proofs.YtmjkgajnpmiomaaGreatDoor
open Go.Sha
set_option maxRecDepth 100000
theorem Cu.Dk.ok {x:Cu}(h:x.Dk):x.ok:=⟨by have:=h.num;omega,by have:=h.label;omega,by have:=h.moves.1;omega,by have:=h.parts.1;omega,by have:=h.link;omega⟩
theorem Lst.Dk.ok {x:Lst}(h:x.Dk):x.ok:=⟨by have:=h.cues.1;omega,fun q hq=>(h.cues.2 q hq).ok⟩
theorem Prof.Dk.ok {x:Prof}(h:x.Dk):x.ok∧x.okR:=⟨⟨by have:=h.feats.1;omega,fun q hq=>by have:=(h.feats.2 q hq).wheel.1;omega,by have:=h.name;omega⟩,
 by have:=h.feats.1;omega,fun q hq=>⟨by have:=(h.feats.2 q hq).wheel.1;omega,fun z hz=>by have:=((h.feats.2 q hq).wheel.2 z hz).name;omega⟩,by have:=h.name;omega⟩
theorem Sho.Dk.ok {x : Sho}(h : x.Dk) : x.ok :=
  ⟨by have := h.title; omega, ⟨by have := h.curves.1; omega, fun q hq => by have := (h.curves.2 q hq).1; omega⟩, ⟨by have := h.profs.1; omega, fun q hq => (h.profs.2 q hq).ok.1, fun q hq => (h.profs.2 q hq).ok.2⟩,
   ⟨by have := h.fixts.1; omega, fun q hq => by have := (h.fixts.2 q hq).cable; omega⟩, ⟨by have := h.grps.1; omega, fun q hq => by have := (h.grps.2 q hq).chans.1; omega⟩, ⟨by have := h.pals.1; omega, fun q hq => by have := (h.pals.2 q hq).hues.1; omega⟩,
   ⟨by have := h.lsts.1; omega, fun q hq => (h.lsts.2 q hq).ok⟩, ⟨by have := h.subs.1; omega, fun q hq => by have := (h.subs.2 q hq).gains.1; omega⟩, ⟨by have := h.effs.1; omega, fun q hq => by have := (h.effs.2 q hq).wave.1; omega⟩⟩
end Go.Proofs.YtmjkgajnpmiomaaGreatDoor

namespace Go.Proofs.YtmjkgajnpmiomaaGreatDoor
open Go.Sha Go.Shelf Go.RowKit
set_option maxRecDepth 100000
theorem basT:BasT Tryz.prog:=⟨by kernel_rfl,Tryz.underlying0,Tryz.isAgg0,Tryz.sizeOf0,Tryz.zeroValue0,Tryz.underlying3,Tryz.isAgg3,Tryz.sizeOf3,Tryz.zeroValue3,Tryz.underlying4,Tryz.isAgg4,Tryz.sizeOf4,Tryz.zeroValue4,Tryz.underlying9,Tryz.isAgg9,Tryz.sizeOf9,Tryz.zeroValue9,Tryz.underlying20,Tryz.isAgg20,Tryz.sizeOf20,Tryz.zeroValue20⟩
def rnL:Ren:=⟨fun x=>if x=29 then 169 else 170,fun x=>if x=24 then 27 else if x=9 then 98 else x,fun x=>x⟩
theorem slL:SlB Tryz.prog 24 9 3 40 rnL:=slT basT rfl rfl rfl Tryz.underlying27 Tryz.isAgg27 Tryz.sizeOf27 Tryz.zeroValue27 Tryz.isAgg98 Tryz.sizeOf98 Tryz.zeroValue98 (by kernel_rfl) (by kernel_rfl) (by kernel_rfl)
theorem bearsL:Bears Tryz.prog 103 (Body2.n22 rnL):=⟨"slices.Insert[[]luminaire/api.List,luminaire/api.List]",by decide,by kernel_rfl⟩
theorem ovL:OvL Tryz.prog 169 27 4:=fun args w=>by
 rw[run_callFunc_extern Tryz.func169 (by kernel_rfl) (by kernel_rfl) (by kernel_rfl) (e:=Extern.SlicesOverlaps.overlaps #[27,27] #[4]) (by kernel_rfl)]
def rnE:Ren:=⟨fun x=>if x=29 then 185 else 186,fun x=>if x=24 then 29 else if x=9 then 53 else x,fun x=>x⟩
theorem slE:SlB Tryz.prog 24 9 6 64 rnE:=slT basT rfl rfl rfl Tryz.underlying29 Tryz.isAgg29 Tryz.sizeOf29 Tryz.zeroValue29 Tryz.isAgg53 Tryz.sizeOf53 Tryz.zeroValue53 (by kernel_rfl) (by kernel_rfl) (by kernel_rfl)
theorem bearsE:Bears Tryz.prog 113 (Body2.n22 rnE):=⟨"slices.Insert[[]luminaire/api.Effect,luminaire/api.Effect]",by decide,by kernel_rfl⟩
theorem ovE:OvL Tryz.prog 185 29 4:=fun args w=>by
 rw[run_callFunc_extern Tryz.func185 (by kernel_rfl) (by kernel_rfl) (by kernel_rfl) (e:=Extern.SlicesOverlaps.overlaps #[29,29] #[4]) (by kernel_rfl)]
def rdE:Ren:=⟨fun x=>x,fun x=>if x=22 then 29 else if x=23 then 53 else x,fun x=>x⟩
theorem dlE:SlB Tryz.prog 22 23 6 64 rdE:=slT basT rfl rfl rfl Tryz.underlying29 Tryz.isAgg29 Tryz.sizeOf29 Tryz.zeroValue29 Tryz.isAgg53 Tryz.sizeOf53 Tryz.zeroValue53 (by kernel_rfl) (by kernel_rfl) (by kernel_rfl)
theorem bearsDE:Bears Tryz.prog 115 (SlBodyN.n45 rdE):=⟨"slices.Delete[[]luminaire/api.Effect,luminaire/api.Effect]",by decide,by kernel_rfl⟩
def rnP:Ren:=⟨fun x=>if x=29 then 254 else 255,fun x=>if x=24 then 26 else if x=9 then 44 else x,fun x=>x⟩
theorem slP:SlB Tryz.prog 24 9 2 32 rnP:=slT basT rfl rfl rfl Tryz.underlying26 Tryz.isAgg26 Tryz.sizeOf26 Tryz.zeroValue26 Tryz.isAgg44 Tryz.sizeOf44 Tryz.zeroValue44 (by kernel_rfl) (by kernel_rfl) (by kernel_rfl)
theorem bearsP:Bears Tryz.prog 173 (Body2.n22 rnP):=⟨"slices.Insert[[]luminaire/api.Palette,luminaire/api.Palette]",by decide,by kernel_rfl⟩
theorem ovP:OvL Tryz.prog 254 26 4:=fun args w=>by
 rw[run_callFunc_extern Tryz.func254 (by kernel_rfl) (by kernel_rfl) (by kernel_rfl) (e:=Extern.SlicesOverlaps.overlaps #[26,26] #[4]) (by kernel_rfl)]
def rnG:Ren:=⟨fun x=>if x=29 then 259 else 260,fun x=>if x=24 then 25 else if x=9 then 47 else x,fun x=>x⟩
theorem slG:SlB Tryz.prog 24 9 2 32 rnG:=slT basT rfl rfl rfl Tryz.underlying25 Tryz.isAgg25 Tryz.sizeOf25 Tryz.zeroValue25 Tryz.isAgg47 Tryz.sizeOf47 Tryz.zeroValue47 (by kernel_rfl) (by kernel_rfl) (by kernel_rfl)
theorem bearsG:Bears Tryz.prog 179 (Body2.n22 rnG):=⟨"slices.Insert[[]luminaire/api.Group,luminaire/api.Group]",by decide,by kernel_rfl⟩
theorem ovG:OvL Tryz.prog 259 25 4:=fun args w=>by
 rw[run_callFunc_extern Tryz.func259 (by kernel_rfl) (by kernel_rfl) (by kernel_rfl) (e:=Extern.SlicesOverlaps.overlaps #[25,25] #[4]) (by kernel_rfl)]
def rdG:Ren:=⟨fun x=>x,fun x=>if x=22 then 25 else if x=23 then 47 else x,fun x=>x⟩
theorem dlG:SlB Tryz.prog 22 23 2 32 rdG:=slT basT rfl rfl rfl Tryz.underlying25 Tryz.isAgg25 Tryz.sizeOf25 Tryz.zeroValue25 Tryz.isAgg47 Tryz.sizeOf47 Tryz.zeroValue47 (by kernel_rfl) (by kernel_rfl) (by kernel_rfl)
theorem bearsDG:Bears Tryz.prog 180 (SlBodyN.n45 rdG):=⟨"slices.Delete[[]luminaire/api.Group,luminaire/api.Group]",by decide,by kernel_rfl⟩
def rnS:Ren:=⟨fun x=>if x=29 then 263 else 264,fun x=>if x=24 then 28 else if x=9 then 50 else x,fun x=>x⟩
theorem slS:SlB Tryz.prog 24 9 4 48 rnS:=slT basT rfl rfl rfl Tryz.underlying28 Tryz.isAgg28 Tryz.sizeOf28 Tryz.zeroValue28 Tryz.isAgg50 Tryz.sizeOf50 Tryz.zeroValue50 (by kernel_rfl) (by kernel_rfl) (by kernel_rfl)
theorem bearsS:Bears Tryz.prog 183 (Body2.n22 rnS):=⟨"slices.Insert[[]luminaire/api.Sub,luminaire/api.Sub]",by decide,by kernel_rfl⟩
theorem ovS:OvL Tryz.prog 263 28 4:=fun args w=>by
 rw[run_callFunc_extern Tryz.func263 (by kernel_rfl) (by kernel_rfl) (by kernel_rfl) (e:=Extern.SlicesOverlaps.overlaps #[28,28] #[4]) (by kernel_rfl)]
def rgS:Ren:=⟨fun x=>if x=4 then 265 else x,fun x=>if x=22 then 28 else if x=25 then 50 else x,fun x=>x⟩
theorem bearsWS:Bears Tryz.prog 265 (Body8.n4 rgS):=⟨"slices.Grow[[]luminaire/api.Sub,luminaire/api.Sub]",by decide,by kernel_rfl⟩
theorem infoWS:(Tryz.prog.info? 50).map (fun i=>(i.zero,i.size,i.bytes))=some (some (.agg #[.int .i64 0,.int .i64 0,.bool false,.slice none 0 0]),4,48):=by kernel_rfl
def rdC:Ren:=⟨fun x=>x,fun x=>if x=22 then 96 else if x=23 then 41 else x,fun x=>x⟩
theorem dlC:SlB Tryz.prog 22 23 9 120 rdC:=slT basT rfl rfl rfl Tryz.underlying96 Tryz.isAgg96 Tryz.sizeOf96 Tryz.zeroValue96 Tryz.isAgg41 Tryz.sizeOf41 Tryz.zeroValue41 (by kernel_rfl) (by kernel_rfl) (by kernel_rfl)
theorem bearsDC:Bears Tryz.prog 167 (SlBodyN.n45 rdC):=⟨"slices.Delete[[]luminaire/api.Cue,luminaire/api.Cue]",by decide,by kernel_rfl⟩
def rgF:Ren:=⟨fun x=>if x=4 then 270 else x,fun x=>if x=22 then 24 else if x=25 then 55 else x,fun x=>x⟩
theorem bearsWF:Bears Tryz.prog 270 (Body8.n4 rgF):=⟨"slices.Grow[[]luminaire/api.Fixture,luminaire/api.Fixture]",by decide,by kernel_rfl⟩
theorem infoWF:(Tryz.prog.info? 55).map (fun i=>(i.zero,i.size,i.bytes))=some (some (.agg #[.int .i64 0,.int .i64 0,.string ⟨#[]⟩,.int .i64 0,.int .i64 0,.int .i64 0,.string ⟨#[]⟩]),7,72):=by kernel_rfl
end Go.Proofs.YtmjkgajnpmiomaaGreatDoor

namespace Go.Proofs.YtmjkgajnpmiomaaGreatDoor
open Go.Sha
set_option maxRecDepth 10000
theorem F160:compF Tryz.prog 160=some ⟨13,[.tmp 4,.tmp 5,.tmp 6],(.g [.s 4 (.mv (.w [])),.s 5 (.mv (.w [])),.k 6 false] (.g [.m 7 0,.m 8 1,.g' 9 245 7 8,.j 10 0 9,.j 11 1 9,.j 12 2 9,.m 4 10,.m 5 11,.m 6 12] (.ret [4,5,6])))⟩:=by kernel_rfl
theorem F164:compF Tryz.prog 164=some ⟨8,[.tmp 4],(.g [.k 4 false] (.g [.m 5 0,.m 6 1,.g' 7 248 5 6,.m 4 7] (.ret [4])))⟩:=by kernel_rfl
theorem F246:compF Tryz.prog 246=some ⟨9,[.tmp 4],(.g [.k 4 false] (.g [.m 5 0,.m 6 1,.g' 7 307 5 6,.v 8 .geq 7 0,.m 4 8] (.ret [4])))⟩:=by kernel_rfl
theorem F245:compF Tryz.prog 245=some ⟨23,[.tmp 4,.tmp 5,.tmp 6],(.g [.s 4 (.mv (.w [])),.s 5 (.mv (.w [])),.k 6 false] (.join [0] (.g [.m 8 0,.m 9 1,.g' 10 306 8 9,.m 7 10] (.g [.m 11 7,.v 12 .geq 11 0] (.i 12 (.q (.dreg 12 [.m 13 0,.m 14 7,.s 15 (.slices (.t 13) none (some (.t 14))),.m 16 0,.m 17 7,.m 18 1,.s 19 (.lens (.t 18)),.b 20 .add 17 19,.s 21 (.slices (.t 16) (some (.t 20)) none),.m 4 15,.m 5 21,.k 6 true]) (.ret [4,5,6])) .skip))) (.g [.m 22 0,.m 4 22,.s 5 (.mv (.w [])),.k 6 false] (.ret [4,5,6]))))⟩:=by kernel_rfl
theorem F248:compF Tryz.prog 248=some ⟨21,[.tmp 4],(.g [.k 4 false] (.join [4] (.reg [.m 5 0,.s 6 (.lens (.t 5)),.m 7 1,.s 8 (.lens (.t 7)),.b 9 .geq 6 8,.m 10 9,.my 11 0 10,.my 12 0 10,.y 13 (.lens (.t 12)) 10,.my 14 1 10,.y 15 (.lens (.t 14)) 10,.by' 16 .sub 13 15 10,.y 17 (.slices (.t 11) (some (.t 16)) none) 10,.my 18 1 10,.by' 19 .eql 17 18 10,.e 20 10 19,.m 4 20]) (.ret [4])))⟩:=by kernel_rfl
theorem F307:compF Tryz.prog 307=some ⟨8,[.tmp 4],(.g [.c 4 0] (.g [.m 5 0,.m 6 1,.s 7 (.f 345 [.t 5,.t 6,(.c (.bool true))]),.m 4 7] (.ret [4])))⟩:=by kernel_rfl
theorem F278:compF Tryz.prog 278=some ⟨43,[.tmp 4],(.g [.s 4 (.mv (.w []))] (.join [0,1] (.join [0,1,12] (.reg [.m 7 0,.s 8 (.bin .eql (.t 7) (.w [])),.m 9 8,.mx 10 1 9,.x 11 (.bin .eql (.t 10) (.w [])) 9,.o 12 9 11]) (.i 12 (.g [.m 13 0,.m 4 13] (.ret [4])) .skip)) (.join [0,1] (.join [0,1,21] (.reg [.m 14 1,.s 15 (.lens (.t 14)),.v 16 .eql 15 1,.m 17 16,.my 18 1 17,.y 19 (.ichr (.t 18) (.i 0)) 17,.y 20 (.bin .lss (.t 19) (.c (.int .u8 128))) 17,.e 21 17 20]) (.i 21 (.q (.dreg 8 [.m 22 0,.m 23 1,.s 24 (.ichr (.t 23) (.i 0)),.g' 25 317 22 24,.m 26 1,.s 27 (.ichr (.t 26) (.i 0)),.g' 28 316 25 27,.m 4 28]) (.ret [4])) .skip)) (.join [0,1] (.g [.m 30 1,.f 31 318 30,.m 29 31,.j 32 0 29,.j 33 1 29,.s 5 (.alloc 348 (List.replicate 256 (.bool false))),.w 256 5 32,.m 6 33] (.z [5] (.g [.m 34 6] (.i 34 (.g [.m 35 0,.g' 36 320 35 5,.g' 37 319 36 5,.m 4 37] (.ret [4])) .skip)))) (.g [.m 38 0,.m 39 1,.g' 40 322 38 39,.m 41 1,.g' 42 321 40 41,.m 4 42] (.ret [4]))))))⟩:=by kernel_rfl
def B319_0:Cd:=(.join [0,1] (.g [.m 5 0,.s 6 (.lens (.t 5)),.v 7 .gtr 6 0] (.i 7 .skip (.exit [0] 0))) (.block 1 (.join [0,1] (.g [.m 8 1,.m 9 0,.s 10 (.ichr (.t 9) (.i 0)),.g' 11 351 8 10,.z 12 11] (.i 12 (.exit [0] 0) .skip)) (.reg [.m 13 0,.s 14 (.slices (.t 13) (some (.i 1)) none),.m 0 14]))))
theorem F319:compF Tryz.prog 319=some ⟨16,[.tmp 4],(.g [.s 4 (.mv (.w []))] (.join [0] (.block 0 (.loop [0,1] [] B319_0)) (.g [.m 15 0,.m 4 15] (.ret [4]))))⟩:=by kernel_rfl
def B320_0:Cd:=(.join [0,1] (.g [.m 5 0,.s 6 (.lens (.t 5)),.v 7 .gtr 6 0] (.i 7 .skip (.exit [0] 0))) (.block 1 (.join [0,1] (.g [.m 8 1,.m 9 0,.m 10 0,.s 11 (.lens (.t 10)),.v 12 .sub 11 1,.s 13 (.ichr (.t 9) (.t 12)),.g' 14 351 8 13,.z 15 14] (.i 15 (.exit [0] 0) .skip)) (.reg [.m 16 0,.m 17 0,.s 18 (.lens (.t 17)),.v 19 .sub 18 1,.s 20 (.slices (.t 16) none (some (.t 19))),.m 0 20]))))
theorem F320:compF Tryz.prog 320=some ⟨22,[.tmp 4],(.g [.s 4 (.mv (.w []))] (.join [0] (.block 0 (.loop [0,1] [] B320_0)) (.g [.m 21 0,.m 4 21] (.ret [4]))))⟩:=by kernel_rfl
theorem F351:compF Tryz.prog 351=some ⟨10,[.tmp 4],(.g [.k 4 false] (.g [.m 5 0,.m 6 1,.s 7 (.k 5),.s 8 (.iadra 256 1 (.t 7) (.t 6)),.l 9 8,.m 4 9] (.ret [4])))⟩:=by kernel_rfl
end Go.Proofs.YtmjkgajnpmiomaaGreatDoor

namespace Go.Proofs
open Go.Shelf
def Tryz.laysC172_ren:Go.Shelf.Ren:=⟨fun|172=>381|244=>382|245=>383|247=>384|279=>385|280=>386|281=>387|282=>388|287=>389|316=>390|171=>392|205=>391|321=>393|322=>394|243=>395|246=>396|283=>397|284=>398|285=>399|286=>400|129=>340|317=>401|318=>402|319=>403|320=>404|337=>405|338=>406|n=>n,fun|9=>9|3=>3|75=>404|76=>405|4=>4|5=>5|167=>408|37=>208|0=>0|85=>409|2=>2|168=>411|53=>370|175=>414|46=>238|210=>418|127=>422|145=>425|143=>423|21=>21|171=>427|173=>429|212=>432|51=>368|20=>20|213=>433|232=>434|233=>435|80=>436|n=>n,fun|15=>3|16=>4|17=>5|18=>6|19=>7|n=>n⟩
theorem Tryz.laysC172:Go.Proofs.LaysC.n172 Tryz.prog Tryz.laysC172_ren:={
 mixed:=by kernel_rfl
 f129:=Tryz.func340.trans (congrArg some (by kernel_rfl))
 f171:=Tryz.func392.trans (congrArg some (by kernel_rfl))
 f172:=Tryz.func381.trans (congrArg some (by kernel_rfl))
 f205:=Tryz.func391.trans (congrArg some (by kernel_rfl))
 f243:=Tryz.func395.trans (congrArg some (by kernel_rfl))
 f244:=Tryz.func382.trans (congrArg some (by kernel_rfl))
 f245:=Tryz.func383.trans (congrArg some (by kernel_rfl))
 f246:=Tryz.func396.trans (congrArg some (by kernel_rfl))
 f247:=Tryz.func384.trans (congrArg some (by kernel_rfl))
 f279:=Tryz.func385.trans (congrArg some (by kernel_rfl))
 f280:=Tryz.func386.trans (congrArg some (by kernel_rfl))
 f281:=Tryz.func387.trans (congrArg some (by kernel_rfl))
 f282:=Tryz.func388.trans (congrArg some (by kernel_rfl))
 f283:=Tryz.func397.trans (congrArg some (by kernel_rfl))
 f284:=Tryz.func398.trans (congrArg some (by kernel_rfl))
 f285:=Tryz.func399.trans (congrArg some (by kernel_rfl))
 f286:=Tryz.func400.trans (congrArg some (by kernel_rfl))
 f287:=Tryz.func389.trans (congrArg some (by kernel_rfl))
 f316:=Tryz.func390.trans (congrArg some (by kernel_rfl))
 f317:=Tryz.func401.trans (congrArg some (by kernel_rfl))
 f318:=Tryz.func402.trans (congrArg some (by kernel_rfl))
 f319:=Tryz.func403.trans (congrArg some (by kernel_rfl))
 f320:=Tryz.func404.trans (congrArg some (by kernel_rfl))
 f321:=Tryz.func393.trans (congrArg some (by kernel_rfl))
 f322:=Tryz.func394.trans (congrArg some (by kernel_rfl))
 f337:=Tryz.func405.trans (congrArg some (by kernel_rfl))
 f338:=Tryz.func406.trans (congrArg some (by kernel_rfl))
 t0:=Tryz.underlying0
 a0:=Tryz.isAgg0
 z0:=Tryz.sizeOf0
 v0:=Tryz.zeroValue0
 t2:=Tryz.underlying2
 a2:=Tryz.isAgg2
 z2:=Tryz.sizeOf2
 v2:=Tryz.zeroValue2
 t3:=Tryz.underlying3
 a3:=Tryz.isAgg3
 z3:=Tryz.sizeOf3
 v3:=Tryz.zeroValue3
 t4:=Tryz.underlying4
 a4:=Tryz.isAgg4
 z4:=Tryz.sizeOf4
 v4:=Tryz.zeroValue4
 t5:=Tryz.underlying5
 a5:=Tryz.isAgg5
 z5:=Tryz.sizeOf5
 v5:=Tryz.zeroValue5
 t9:=Tryz.underlying9
 a9:=Tryz.isAgg9
 z9:=Tryz.sizeOf9
 v9:=Tryz.zeroValue9
 t20:=Tryz.underlying20
 a20:=Tryz.isAgg20
 z20:=Tryz.sizeOf20
 v20:=Tryz.zeroValue20
 t21:=Tryz.underlying21
 a21:=Tryz.isAgg21
 z21:=Tryz.sizeOf21
 v21:=Tryz.zeroValue21
 t37:=Tryz.underlying208
 a37:=Tryz.isAgg208
 z37:=Tryz.sizeOf208
 v37:=Tryz.zeroValue208
 t46:=Tryz.underlying238
 a46:=Tryz.isAgg238
 z46:=Tryz.sizeOf238
 v46:=Tryz.zeroValue238
 t51:=Tryz.underlying368
 a51:=Tryz.isAgg368
 z51:=Tryz.sizeOf368
 v51:=Tryz.zeroValue368
 t53:=Tryz.underlying370
 a53:=Tryz.isAgg370
 z53:=Tryz.sizeOf370
 v53:=Tryz.zeroValue370
 t75:=Tryz.underlying404
 a75:=Tryz.isAgg404
 z75:=Tryz.sizeOf404
 v75:=Tryz.zeroValue404
 t76:=Tryz.underlying405
 a76:=Tryz.isAgg405
 z76:=Tryz.sizeOf405
 v76:=Tryz.zeroValue405
 t85:=Tryz.underlying409
 a85:=Tryz.isAgg409
 z85:=Tryz.sizeOf409
 v85:=Tryz.zeroValue409
 t127:=Tryz.underlying422
 a127:=Tryz.isAgg422
 z127:=Tryz.sizeOf422
 v127:=Tryz.zeroValue422
 t143:=Tryz.underlying423
 a143:=Tryz.isAgg423
 z143:=Tryz.sizeOf423
 v143:=Tryz.zeroValue423
 t145:=Tryz.underlying425
 a145:=Tryz.isAgg425
 z145:=Tryz.sizeOf425
 v145:=Tryz.zeroValue425
 t167:=Tryz.underlying408
 a167:=Tryz.isAgg408
 z167:=Tryz.sizeOf408
 v167:=Tryz.zeroValue408
 t168:=Tryz.underlying411
 a168:=Tryz.isAgg411
 z168:=Tryz.sizeOf411
 v168:=Tryz.zeroValue411
 t171:=Tryz.underlying427
 a171:=Tryz.isAgg427
 z171:=Tryz.sizeOf427
 v171:=Tryz.zeroValue427
 t173:=Tryz.underlying429
 a173:=Tryz.isAgg429
 z173:=Tryz.sizeOf429
 v173:=Tryz.zeroValue429
 t175:=Tryz.underlying414
 a175:=Tryz.isAgg414
 z175:=Tryz.sizeOf414
 v175:=Tryz.zeroValue414
 t210:=Tryz.underlying418
 a210:=Tryz.isAgg418
 z210:=Tryz.sizeOf418
 v210:=Tryz.zeroValue418
 t212:=Tryz.underlying432
 a212:=Tryz.isAgg432
 z212:=Tryz.sizeOf432
 v212:=Tryz.zeroValue432
 t213:=Tryz.underlying433
 a213:=Tryz.isAgg433
 z213:=Tryz.sizeOf433
 t232:=Tryz.underlying434
 a232:=Tryz.isAgg434
 z232:=Tryz.sizeOf434
 v232:=Tryz.zeroValue434
 t233:=Tryz.underlying435
 a233:=Tryz.isAgg435
 z233:=Tryz.sizeOf435
 v233:=Tryz.zeroValue435
 g15:=by kernel_rfl
 g16:=by kernel_rfl
 g17:=by kernel_rfl
 g18:=by kernel_rfl
 g19:=by kernel_rfl
 t80:=Tryz.underlying436
 a80:=Tryz.isAgg436
 z80:=Tryz.sizeOf436
 v80:=Tryz.zeroValue436
 i0:=by kernel_rfl
 i2:=by kernel_rfl
 i3:=by kernel_rfl
 i4:=by kernel_rfl
 i5:=by kernel_rfl
 i9:=by kernel_rfl
 i20:=by kernel_rfl
 i21:=by kernel_rfl
 i37:=by kernel_rfl
 i46:=by kernel_rfl
 i51:=by kernel_rfl
 i53:=by kernel_rfl
 i75:=by kernel_rfl
 i76:=by kernel_rfl
 i80:=by kernel_rfl
 i85:=by kernel_rfl
 i127:=by kernel_rfl
 i143:=by kernel_rfl
 i145:=by kernel_rfl
 i167:=by kernel_rfl
 i168:=by kernel_rfl
 i171:=by kernel_rfl
 i173:=by kernel_rfl
 i175:=by kernel_rfl
 i210:=by kernel_rfl
 i212:=by kernel_rfl
 i232:=by kernel_rfl
 i233:=by kernel_rfl
 m15:=by kernel_rfl
 m16:=by kernel_rfl
 m17:=by kernel_rfl
 m18:=by kernel_rfl
 m19:=by kernel_rfl
 c0:=by kernel_rfl
 c2:=by kernel_rfl
 c3:=by kernel_rfl
 c4:=by kernel_rfl
 c5:=by kernel_rfl
 c9:=by kernel_rfl
 c20:=by kernel_rfl
 c21:=by kernel_rfl
 c37:=by kernel_rfl
 c46:=by kernel_rfl
 c51:=by kernel_rfl
 c53:=by kernel_rfl
 c75:=by kernel_rfl
 c76:=by kernel_rfl
 c80:=by kernel_rfl
 c85:=by kernel_rfl
 c127:=by kernel_rfl
 c143:=by kernel_rfl
 c145:=by kernel_rfl
 c167:=by kernel_rfl
 c168:=by kernel_rfl
 c171:=by kernel_rfl
 c173:=by kernel_rfl
 c175:=by kernel_rfl
 c210:=by kernel_rfl
 c212:=by kernel_rfl
 c213:=by kernel_rfl
 c232:=by kernel_rfl
 c233:=by kernel_rfl }
open Go.RowKit in
theorem Tryz.strconv_Atoi_ok (s:ByteArray)(hmax:s.size≤9223372036854775806)(v:Int)(h:Lib.atoiAll s.data.toList=.ok v)(w:World) :
  Calls Tryz.prog 381 #[.string s] w fun e w'=>e=.returned (.tuple #[.int .i64 v,.nilIface])∧(w'=w∨∃t,w'=Lib.bytesWorld w 5 t):=Any.strconv_Atoi_ok Tryz.laysC172 s hmax v h w
def Tryz.lays219_ren:Go.Shelf.Ren:=⟨fun|219=>306|217=>341|225=>342|224=>343|267=>344|266=>365|314=>366|n=>n,fun|9=>9|3=>3|4=>4|5=>5|46=>238|146=>390|51=>368|n=>n,fun|1=>0|n=>n⟩
theorem Tryz.lays219:Go.Proofs.Lays.n219 Tryz.prog Tryz.lays219_ren:={
 mixed:=by kernel_rfl
 f217:=Tryz.func341.trans (congrArg some (by kernel_rfl))
 f219:=Tryz.func306.trans (congrArg some (by kernel_rfl))
 f224:=Tryz.func343.trans (congrArg some (by kernel_rfl))
 f225:=Tryz.func342.trans (congrArg some (by kernel_rfl))
 f266:=Tryz.func365.trans (congrArg some (by kernel_rfl))
 f267:=Tryz.func344.trans (congrArg some (by kernel_rfl))
 f314:=Tryz.func366.trans (congrArg some (by kernel_rfl))
 t3:=Tryz.underlying3
 a3:=Tryz.isAgg3
 z3:=Tryz.sizeOf3
 v3:=Tryz.zeroValue3
 t4:=Tryz.underlying4
 a4:=Tryz.isAgg4
 z4:=Tryz.sizeOf4
 v4:=Tryz.zeroValue4
 t5:=Tryz.underlying5
 a5:=Tryz.isAgg5
 z5:=Tryz.sizeOf5
 v5:=Tryz.zeroValue5
 t9:=Tryz.underlying9
 a9:=Tryz.isAgg9
 z9:=Tryz.sizeOf9
 v9:=Tryz.zeroValue9
 t46:=Tryz.underlying238
 a46:=Tryz.isAgg238
 z46:=Tryz.sizeOf238
 v46:=Tryz.zeroValue238
 t51:=Tryz.underlying368
 a51:=Tryz.isAgg368
 z51:=Tryz.sizeOf368
 v51:=Tryz.zeroValue368
 t146:=Tryz.underlying390
 a146:=Tryz.isAgg390
 z146:=Tryz.sizeOf390
 v146:=Tryz.zeroValue390
 g1:=by kernel_rfl }
open Go.RowKit Go.Lib in
theorem Tryz.stringslite_Index_one (s:ByteArray)(c:UInt8)(w:World) :
  Calls Tryz.prog 306 #[.string s,.string ⟨#[c]⟩] w fun e w'=>e=.returned (.int .i64 (Lib.indexByte s.data.toList c))∧w'=w:=Any.stringslite_Index_one Tryz.lays219 s c w
def Tryz.lays315_ren:Go.Shelf.Ren:=⟨fun|315=>345|n=>n,fun|9=>9|40=>298|4=>4|3=>3|0=>0|21=>21|n=>n,fun|n=>n⟩
theorem Tryz.lays315:Go.Proofs.Lays.n315 Tryz.prog Tryz.lays315_ren:={
 mixed:=by kernel_rfl
 f315:=Tryz.func345.trans (congrArg some (by kernel_rfl))
 t0:=Tryz.underlying0
 a0:=Tryz.isAgg0
 z0:=Tryz.sizeOf0
 v0:=Tryz.zeroValue0
 t3:=Tryz.underlying3
 a3:=Tryz.isAgg3
 z3:=Tryz.sizeOf3
 v3:=Tryz.zeroValue3
 t4:=Tryz.underlying4
 a4:=Tryz.isAgg4
 z4:=Tryz.sizeOf4
 v4:=Tryz.zeroValue4
 t9:=Tryz.underlying9
 a9:=Tryz.isAgg9
 z9:=Tryz.sizeOf9
 v9:=Tryz.zeroValue9
 t21:=Tryz.underlying21
 a21:=Tryz.isAgg21
 z21:=Tryz.sizeOf21
 v21:=Tryz.zeroValue21
 t40:=Tryz.underlying298
 a40:=Tryz.isAgg298
 z40:=Tryz.sizeOf298
 v40:=Tryz.zeroValue298 }
open Go.RowKit Go.Lib in
theorem Tryz.strings_indexFunc (g:Nat)(lb:Array Value)(eg:∀args w,(callFunc g args).run Tryz.prog w=.ok (.enter g args) w)(p:Nat→Bool)(truth:Bool)(s:ByteArray)(w:World)(hp:PredAt Tryz.prog g lb encR p w) :
  Calls Tryz.prog 345 #[.string s,.func (.func g) #[] lb,.bool truth] w fun e w'=>e=.returned (.int .i64 (Lib.idxFunc p truth s))∧Below w.heap.size w w':=Any.strings_indexFunc Tryz.lays315 g lb eg p truth s w hp
def Tryz.lays227_ren:Go.Shelf.Ren:=⟨fun|227=>318|n=>n,fun|9=>9|116=>348|4=>4|0=>0|3=>3|5=>5|n=>n,fun|n=>n⟩
theorem Tryz.lays227:Go.Proofs.Lays.n227 Tryz.prog Tryz.lays227_ren:={
 mixed:=by kernel_rfl
 f227:=Tryz.func318.trans (congrArg some (by kernel_rfl))
 t0:=Tryz.underlying0
 a0:=Tryz.isAgg0
 z0:=Tryz.sizeOf0
 v0:=Tryz.zeroValue0
 t3:=Tryz.underlying3
 a3:=Tryz.isAgg3
 z3:=Tryz.sizeOf3
 v3:=Tryz.zeroValue3
 t4:=Tryz.underlying4
 a4:=Tryz.isAgg4
 z4:=Tryz.sizeOf4
 v4:=Tryz.zeroValue4
 t5:=Tryz.underlying5
 a5:=Tryz.isAgg5
 z5:=Tryz.sizeOf5
 v5:=Tryz.zeroValue5
 t9:=Tryz.underlying9
 a9:=Tryz.isAgg9
 z9:=Tryz.sizeOf9
 v9:=Tryz.zeroValue9
 t116:=Tryz.underlying348
 a116:=Tryz.isAgg348
 z116:=Tryz.sizeOf348 }
open Go.RowKit Go.Lib in
theorem Tryz.strings_makeASCIISet (hv116:∀w,(zeroValue 348).run Tryz.prog w=.ok (.agg (Array.replicate 256 (.bool false))) w)(chars:ByteArray)(w:World)(hs:chars.size<4294967281)(hascii:∀(j:Nat) b,chars.data.toList[j]?=some b→b.toNat<128) :
  Calls Tryz.prog 318 #[.string chars] w fun e w'=>e=.returned (.tuple #[.agg (Lib.setCells chars.data.toList),.bool true])∧w'=w.alloc (.cells (Lib.setCells chars.data.toList) 348):=Any.strings_makeASCIISet Tryz.lays227 hv116 (by kernel_rfl) chars w hs hascii
end Go.Proofs

namespace Go.Proofs.YtmjkgajnpmiomaaGreatDoor
open Go.Sha Go.RowKit
set_option maxRecDepth 100000
variable {g:List (Nat×Obj)}{n:Nat}
def othR (r:Nat):Bool:=decide (r<48)||decide (57<r)
def setV:List V:=(List.range 256).map fun n=>.bool (nmW.contains n.toUInt8)
def q306:List V→Option VRes
 |[.str s,.str [c]]=>some (.ret (.int .i64 (Lib.indexByte s c)))
 |_=>none
def q318:List V→Option VRes
 |[.str t]=>if t=nmW then some (.ret (.tup [.agg setV,.bool true])) else none
 |_=>none
def q345:List V→Option VRes
 |[.str s,.fn (.func 247) [] [],.bool true]=>some (.ret (.int .i64 (Lib.idxFunc othR true ⟨s.toArray⟩)))
 |_=>none
def HL0:EvF:=⟨[],fun f args st=>(bif Nat.beq f 306 then q306 args else bif Nat.beq f 318 then q318 args else bif Nat.beq f 345 then q345 args else none).map fun r=>(r,st)⟩
@[push_cast]theorem HL0_raw:HL0.raw=[]:=idq rfl
theorem k306 {s:List UInt8}{c:UInt8}{st:St}:run Tryz.prog HL0 306 [.str s,.str [c]] st=some (.ret (.int .i64 (Lib.indexByte s c)),st):=run_H rfl
theorem k318 {st:St}:run Tryz.prog HL0 318 [.str nmW] st=some (.ret (.tup [.agg setV,.bool true]),st):=run_H rfl
theorem k345 {s:List UInt8}{st:St}:run Tryz.prog HL0 345 [.str s,.fn (.func 247) [] [],.bool true] st=some (.ret (.int .i64 (Lib.idxFunc othR true ⟨s.toArray⟩)),st):=run_H rfl
theorem idx_tw {c:UInt8}:∀{s:List UInt8},Lib.indexByte s c=if s.contains c=true then((s.takeWhile (· != c)).length:Int) else -1
 |[]=>rfl
 |b::s=>by
  have ih:=idx_tw (c:=c) (s:=s)
  rw[Lib.indexByte,ih]
  by_cases h:b=c
  ·subst h;simp
  ·have h2:(b == c)=false:=by simpa using h
   have h3:(b != c)=true:=by simpa using h
   rw[h2,List.takeWhile_cons,if_pos h3,List.contains_cons,show(c == b)=false by simpa using fun e=>h e.symm,Bool.false_or,List.length_cons]
   cases s.contains c
   ·rfl
   ·simp only[if_true]
    rw[if_neg (by simp),if_neg (by simp)];omega
theorem drop_tw {p:UInt8→Bool}{s:List UInt8}:s.drop ((s.takeWhile p).length+1)=(s.dropWhile p).drop 1:=by rw[←List.drop_drop,drop_w]
theorem tw_none {c:UInt8}:∀{s:List UInt8},s.contains c=false→s.takeWhile (· != c)=s∧s.dropWhile (· != c)=[]
 |[],_=>⟨rfl,rfl⟩
 |b::r,h=>by
  have hb:(b != c)=true:=by simp at h ⊢;exact fun e=>h.1 e.symm
  have hr:r.contains c=false:=by simp at h ⊢;exact h.2
  have:=tw_none hr
  simp only[List.takeWhile_cons,List.dropWhile_cons,hb,if_true]
  exact⟨by rw[this.1],this.2⟩
theorem k245 {s:List UInt8}{c:UInt8}(hl:s.length<140737488355328){st:St}:run Tryz.prog HL0 245 [.str s,.str [c]] st=some (.ret (.tup [.str (s.takeWhile (· != c)),.str ((s.dropWhile (· != c)).drop 1),.bool (s.contains c)]),st):=by
 have hi:=idx_tw (c:=c) (s:=s)
 have hle:=(List.takeWhile_sublist (· != c) (l:=s)).length_le
 rw[run_shut F245 rfl rfl rfl]
 cases h:s.contains c with
 |true =>
  have hlt:(s.takeWhile (· != c)).length<s.length:=by
   rcases Nat.lt_or_ge (s.takeWhile (· != c)).length s.length with h2|h2
   ·exact h2
   ·have e:s.takeWhile (· != c)=s:=(List.takeWhile_sublist _).eq_of_length (by omega)
    have:=List.all_takeWhile (p:=(· != c)) (l:=s)
    rw[e,List.all_eq_true]at this
    have:=this c (by simpa using h)
    simp at this
  rw[h,if_pos rfl]at hi
  have hd:=drop_tw (p:=(· != c)) (s:=s)
  have ht:=take_w (p:=(· != c)) (s:=s)
  generalize s.takeWhile (· != c)=a at *
  have hw:IntKind.i64.wrap ((a.length:Int)+1)=((a.length+1:Nat):Int):=iwrap (by omega) (by omega)
  push_cast[k306,hi,hw,ht]
  exact dn_eq (by omega) (by rw[List.take_length,show((a.length:Int)+1).toNat=a.length+1 by omega,hd])
 |false =>
  rw[h,if_neg (by simp)]at hi
  obtain⟨e1,e2⟩:=tw_none h
  rw[e1,e2]
  push_cast[k306,hi]
theorem k160 {s:List UInt8}{c:UInt8}(hl:s.length<140737488355328){st:St}:run Tryz.prog HL0 160 [.str s,.str [c]] st=some (.ret (.tup [.str (s.takeWhile (· != c)),.str ((s.dropWhile (· != c)).drop 1),.bool (s.contains c)]),st):=by
 have h:=fun(st:St)=>k245 (c:=c) (st:=st) hl
 rw[run_shut F160 rfl rfl rfl]
 push_cast[h]
theorem k164 {s t:List UInt8}(hl:s.length<140737488355328)(ht:t.length≤s.length+1000){st:St}:run Tryz.prog HL0 164 [.str s,.str t] st=some (.ret (.bool (t.isSuffixOf s)),st):=by
 have h:∀st,run Tryz.prog HL0 248 [.str s,.str t] st=some (.ret (.bool (t.isSuffixOf s)),st):=fun st=>by
  rw[run_shut F248 rfl rfl rfl]
  by_cases h:t.length≤s.length
  ·have h1:(t.length:Int)≤s.length:=by omega
   have hw:IntKind.i64.wrap ((s.length:Int)-t.length)=((s.length-t.length:Nat):Int):=by rw[iwrap (by omega) (by omega)];omega
   have e:t.isSuffixOf s=(s.drop (s.length-t.length) == t):=by
    rw[Bool.eq_iff_iff,List.isSuffixOf_iff_suffix,List.suffix_iff_eq_drop,beq_iff_eq]
    exact⟨fun h=>h.symm,fun h=>h.symm⟩
   have h2:((s.length-t.length:Nat):Int)≤s.length:=by omega
   generalize s.length-t.length=k at *
   push_cast[h1,hw,h2,List.take_length,e]
  ·have h1:¬(t.length:Int)≤s.length:=by omega
   have e:t.isSuffixOf s=false:=by
    rw[←Bool.not_eq_true,List.isSuffixOf_iff_suffix]
    exact fun h2=>h h2.length_le
   push_cast[h1,e]
 rw[run_shut F164 rfl rfl rfl]
 push_cast[h]
theorem oth_from (s:ByteArray):∀(f pos:Nat),s.size≤pos+f→(decide (Lib.idxFuncFrom othR true s f pos<0))=(s.data.toList.drop pos).all isD
 |0,pos,h=>by
  rw[List.drop_eq_nil_of_le (by rw[Array.length_toList];exact h)];rfl
 |f+1,pos,h=>by
  unfold Lib.idxFuncFrom
  by_cases hp:pos<s.size
  ·have hp':pos<s.data.toList.length:=by rw[Array.length_toList];exact hp
   have hb:s.data.toList[pos]'hp'=s[pos]'hp:=rfl
   rw[if_pos hp,List.drop_eq_getElem_cons hp',List.all_cons,hb]
   by_cases ha:(s[pos]'hp).toNat<128
   ·rw[decode_ascii s pos hp ha]
    have ih:=oth_from s f (pos+1) (by omega)
    cases hd:isD (s[pos]'hp) with
    |true =>
     have:¬othR (s[pos]'hp).toNat=true:=by
      simp only[isD,Bool.and_eq_true,decide_eq_true_eq]at hd
      simp only[othR,Bool.or_eq_true,decide_eq_true_eq];omega
     rw[if_neg this,ih];rfl
    |false =>
     have:othR (s[pos]'hp).toNat=true:=by
      simp only[isD,Bool.and_eq_false_iff,decide_eq_false_iff_not]at hd
      simp only[othR,Bool.or_eq_true,decide_eq_true_eq];omega
     rw[if_pos this]
     simp
   ·obtain⟨h1,h2⟩:=decode_high s pos hp (by omega)
    have:othR (Utf8.decode s pos).1=true:=by
     simp only[othR,Bool.or_eq_true,decide_eq_true_eq];omega
    have hd:isD (s[pos]'hp)=false:=by
     simp only[isD,Bool.and_eq_false_iff,decide_eq_false_iff_not];omega
    rw[if_pos this,hd]
    simp
  ·rw[if_neg hp,List.drop_eq_nil_of_le (by rw[Array.length_toList];exact Nat.le_of_not_lt hp)];rfl
theorem oth_idx (s:List UInt8):decide (Lib.idxFunc othR true ⟨s.toArray⟩<0)=s.all isD:=by
 have:=oth_from ⟨s.toArray⟩ s.length 0 (by simp[ByteArray.size])
 simpa [Lib.idxFunc,ByteArray.size] using this
theorem k246 {s:List UInt8}{st:St}:run Tryz.prog HL0 246 [.str s,.fn (.func 247) [] []] st=some (.ret (.bool (s.any (!isD ·))),st):=by
 have h:∀st,run Tryz.prog HL0 307 [.str s,.fn (.func 247) [] []] st=some (.ret (.int .i64 (Lib.idxFunc othR true ⟨s.toArray⟩)),st):=fun st=>by
  rw[run_shut F307 rfl rfl rfl]
  push_cast[k345]
 have e:decide (0≤Lib.idxFunc othR true ⟨s.toArray⟩)=s.any (!isD ·):=by
  have:=oth_idx s
  have h2:decide (0≤Lib.idxFunc othR true ⟨s.toArray⟩)=!(decide (Lib.idxFunc othR true ⟨s.toArray⟩<0)):=by
   rw[Bool.eq_iff_iff];simp
  rw[h2,this,List.not_all_eq_any_not]
 rw[run_shut F246 rfl rfl rfl]
 push_cast[h,e]
theorem setV_len:setV.length=256:=by simp[setV]
theorem setV_bd:V.bdL n setV=true:=by
 have:=bdL_map' (n:=n) (f:=fun k:Nat=>V.bool (nmW.contains k.toUInt8)) (l:=List.range 256)
 rw[setV,this];simp[V.bd]
theorem setV_get (b:UInt8):setV[b.toNat]?=some (.bool (nmW.contains b)):=by
 rw[setV,List.getElem?_map,List.getElem?_range b.toNat_lt];simp
theorem k351 {b:UInt8}{st:St}:run Tryz.prog HL0 351 [.ep (.agg setV) 0,.int .u8 b.toNat] st=some (.ret (.bool (nmW.contains b)),st):=by
 have hb:=b.toNat_lt
 have hg:=setV_get b
 have hl:=setV_len
 have hd:=fun n=>setV_bd (n:=n)
 rw[run_shut F351 rfl rfl (by simp[V.bdL,V.bd,hd])]
 generalize nmW.contains b=c at *
 generalize setV=z at *
 push_cast[hb,hg,hl,hd,Nat.mul_one]
 all_goals exact dn_eq hb rfl
theorem L319:∀{t:List UInt8},t.length<140737488355328→runL Tryz.prog HL0 [0,1] n B319_0 [(0,.str t),(1,.ep (.agg setV) 0)] (stN g n)=some (.exit 0,[(0,.str (t.dropWhile nmW.contains))],stN g n)
 |[],_=>by
  have hd:=fun n=>setV_bd (n:=n)
  rw[runL_of B319_0.eq_1]
  generalize setV=z at *
  push_cast[List.length_nil,List.dropWhile_nil,hd]
 |b::t,hl=>by
  rw[List.length_cons]at hl
  have ih:=L319 (t:=t) (by omega)
  have hd:=fun n=>setV_bd (n:=n)
  have h270:=fun st=>k351 (b:=b) (st:=st)
  rw[runL_of B319_0.eq_1,List.dropWhile_cons]
  generalize nmW.contains b=c at *
  generalize setV=z at *
  have h1:(0:Int)<t.length+1:=by omega
  cases c
  ·push_cast[List.length_cons,hd,h1,h270,List.getD_cons_zero]
  ·push_cast[List.length_cons,hd,h1,h270,List.getD_cons_zero,List.take_length,List.drop_one,List.tail_cons]at ih ⊢
   exact dn_eq (by omega) ih
theorem f319 {t:List UInt8}(hl:t.length<140737488355328){st:St}:run Tryz.prog HL0 319 [.str t,.ep (.agg setV) 0] st=some (.ret (.str (t.dropWhile nmW.contains)),st):=by
 have hd:=fun n=>setV_bd (n:=n)
 have h0:=fun n=>L319 (g:=st.x.gl) (n:=n) hl
 rw[run_shut F319 rfl rfl (by simp[V.bdL,V.bd,hd])]
 generalize setV=z at *
 push_cast at h0
 push_cast[hd,h0]
theorem L320:∀(k:Nat) {t:List UInt8},t.length=k→t.length<140737488355328→runL Tryz.prog HL0 [0,1] n B320_0 [(0,.str t),(1,.ep (.agg setV) 0)] (stN g n)=some (.exit 0,[(0,.str (t.reverse.dropWhile nmW.contains).reverse)],stN g n):=by
 intro k
 induction k with
 |zero =>
  intro t ht hl
  obtain rfl:=List.eq_nil_of_length_eq_zero ht
  have hd:=fun n=>setV_bd (n:=n)
  rw[runL_of B320_0.eq_1]
  generalize setV=z at *
  push_cast[List.length_nil,List.dropWhile_nil,List.reverse_nil,hd]
 |succ k ih =>
  intro t ht hl
  rcases List.eq_nil_or_concat t with rfl|⟨t',b,rfl⟩
  ·simp at ht
  ·rw[List.concat_eq_append]at *
   rw[List.length_append,List.length_singleton]at ht hl
   have ih:=ih (t:=t') (by omega) (by omega)
   have hd:=fun n=>setV_bd (n:=n)
   have h270:=fun st=>k351 (b:=b) (st:=st)
   have hw:IntKind.i64.wrap ((t'.length:Int)+1-1)=((t'.length:Nat):Int):=by rw[iwrap (by omega) (by omega)];omega
   have h1:(0:Int)<t'.length+1:=by omega
   have h2:(t'.length:Int)<t'.length+1:=by omega
   have h3:(t'.length:Int)≤t'.length+1:=by omega
   have h4:List.take t'.length (t'++[b])=t':=List.take_left
   rw[runL_of B320_0.eq_1,List.reverse_append,List.reverse_singleton,List.singleton_append,List.dropWhile_cons]
   generalize nmW.contains b=c at *
   generalize setV=z at *
   cases c
   ·push_cast[List.length_append,List.length_singleton,hd,h1,h2,h3,hw,h270,getD_app,List.reverse_cons,List.reverse_reverse]
   ·push_cast[List.length_append,List.length_singleton,hd,h1,h2,h3,h4,hw,h270,getD_app]at ih ⊢
    exact ih
theorem f320 {t:List UInt8}(hl:t.length<140737488355328){st:St}:run Tryz.prog HL0 320 [.str t,.ep (.agg setV) 0] st=some (.ret (.str (t.reverse.dropWhile nmW.contains).reverse),st):=by
 have hd:=fun n=>setV_bd (n:=n)
 have h0:=fun n=>L320 (g:=st.x.gl) (n:=n) _ rfl hl
 rw[run_shut F320 rfl rfl (by simp[V.bdL,V.bd,hd])]
 generalize setV=z at *
 push_cast at h0
 push_cast[hd,h0]
theorem trim_swap {p:UInt8→Bool}:∀{s:List UInt8},((s.reverse.dropWhile p).reverse).dropWhile p=((s.dropWhile p).reverse.dropWhile p).reverse
 |[]=>rfl
 |b::r=>by
  have ih:=trim_swap (p:=p) (s:=r)
  cases hb:p b with
  |true =>
   have e1:(b::r).dropWhile p=r.dropWhile p:=by simp[hb]
   rw[e1,←ih,List.reverse_cons,List.dropWhile_append]
   cases hx:r.reverse.dropWhile p with
   |nil=>simp[hb]
   |cons y l=>simp[hb,List.dropWhile_cons]
  |false =>
   have e1:(b::r).dropWhile p=b::r:=by simp[hb]
   rw[e1,List.reverse_cons,List.dropWhile_append]
   cases hx:r.reverse.dropWhile p with
   |nil=>simp[hb]
   |cons y l=>simp[hb,List.dropWhile_cons]
theorem k278 {s:List UInt8}(hl:s.length≤24){st:St}:run Tryz.prog HL0 278 [.str s,.str nmW] st=some (.ret (.str (trimB nmW s)),st):=by
 have hd:=fun n=>setV_bd (n:=n)
 have hz:=setV_len
 have h249:=fun st=>k318 (st:=st)
 have h251:=fun st=>f320 (t:=s) (st:=st) (by omega)
 have hle:=(List.dropWhile_sublist nmW.contains (l:=s.reverse)).length_le
 have h250:=fun st=>f319 (t:=(s.reverse.dropWhile nmW.contains).reverse) (st:=st) (by simp at hle ⊢;omega)
 rw[trim_swap]at h250
 rw[run_shut F278 rfl rfl rfl,trimB]
 generalize setV=z at *
 by_cases h0:s=[]
 ·subst h0
  push_cast[List.dropWhile_nil,List.reverse_nil]
 ·push_cast[h0,h249,h250,h251,hd,hz,List.length_replicate,List.drop_replicate,Nat.sub_self,List.replicate_zero,List.append_nil]
theorem callable306:Callable Tryz.prog 306:=⟨_,Tryz.func306,by kernel_rfl,by kernel_rfl⟩
theorem callable318:Callable Tryz.prog 318:=⟨_,Tryz.func318,by kernel_rfl,by kernel_rfl⟩
theorem callable345:Callable Tryz.prog 345:=⟨_,Tryz.func345,by kernel_rfl,by kernel_rfl⟩
theorem callable381:Callable Tryz.prog 381:=⟨_,Tryz.func381,by kernel_rfl,by kernel_rfl⟩
theorem v306 (s:List UInt8)(c:UInt8)(st:St):VRet Tryz.prog 306 [.str s,.str [c]] st (.int .i64 (Lib.indexByte s c)) st:=by
 refine VRet_of_below callable306 (fun w A vs hw ha=>?_)
 obtain⟨hl,ha⟩:=ha
 match vs,hl with
 |[u,v],_ =>
 have e1:=(ha 0 u _ rfl rfl).str_inv
 have e2:=(ha 1 v _ rfl rfl).str_inv
 subst e1;subst e2
 refine(Tryz.stringslite_Index_one ⟨s.toArray⟩ c w).mono fun e w' ⟨he,hb⟩=>?_
 subst he;subst hb
 exact⟨_,rfl,fun w' A'=>.int _ _,Below.refl _ _⟩
theorem nm_ascii:∀b∈nmW,b.toNat<128:=by decide
theorem v318 (st:St):VRet Tryz.prog 318 [.str nmW] st (.tup [.agg setV,.bool true]) st:=by
 refine VRet_of_below callable318 (fun w A vs hw ha=>?_)
 obtain⟨u,rfl,h1⟩:=ha.one
 have e1:=h1.str_inv
 subst e1
 refine(Tryz.strings_makeASCIISet Tryz.zeroValue348 ⟨nmW.toArray⟩ w (by decide) (fun j b hj=>nm_ascii b (List.mem_of_getElem? hj))).mono fun e w' ⟨he,hb⟩=>?_
 subst he;subst hb
 refine⟨_,rfl,fun w' A'=>?_,Below.alloc (Below.refl _ _) (Nat.le_refl _) _⟩
 have hcell:∀(i:Nat) (v:Value) (c:V),(Lib.setCells nmW).toList[i]?=some v→setV[i]?=some c→Rep w' A' v c∧v.oneCell'=true:=fun i v c hv hc=>by
  have hi:i<256:=by have:=(List.getElem?_eq_some_iff.1 hc).1;rw[setV_len]at this;exact this
  have e2:i.toUInt8.toNat=i:=by simp[Nat.toUInt8,UInt8.toNat_ofNat',Nat.mod_eq_of_lt hi]
  have g1:=Lib.setCells_at nmW i.toUInt8
  have g2:=setV_get i.toUInt8
  rw[e2]at g1 g2
  rw[Array.getElem?_toList,g1]at hv
  rw[g2]at hc
  cases hv;cases hc
  exact⟨.bool _,rfl⟩
 refine .tup [.agg (Lib.setCells nmW),.bool true] [.agg setV,.bool true] rfl (fun i v c h1 h2=>?_)
 match i,h1,h2 with
 |0,h1,h2 =>
  simp at h1 h2;subst h1 h2
  have:=Rep.agg (w:=w') (A:=A') (Lib.setCells nmW).toList setV (by rw[Array.length_toList,Lib.setCells_size,setV_len]) (fun v hv=>by
   obtain⟨i,hi⟩:=List.mem_iff_getElem?.1 hv
   have hlt:i<setV.length:=by rw[setV_len];have:=(List.getElem?_eq_some_iff.1 hi).1;rw[Array.length_toList,Lib.setCells_size]at this;exact this
   exact(hcell i v setV[i] hi (List.getElem?_eq_getElem hlt)).2) (fun i v c hv hc=>(hcell i v c hv hc).1)
  rwa [Array.toArray_toList]at this
 |1,h1,h2=>simp at h1 h2;subst h1 h2;exact .bool _
theorem pred280 (w:World):PredAt Tryz.prog 247 #[] encR othR w:=fun W r _=>by
 unfold FnGives
 by_cases h1:r<48<;>by_cases h2:57<r
 all_goals
  have z1:(r:Int)<48↔r<48:=by omega
  have z2:(57:Int)<(r:Int)↔57<r:=by omega
  go_enter Tryz.func247,Tryz.ntmps247
  go_wp2
  all_goals first|(exfalso;omega)|(go_ret;exact⟨by simp[othR,h1,h2],0,rfl⟩)
theorem v345 (s:List UInt8)(st:St):VRet Tryz.prog 345 [.str s,.fn (.func 247) [] [],.bool true] st (.int .i64 (Lib.idxFunc othR true ⟨s.toArray⟩)) st:=by
 refine VRet_of_below callable345 (fun w A vs hw ha=>?_)
 obtain⟨hl,ha⟩:=ha
 match vs,hl with
 |[v0,v1,v2],_ =>
 have e0:=(ha 0 v0 _ rfl rfl).str_inv
 have r1:=ha 1 v1 _ rfl rfl
 have e2:=(ha 2 v2 _ rfl rfl).bool_inv
 have e1:v1=.func (.func 247) #[] #[]:=by
  cases r1 with
  |fn _ vs us _ _ e1 e2 _ _ =>
   have h1:vs=[]:=List.eq_nil_of_length_eq_zero e1
   have h2:us=[]:=List.eq_nil_of_length_eq_zero e2
   rw[h1,h2]
 subst e0;subst e1;subst e2
 refine(Tryz.strings_indexFunc 247 #[] (enters_of Tryz.func247 (by kernel_rfl) rfl) othR true ⟨s.toArray⟩ w (pred280 w)).mono fun e w' ⟨he,hb⟩=>?_
 subst he
 exact⟨_,rfl,fun w' A'=>.int _ _,hb⟩
theorem HL0_ok:ESound Tryz.prog HL0:=fun f args st r s h=>by
 obtain⟨z,hz,e⟩:=Option.map_eq_some_iff.1 h
 cases e
 by_cases h1:f=306
 ·subst h1
  rw[show Nat.beq 306 306=true from rfl,cond_true]at hz
  unfold q306 at hz
  split at hz<;>cases hz
  exact v306 _ _ _
 rw[show Nat.beq f 306=false from Bool.eq_false_iff.2 fun e=>h1 (Nat.eq_of_beq_eq_true e),cond_false]at hz
 by_cases h2:f=318
 ·subst h2
  rw[show Nat.beq 318 318=true from rfl,cond_true]at hz
  unfold q318 at hz
  split at hz
  ·split at hz
   ·rename_i e;subst e;cases hz;exact v318 _
   ·cases hz
  ·cases hz
 rw[show Nat.beq f 318=false from Bool.eq_false_iff.2 fun e=>h2 (Nat.eq_of_beq_eq_true e),cond_false]at hz
 by_cases h3:f=345
 ·subst h3
  rw[show Nat.beq 345 345=true from rfl,cond_true]at hz
  unfold q345 at hz
  split at hz<;>cases hz
  exact v345 _ _
 rw[show Nat.beq f 345=false from Bool.eq_false_iff.2 fun e=>h3 (Nat.eq_of_beq_eq_true e),cond_false]at hz
 cases hz
end Go.Proofs.YtmjkgajnpmiomaaGreatDoor

namespace Go.Proofs.YtmjkgajnpmiomaaGreatDoor
open Go.Sha Go.RowKit
set_option maxRecDepth 100000
theorem parse_digs:∀(s:List UInt8) (acc:Nat),s.all isD=true→acc<18446744073709551616→Lib.parseUint10 acc s=if s.foldl (fun n b=>10*n+(b.toNat-48)) acc<18446744073709551616 then .ok (s.foldl (fun n b=>10*n+(b.toNat-48)) acc) else .range
 |[],acc,_,h=>by simp[Lib.parseUint10,h]
 |b::s,acc,h,ha=>by
  have mono:∀(s:List UInt8) (n:Nat),n≤s.foldl (fun n b=>10*n+(b.toNat-48)) n:=by
   intro s
   induction s with
   |nil=>intro n;exact Nat.le_refl _
   |cons c s ih=>intro n;rw[List.foldl_cons];refine Nat.le_trans ?_ (ih _);omega
  simp only[List.all_cons,Bool.and_eq_true]at h
  obtain⟨hb,hs⟩:=h
  have hb':48≤b.toNat∧b.toNat≤57:=by
   simp only[isD,Bool.and_eq_true,decide_eq_true_eq]at hb;omega
  rw[Lib.parseUint10,if_pos hb',List.foldl_cons]
  have hm:=mono s (10*acc+(b.toNat-48))
  by_cases h1:1844674407370955162≤acc
  ·rw[if_pos h1,if_neg (by omega)]
  ·rw[if_neg h1]
   by_cases h2:18446744073709551616≤acc*10+(b.toNat-48)
   ·rw[if_pos h2,if_neg (by omega)]
   ·rw[if_neg h2,parse_digs s _ hs (by omega),Nat.mul_comm]
theorem atoi_digs {s:List UInt8}(h0:s≠[])(h:s.all isD=true):Lib.atoiAll s=if natOf s<9223372036854775808 then .ok (natOf s:Int) else .range:=by
 cases s with
 |nil=>exact absurd rfl h0
 |cons b s =>
  have hb:isD b=true:=by simp only[List.all_cons,Bool.and_eq_true]at h;exact h.1
  have hb':48≤b.toNat∧b.toNat≤57:=by
   simp only[isD,Bool.and_eq_true,decide_eq_true_eq]at hb;omega
  rw[Lib.atoiAll_plain b s (by omega) (by omega),Lib.parseMag,if_neg (by simp),parse_digs (b::s) 0 h (by omega)]
  show Lib.signless (if natOf (b::s)<18446744073709551616 then .ok (natOf (b::s)) else .range)=_
  by_cases h1:natOf (b::s)<18446744073709551616
  ·rw[if_pos h1]
   unfold Lib.signless
   by_cases h2:natOf (b::s)<9223372036854775808
   ·rw[if_pos h2];simp only;rw[if_neg (by omega)]
   ·rw[if_neg h2];simp only;rw[if_pos (by omega)]
  ·rw[if_neg h1,if_neg (by omega)];rfl
theorem natOf_lt:∀{s:List UInt8}{n:Nat},s.all isD=true→s.foldl (fun n b=>10*n+(b.toNat-48)) n<(n+1)*10 ^ s.length
 |[],n,_=>by simp
 |b::s,n,h=>by
  simp only[List.all_cons,Bool.and_eq_true]at h
  have hb:b.toNat≤57:=by have:=h.1;simp only[isD,Bool.and_eq_true,decide_eq_true_eq]at this;omega
  have ih:=natOf_lt (s:=s) (n:=10*n+(b.toNat-48)) h.2
  rw[List.foldl_cons,List.length_cons,Nat.pow_succ]
  refine Nat.lt_of_lt_of_le ih ?_
  rw[show(n+1)*(10 ^ s.length*10)=((n+1)*10)*10 ^ s.length by rw[Nat.mul_comm (10 ^ s.length),Nat.mul_assoc]]
  exact Nat.mul_le_mul_right _ (by omega)
theorem v381 (s:List UInt8)(st:St)(h0:s≠[])(h:s.all isD=true)(hl:s.length≤18):VRet Tryz.prog 381 [.str s] st (.tup [.int .i64 (natOf s),.nili]) st:=by
 have hn:natOf s<9223372036854775808:=by
  have h1:=natOf_lt (n:=0) h
  have h2:10 ^ s.length≤10 ^ 18:=Nat.pow_le_pow_right (by omega) hl
  unfold natOf;omega
 refine VRet_of_below callable381 (fun w A vs hw ha=>?_)
 obtain⟨u,rfl,h1⟩:=ha.one
 have e1:=h1.str_inv
 subst e1
 have hat:=atoi_digs h0 h
 rw[if_pos hn]at hat
 refine(Tryz.strconv_Atoi_ok ⟨s.toArray⟩ (by simp[ByteArray.size];omega) (natOf s:Int) (by simpa using hat) w).mono fun e w' ⟨he,hb⟩=>?_
 subst he
 refine⟨_,rfl,fun w' A'=>?_,?_⟩
 ·refine .tup [.int .i64 (natOf s),.nilIface] [.int .i64 (natOf s),.nili] rfl (fun i v c h1 h2=>?_)
  match i,h1,h2 with
  |0,h1,h2=>simp at h1 h2;subst h1 h2;exact .int _ _
  |1,h1,h2=>simp at h1 h2;subst h1 h2;exact .nili
 ·rcases hb with rfl|⟨t,rfl⟩
  ·exact Below.refl _ _
  ·exact Lib.bytesWorld_below w 5 t
end Go.Proofs.YtmjkgajnpmiomaaGreatDoor

namespace Go.Proofs.YtmjkgajnpmiomaaGreatDoor
open Go.Sha
set_option maxRecDepth 100000
theorem HH_ok:ESound Tryz.prog HH:=fun f args st r s h=>by
 simp only[HH]at h
 cases hm:memL f [43,102,103,112,113,115,167,168,172,173,176,179,180,181,183,189,265,270] with
 |true =>
  rw[hm,cond_true]at h
  simp only[hSl]at h
  by_cases h1:f=102
  ·subst h1
   exact cln_ok (e:=98) (es:=3) (b:=40) (by kernel_rfl) h
  rw[show Nat.beq f 102=false from Bool.eq_false_iff.2 fun e=>h1 (Nat.eq_of_beq_eq_true e),cond_false]at h
  by_cases h1:f=103
  ·subst h1
   exact ins_ok slL bearsL ovL rfl (by decide) h
  rw[show Nat.beq f 103=false from Bool.eq_false_iff.2 fun e=>h1 (Nat.eq_of_beq_eq_true e),cond_false]at h
  by_cases h1:f=112
  ·subst h1
   exact cln_ok (e:=53) (es:=6) (b:=64) (by kernel_rfl) h
  rw[show Nat.beq f 112=false from Bool.eq_false_iff.2 fun e=>h1 (Nat.eq_of_beq_eq_true e),cond_false]at h
  by_cases h1:f=113
  ·subst h1
   exact ins_ok slE bearsE ovE rfl (by decide) h
  rw[show Nat.beq f 113=false from Bool.eq_false_iff.2 fun e=>h1 (Nat.eq_of_beq_eq_true e),cond_false]at h
  by_cases h1:f=115
  ·subst h1
   exact del_ok dlE bearsDE rfl (by decide) h
  rw[show Nat.beq f 115=false from Bool.eq_false_iff.2 fun e=>h1 (Nat.eq_of_beq_eq_true e),cond_false]at h
  by_cases h1:f=168
  ·subst h1
   exact cln_ok (e:=41) (es:=9) (b:=120) (by kernel_rfl) h
  rw[show Nat.beq f 168=false from Bool.eq_false_iff.2 fun e=>h1 (Nat.eq_of_beq_eq_true e),cond_false]at h
  by_cases h1:f=167
  ·subst h1
   exact del_ok dlC bearsDC rfl (by decide) h
  rw[show Nat.beq f 167=false from Bool.eq_false_iff.2 fun e=>h1 (Nat.eq_of_beq_eq_true e),cond_false]at h
  by_cases h1:f=172
  ·subst h1
   exact cln_ok (e:=44) (es:=2) (b:=32) (by kernel_rfl) h
  rw[show Nat.beq f 172=false from Bool.eq_false_iff.2 fun e=>h1 (Nat.eq_of_beq_eq_true e),cond_false]at h
  by_cases h1:f=173
  ·subst h1
   exact ins_ok slP bearsP ovP rfl (by decide) h
  rw[show Nat.beq f 173=false from Bool.eq_false_iff.2 fun e=>h1 (Nat.eq_of_beq_eq_true e),cond_false]at h
  by_cases h1:f=176
  ·subst h1
   exact cln_ok (e:=47) (es:=2) (b:=32) (by kernel_rfl) h
  rw[show Nat.beq f 176=false from Bool.eq_false_iff.2 fun e=>h1 (Nat.eq_of_beq_eq_true e),cond_false]at h
  by_cases h1:f=179
  ·subst h1
   exact ins_ok slG bearsG ovG rfl (by decide) h
  rw[show Nat.beq f 179=false from Bool.eq_false_iff.2 fun e=>h1 (Nat.eq_of_beq_eq_true e),cond_false]at h
  by_cases h1:f=180
  ·subst h1
   exact del_ok dlG bearsDG rfl (by decide) h
  rw[show Nat.beq f 180=false from Bool.eq_false_iff.2 fun e=>h1 (Nat.eq_of_beq_eq_true e),cond_false]at h
  by_cases h1:f=181
  ·subst h1
   exact cln_ok (e:=50) (es:=4) (b:=48) (by kernel_rfl) h
  rw[show Nat.beq f 181=false from Bool.eq_false_iff.2 fun e=>h1 (Nat.eq_of_beq_eq_true e),cond_false]at h
  by_cases h1:f=183
  ·subst h1
   exact ins_ok slS bearsS ovS rfl (by decide) h
  rw[show Nat.beq f 183=false from Bool.eq_false_iff.2 fun e=>h1 (Nat.eq_of_beq_eq_true e),cond_false]at h
  by_cases h1:f=189
  ·subst h1
   exact cln_ok (e:=55) (es:=7) (b:=72) (by kernel_rfl) h
  rw[show Nat.beq f 189=false from Bool.eq_false_iff.2 fun e=>h1 (Nat.eq_of_beq_eq_true e),cond_false]at h
  by_cases h1:f=43
  ·subst h1
   exact cln_ok (e:=31) (es:=9) (b:=208) (by kernel_rfl) h
  rw[show Nat.beq f 43=false from Bool.eq_false_iff.2 fun e=>h1 (Nat.eq_of_beq_eq_true e),cond_false]at h
  by_cases h1:f=265
  ·subst h1
   exact grw_ok basT (ρ:=rgS) rfl rfl rfl rfl rfl rfl bearsWS rfl (by decide) Tryz.underlying28 Tryz.isAgg28 Tryz.sizeOf28 Tryz.zeroValue28 infoWS rfl h
  rw[show Nat.beq f 265=false from Bool.eq_false_iff.2 fun e=>h1 (Nat.eq_of_beq_eq_true e),cond_false]at h
  by_cases h1:f=270
  ·subst h1
   exact grw_ok basT (ρ:=rgF) rfl rfl rfl rfl rfl rfl bearsWF rfl (by decide) Tryz.underlying24 Tryz.isAgg24 Tryz.sizeOf24 Tryz.zeroValue24 infoWF rfl h
  rw[show Nat.beq f 270=false from Bool.eq_false_iff.2 fun e=>h1 (Nat.eq_of_beq_eq_true e),cond_false]at h
  cases h
 |false =>
 rw[hm,cond_false]at h
 obtain⟨z,hz,e⟩:=Option.map_eq_some_iff.1 h
 cases e
 by_cases h1:f=160
 ·subst h1
  rw[show Nat.beq 160 160=true from rfl,cond_true]at hz
  unfold hCut at hz
  split at hz
  ·split at hz
   ·rename_i hl;cases hz;exact run_sound mixed HL0_ok _ _ _ _ _ (k160 hl)
   ·cases hz
  ·cases hz
 rw[show Nat.beq f 160=false from Bool.eq_false_iff.2 fun e=>h1 (Nat.eq_of_beq_eq_true e),cond_false]at hz
 by_cases h1:f=164
 ·subst h1
  rw[show Nat.beq 164 164=true from rfl,cond_true]at hz
  unfold hSuf at hz
  split at hz
  ·split at hz
   ·rename_i hl;cases hz;exact run_sound mixed HL0_ok _ _ _ _ _ (k164 hl.1 hl.2)
   ·cases hz
  ·cases hz
 rw[show Nat.beq f 164=false from Bool.eq_false_iff.2 fun e=>h1 (Nat.eq_of_beq_eq_true e),cond_false]at hz
 by_cases h1:f=246
 ·subst h1
  rw[show Nat.beq 246 246=true from rfl,cond_true]at hz
  unfold hAny at hz
  split at hz
  ·cases hz;exact run_sound mixed HL0_ok _ _ _ _ _ k246
  ·cases hz
 rw[show Nat.beq f 246=false from Bool.eq_false_iff.2 fun e=>h1 (Nat.eq_of_beq_eq_true e),cond_false]at hz
 by_cases h1:f=381
 ·subst h1
  rw[show Nat.beq 381 381=true from rfl,cond_true]at hz
  unfold hAtoi at hz
  split at hz
  ·split at hz
   ·rename_i hl;cases hz;exact v381 _ _ hl.1 hl.2.1 hl.2.2
   ·cases hz
  ·cases hz
 rw[show Nat.beq f 381=false from Bool.eq_false_iff.2 fun e=>h1 (Nat.eq_of_beq_eq_true e),cond_false]at hz
 by_cases h1:f=278
 ·subst h1
  rw[show Nat.beq 278 278=true from rfl,cond_true]at hz
  unfold hTrim at hz
  split at hz
  ·split at hz
   ·rename_i hl;obtain⟨e1,e2⟩:=hl;subst e1;cases hz;exact run_sound mixed HL0_ok _ _ _ _ _ (k278 e2)
   ·cases hz
  ·cases hz
 rw[show Nat.beq f 278=false from Bool.eq_false_iff.2 fun e=>h1 (Nat.eq_of_beq_eq_true e),cond_false]at hz
 cases hz
end Go.Proofs.YtmjkgajnpmiomaaGreatDoor

namespace Go.Proofs.YtmjkgajnpmiomaaGreatDoor
open Go.ChangeShapes Go.WideShapes Go.ChangeAt Go.RowKit Go.Sha
section
variable {H:Type}{enc:TypeId×Value→H}{P:Program}{w:World}
theorem arg_oneS {n:Nat}{t:TypeId}{b:Option Addr}{l c:Nat}{d:DataW H}{ps:List MemPlace}{s:CSh}(h:DataW.Trod enc P w 0 (fun _=>true) true t (.slice b l c) d ps)(hsh:shOf P n t=some [s])
  (hw:∀k∈d.weights P t,k≤reachBytes):∃x,OkC s x∧Rep w (abs0 w) (.slice b l c) x:=by
 obtain⟨fuel,hf⟩:=h
 obtain⟨vs,h1,h2,h3⟩:=trod_sh n fuel t _ _ _ hf hsh hw
 obtain⟨x,r,rfl,hx,hr⟩:=h1.cons_inv
 obtain rfl:=hr.nil_inv
 exact⟨x,hx,h2.2 0 _ _ rfl rfl⟩
end
theorem Edi.Dk.ok {x:Edi}(h:x.Dk):x.ok :=
 ⟨h.num,by have:=h.key;omega,h.cue.ok,by have:=h.pal.hues.1;omega,by have:=h.grp.chans.1;omega,by have:=h.sub.gains.1;omega,by have:=h.eff.wave.1;omega,by have:=h.fix.cable;omega⟩
theorem sound:ESound Tryz.prog HY:=HY_ok HH_ok
theorem law {s:Sho}{l:List Edi}(h:s.Dk)(hl:l.length≤140737488351232∧∀q∈l,q.Dk){st:St}:run Tryz.prog HY 3 [s.v,.sl (l.map Edi.v)] st=some (.ret (.bool true),st):=law_at h.ok (by have:=hl.1;omega) (fun q hq=>(hl.2 q hq).ok)
theorem sk1:(laidOutB Tryz.prog)=true:=by kernel_rfl
theorem sk2:(mapsRowed Tryz.prog)=true:=by kernel_rfl
theorem sk6:(Tryz.prog.stops == [])=true:=by kernel_rfl
theorem sk8:(Tryz.prog.stopKnobs == [])=true:=by kernel_rfl
theorem sk22:(Rows.topEditsAreUndoneRow.plainKeys == Tryz.prog.plainKeys)=true:=by kernel_rfl
theorem sk24:(Tryz.prog.stopsHeard)=true:=by kernel_rfl
theorem sk25:(Tryz.prog.mayEnter)=true:=by kernel_rfl
theorem sk26:(Rows.topEditsAreUndoneRow.lifted == Tryz.prog.liftsFinal)=true:=by kernel_rfl
theorem sk27:(Tryz.prog.make == some Rows.topEditsAreUndoneRow.make)=true:=by kernel_rfl
theorem sk15:(Rows.topEditsAreUndoneRow.mapsOut == Tryz.prog.mapsAmong Tryz.f3.resultTypes.toList)=true:=by kernel_rfl
theorem sown:ownKnob Tryz.prog.godebug=none:=by kernel_rfl
theorem smain:Tryz.prog.mainIs=some (Rows.topEditsAreUndoneCard.stood.harness.1,Rows.topEditsAreUndoneCard.stood.harness.2.toList):=by kernel_rfl
theorem slooks:Rows.topEditsAreUndoneCard.stood.looks=Tryz.prog.looks []:=by kernel_rfl
end Go.Proofs.YtmjkgajnpmiomaaGreatDoor

