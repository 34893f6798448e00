/- Profiles: the program's answer is the reference's. Lists of palettes, submasters, cues: the program's answers are the reference's. Numbers of cues, lists of cues, shows. The check of shows. The compil .. -/
import Derived.Test.YtakiodkbjgdnoaaGreatDoorY1
import Derived.Test.YtakiodkbjgdnoaaGreatDoorYShbYB
import Derived.Test.YtakiodkbjgdnoaaGreatDoorProg
import Derived.KernelRfl
import Derived.Lib.ItoaLen
import Derived.Test.YtakiodkbjgdnoaaGreatDoorYShbXI
import Derived.Test.YtakiodkbjgdnoaaGreatDoorYShbEK
import Derived.Shelf.Small.Utf8
import Derived.Shelf.Small.Bits
import Derived.Shelf.Small.Strs
import Derived.Shelf.Strconv.Atoi
import Derived.Shelf.Strconv.Itoa0
import Derived.Shelf.Strconv.Itoa1
import Derived.Shelf.LaysM
import Derived.Shelf.Strconv.Itoa2
import Derived.Shelf.Strconv.Itoa3
import Derived.Shelf.Strconv.AtoiErrFast
import Derived.Shelf.Strconv.ParseIntEmpty
import Derived.Shelf.Strconv.AtoiFail
import Derived.Shelf.Strconv.Clone
import Derived.Shelf.Strconv.SyntaxError
import Derived.Shelf.LaysC
import Derived.Shelf.Strconv.ToError
import Derived.Shelf.Strconv.Lower
import Derived.Shelf.Strconv.ParseUint10
import Derived.Shelf.Strconv.ParseUint10Empty
import Derived.Shelf.Strconv.ParseUint10Any
import Derived.Shelf.Strconv.ParseInt10
import Derived.Shelf.Strconv.AtoiLong
import Derived.Shelf.Strconv.AtoiInnerAll
import Derived.Shelf.Strconv.RangeError
import Derived.Shelf.Strconv.ToErrorRange
import Derived.Shelf.Strconv.AtoiAll
import Derived.Shelf.Strings.Search1
import Derived.Shelf.Strings.Search2
import Derived.Shelf.Strings.Cut
import Derived.Shelf.Strings.Shaped
import Derived.Shelf.GgClosure.StringsIndexFunc
import Derived.Ground.GgwProg
import Derived.Shelf.GgClosure.StringsIndexFuncTop
import Derived.Shelf.Strings.Prefix
import Derived.Shelf.Strings.Runes
import Derived.Shelf.Strings.AsciiSet
import Derived.Shelf.Unicode.DecodeSlow
import Derived.Test.YtakiodkbjgdnoaaGreatDoorYShbT
import Derived.Lib.AtoiAllCases
import Derived.Laws.RangeAny
import Derived.Lib.AppendIntMem
import Derived.Test.YtakiodkbjgdnoaaGreatDoorRows
import Derived.Test.YtakiodkbjgdnoaaGreatDoorYShbAE
import Derived.Test.YtakiodkbjgdnoaaGreatDoorYShbXS
import Derived.Test.YtakiodkbjgdnoaaGreatDoorYShbAC
set_option linter.unusedSimpArgs false
set_option linter.unusedVariables false
namespace Go.Proofs.YtakiodkbjgdnoaaGreatDoor
open Go.Sha
set_option maxRecDepth 100000
variable {g:List (Nat×Obj)}{n:Nat}
theorem insI_c {l:List Int}{a b:Int}:(insI l a).contains b=(l.contains b||b == a):=by
 unfold insI
 split
 ·rename_i h
  by_cases e:b=a
  ·subst e;simp only[h];simp
  ·simp[e]
 ·rw[List.contains_eq_any_beq,List.any_append,←List.contains_eq_any_beq];simp[BEq.comm]
theorem foldI_c {b:Int}:∀{os l:List Int},(os.foldl insI l).contains b=(l.contains b||os.contains b)
 |[],l=>by simp
 |a::r,l=>by rw[List.foldl_cons,foldI_c,insI_c,List.contains_cons,Bool.or_assoc]
theorem offs_c {q:Ftr}{v:Int}:(offs q).contains v=useQ v q:=by
 unfold offs useQ
 rw[Bool.eq_iff_iff]
 by_cases h:q.bits=16
 ·simp only[h,if_true,true_and,List.contains_cons,List.contains_nil,Bool.or_false,Bool.or_eq_true,beq_iff_eq,decide_eq_true_eq]
  exact⟨fun e=>e.elim (fun e=>.inl e.symm) (fun e=>.inr e.symm),fun e=>e.elim (fun e=>.inl e.symm) (fun e=>.inr e.symm)⟩
 ·simp only[h,if_false,false_and,or_false,List.contains_cons,List.contains_nil,Bool.or_false,beq_iff_eq,decide_eq_true_eq]
  exact⟨Eq.symm,Eq.symm⟩
def SetOk (b:List Ftr)(ts us:List Int):Prop:=(∀a,ts.contains a=b.any fun z=>z.attr == a)∧∀v,us.contains v=b.any (useQ v)
theorem SetOk.snoc {b:List Ftr}{ts us:List Int}(h:SetOk b ts us)(q:Ftr):SetOk (b++[q]) (insI ts q.attr) ((offs q).foldl insI us) :=
 ⟨fun a=>by rw[insI_c,h.1,List.any_append];simp[BEq.comm],fun v=>by rw[foldI_c,h.2,List.any_append,offs_c];simp⟩
theorem insC_eq {q:Ftr}(h:q.bits=8∨q.bits=16):insC q=insR q:=by
 have e:topV q.bits=if q.bits=8 then 255 else 65535:=by rcases h with h|h<;>rw[h]<;>decide
 unfold insC insR
 rw[e]
 by_cases h1:lvl q.home<;>by_cases h2:q.low<0∨q.high<q.low∨(if q.bits=8 then 255 else 65535)<q.high<;>simp[h1,h2]
theorem innC_eq {q:Ftr}{c:Int}(h:q.bits=8∨q.bits=16):innC c q=innR c q:=by unfold innC innR;rw[insC_eq h]
theorem featF_eq {foot c:Int}{q:Ftr}{b:List Ftr}{ts us:List Int}(h:SetOk b ts us):featR foot c q b=if ¬featF foot q ts us=0 then featF foot q ts us else innC c q:=by
 have e1:((offs q).any fun v=>decide (v<0∨foot≤v))=true↔q.coarse<0∨foot≤q.coarse∨q.bits=16∧(q.fine<0∨foot≤q.fine):=by
  unfold offs;by_cases hb:q.bits=16<;>simp[hb,or_assoc]
 have e2:(offs q).any us.contains=true↔b.any (useQ q.coarse)=true∨q.bits=16∧b.any (useQ q.fine)=true:=by
  rw[←h.2,←h.2];unfold offs;by_cases hb:q.bits=16<;>simp only[hb,if_true,if_false,List.any_cons,List.any_nil,Bool.or_false,Bool.or_eq_true,true_and,false_and,or_false]
 unfold featR featF
 rw[h.1]
 by_cases c1:q.attr<0∨15≤q.attr
 ·simp[c1]
 ·by_cases c2:(b.any fun z=>z.attr == q.attr)=true
  ·simp[c1,c2]
  ·by_cases c3:¬q.bits=8∧¬q.bits=16
   ·simp[c1,c2,c3]
   ·have hb:q.bits=8∨q.bits=16:=by omega
    rw[innC_eq hb]
    by_cases c4:q.coarse<0∨foot≤q.coarse∨q.bits=16∧(q.fine<0∨foot≤q.fine)
    ·simp only[if_neg c1,if_neg c2,if_neg c3,if_pos c4,if_pos (e1.2 c4)];rfl
    ·simp only[if_neg c1,if_neg c2,if_neg c3,if_neg c4,if_neg (fun e=>c4 (e1.1 e))]
     by_cases c5:q.bits=8∧¬q.fine=0
     ·simp only[if_pos c5];rfl
     ·simp only[if_neg c5]
      by_cases c6:(offs q).any us.contains=true
      ·simp only[if_pos c6]
       rw[if_pos ((e2.1 c6).elim .inl fun e=>.inr ⟨e.1,.inl e.2⟩)];rfl
      ·simp only[if_neg c6]
       by_cases c7:q.bits=16∧q.fine=q.coarse
       ·simp only[if_pos c7];rw[if_pos (.inr ⟨c7.1,.inr c7.2⟩)];rfl
       ·simp only[if_neg c7]
        rw[if_neg (fun e=>e.elim (fun e=>c6 (e2.2 (.inl e))) fun e=>e.2.elim (fun x=>c6 (e2.2 (.inr ⟨e.1,x⟩))) fun x=>c7 ⟨e.1,x⟩)];rfl
theorem featsP_eq {foot c:Int}{l:List Ftr}:∀{r:List Ftr}{j:Nat}{ts us:List Int},l.drop j=r→SetOk (l.take j) ts us→(featsP foot c r ts us).1=featsR foot c l r j
 |[],_,_,_,_,_=>rfl
 |q::r,j,ts,us,hd,h=>by
  rw[featsP,featsR,featF_eq h]
  by_cases h1:featF foot q ts us=0
  ·by_cases h2:innC c q=0
   ·have:=featsP_eq (foot:=foot) (c:=c) (l:=l) (r:=r) (j:=j+1) (by rw[←List.drop_drop,hd];rfl) (by rw[take_snoc hd];exact h.snoc q)
    simp only[h1,h2,not_true_eq_false,if_false,if_true];exact this
   ·simp[h1,h2]
  ·simp[h1]
theorem profP_eq {p:Prof}{l:List (List Pt)}:profP p l=profR p l:=by
 unfold profP profR profF
 rw[featsP_eq (l:=p.feats) (r:=p.feats) (j:=0) rfl ⟨fun _=>rfl,fun _=>rfl⟩]
 by_cases h1:cursC l=0
 ·by_cases h2:nameS p.name=false
  ·simp[h1,h2]
  ·by_cases h3:p.foot<1∨512<p.foot
   ·have h3':p.foot<1∨512<p.foot∨p.watts<0∨1048576<p.watts:=by omega
    simp[h1,h2,h3,h3']
   ·by_cases h4:p.watts<0∨1048576<p.watts
    ·have h3':p.foot<1∨512<p.foot∨p.watts<0∨1048576<p.watts:=by omega
     simp[h1,h2,h3,h4,h3']
    ·have h3':¬(p.foot<1∨512<p.foot∨p.watts<0∨1048576<p.watts):=by omega
     by_cases h5:16<(p.feats.length:Int)<;>simp[h1,h2,h3,h4,h3',h5]
 ·simp[h1]
def rigE (c:List (List Pt))(ps:List Prof)(fx:List Fixt):V:=.agg [.sl (c.map Pt.vs),.sl (ps.map Prof.v),.sl (fx.map Fixt.v)]
def strE (l:List (List UInt8)):List (V×V):=l.map fun x=>(.str x,.bool true)
theorem find_strE {a:List UInt8}:∀{l:List (List UInt8)}{i:Nat},(l.contains a=true→∃j,findV (.str a) (strE l) i=some (some (j,.bool true)))∧(l.contains a=false→findV (.str a) (strE l) i=some none)
 |[],i=>⟨fun h=>by simp at h,fun _=>rfl⟩
 |x::r,i=>by
  obtain⟨i1,i2⟩:=find_strE (a:=a) (l:=r) (i:=i+1)
  simp only[strE,List.map_cons,findV,sameV]at i1 i2 ⊢
  by_cases h:a=x
  ·subst h;exact⟨fun _=>⟨i,by simp⟩,fun e=>by simp at e⟩
  ·have h':(a == x)=false:=by simp[h]
   simp only[h',List.contains_cons,Bool.false_or]
   exact⟨i1,i2⟩
@[push_cast]theorem look_strE {st:St}{a:List UInt8}{l:List (List UInt8)}:lookB st (.bool false) false (findV (.str a) (strE l) 0)=some (.bool (l.contains a),st):=by
 cases h:l.contains a with
 |true=>obtain⟨j,e⟩:=(find_strE (i:=0)).1 h;rw[e];rfl
 |false=>rw[(find_strE (i:=0)).2 h];rfl
theorem mset_strE {st:St}{i:Nat}{a:List UInt8}{l:List (List UInt8)}(h:l.contains a=false):msetB st i (strE l) (.str a) (.bool true) (findV (.str a) (strE l) 0)=some (.und,⟨st.nx,st.mem,st.arr,⟨updO st.x.obj i (.map (strE (l++[a]))),st.x.gl,st.x.ty⟩⟩):=by
 rw[(find_strE (i:=0)).2 h];simp[msetB,putM,strE]
@[push_cast]theorem strE_all {l:List (List UInt8)}:((strE l).all fun p=>p.1.bd n&&p.2.bd n)=true:=by simp[strE,V.bd]
def stS (g:List (Nat×Obj))(a:List (List UInt8)):St:=⟨2,[],[],⟨[(1,.map (strE a))],g,[]⟩⟩
@[push_cast]theorem stS_eq {a:List (List UInt8)}:stS g a=⟨2,[],[],⟨[(1,.map (strE a))],g,[]⟩⟩:=idq rfl
theorem L71_0 {l:List (List Pt)}{x:V}(hl:Cok l):∀r j,l.drop j=r→runL Tryz.prog HH [1,15,16,17] 1 B71_0 [(1,.ep x 0),(15,.sl (l.map Pt.vs)),(16,.int .i64 l.length),(17,.int .i64 j)] (stN g 1)=lpX 0 (stN g 1) [(1,.ep x 0)] 2 (cursL r):=by
 have hb:=hl.1
 refine drop_ind (fun j h=>?_) (fun q r j h hx hd ih=>?_)
 all_goals rw[runL_of B71_0.eq_1]
 ·have h1:¬(j:Int)<l.length:=by omega
  push_cast[h1,cursL]
 ·have h1:(j:Int)<l.length:=by omega
  have hw:=iw1 (j:=j) (by omega)
  have hq:q.length<140737488355328:=hl.2 q (mem_at hd)
  push_cast[h1,hw,hx,f111 hq]at ih ⊢
  simp only[ih,cursL,lps,Int.reduceEq,not_false_eq_true]
  all_goals first|with_reducible rfl|exact dn_eq (by omega) (by with_reducible rfl)|((repeat' split)<;>(try simp_all)<;>(try (with_reducible refine dn_eq ?_ ?_<;>first|trivial|omega|rfl))<;>(try omega))
theorem L71_1 {l:List Prof}{c:List (List Pt)}{fx:List Fixt}(hl:l.length<140737488355328)(hb:∀q∈l,q.ok)(hc:Cok c):∀r j,l.drop j=r→∀ns,(∀s,ns.contains s=(l.take j).any fun p=>p.name == s)→∃ns',
  runL Tryz.prog HH [1,6,33,34,35] 2 B71_1 [(1,.ep (rigE c l fx) 0),(6,.mp 1),(33,.sl (l.map Prof.v)),(34,.int .i64 l.length),(35,.int .i64 j)] (stS g ns)=lpX 2 (stS g ns') [(1,.ep (rigE c l fx) 0)] 2 (profsR l c r j):=by
 refine drop_ind (fun j h ns hn=>?_) (fun q r j h hx hd ih ns hn=>?_)
 all_goals rw[runL_of B71_1.eq_1]
 ·have h1:¬(j:Int)<l.length:=by omega
  refine⟨ns,?_⟩
  push_cast[h1,profsR,Prof.v,rigE]
 ·have h1:(j:Int)<l.length:=by omega
  have hw:=iw1 (j:=j) (by omega)
  have h145:=fun(st:St)=>f112 (st:=st) (hb q (mem_at hd)) hc
  rw[profP_eq]at h145
  rw[profsR,←hn]
  cases h2:ns.contains q.name with
  |true =>
   refine⟨ns,?_⟩
   clear ih
   push_cast[Prof.v]at h145
   push_cast[h1,hw,hx,rigE,Prof.v,h145,h2]
   all_goals first|with_reducible rfl|exact dn_eq (by omega) (by with_reducible rfl)|((repeat' split)<;>(try simp_all)<;>(try (with_reducible refine dn_eq ?_ ?_<;>first|trivial|omega|rfl))<;>(try omega))
  |false =>
   obtain⟨ns',ih⟩:=ih (ns++[q.name]) (fun s=>by rw[take_snoc hd,List.any_append,←hn,List.contains_eq_any_beq,List.any_append,←List.contains_eq_any_beq];simp[BEq.comm])
   have h3:=fun(st:St) (i:Nat)=>mset_strE (st:=st) (i:=i) h2
   by_cases h4:profR q c=0
   ·refine⟨ns',?_⟩
    push_cast[Prof.v]at h145
    push_cast[h1,hw,hx,rigE,Prof.v,h145,h2,h3,h4]at ih ⊢
    simp only[ih]
   ·refine⟨ns,?_⟩
    clear ih
    push_cast[Prof.v]at h145
    push_cast[h1,hw,hx,rigE,Prof.v,h145,h2,h4]
def Pok (l:List Prof):Prop:=l.length<140737488355328∧(∀q∈l,q.ok)∧∀q∈l,q.okR
def Xok (l:List Fixt):Prop:=l.length<140737488355328∧∀x∈l,x.cable.length<140737488355328
def uniC (c:List (List Pt))(ps:List Prof)(fx:List Fixt):Int:=if ¬cursC c=0 then cursC c else if ¬profsCR ps c=0 then profsCR ps c else fixCR fx ps
theorem rigE_bd {c:List (List Pt)}{ps:List Prof}{fx:List Fixt}:V.bd 0 (rigE c ps fx)=true:=by simp[rigE,V.bd,V.bdL,bdL_map']
theorem f71 {c:List (List Pt)}{ps:List Prof}{fx:List Fixt}(hc:Cok c)(hp:Pok ps)(hx:Xok fx){st:St}:run Tryz.prog HH 71 [rigE c ps fx] st=some (.ret (.int .i64 (uniC c ps fx)),st):=by
 have h0:=L71_0 (g:=st.x.gl) (x:=rigE c ps fx) hc _ 0 rfl
 obtain⟨ns,h1⟩:=L71_1 (g:=st.x.gl) (fx:=fx) hp.1 hp.2.1 hc _ 0 rfl [] (fun _=>rfl)
 have h146:=fun(st:St)=>f68 (st:=st) hx.1 hx.2 hp.1
 have e:strE []=[]:=rfl
 rw[run_shut F71 rfl rfl (by simp[V.bdL,rigE_bd])]
 push_cast[rigE,e]at h0 h1
 push_cast[rigE,h0,h1,h146,lpX]
 unfold uniC cursC profsCR
 by_cases a1:16<(c.length:Int)<;>by_cases a2:cursL c=0<;>by_cases a3:32<(ps.length:Int)<;>by_cases a4:profsR ps c ps 0=0<;>simp[a1,a2,a3,a4]
theorem f94 {x:Sho}{st:St}:run Tryz.prog HH 94 [x.v] st=some (.ret (rigE x.curves x.profs x.fixts),st):=by
 rw[run_shut F94 rfl rfl (by simp)]
 push_cast[Sho.v,rigE]
theorem f93 {x:Sho}(hc:Cok x.curves)(hp:Pok x.profs)(hx:Xok x.fixts){st:St}:run Tryz.prog HH 93 [x.v] st=some (.ret (.int .i64 (uniC x.curves x.profs x.fixts)),st):=by
 have h:=fun(st:St)=>f94 (x:=x) (st:=st)
 have h2:=fun(st:St)=>f71 (st:=st) hc hp hx
 push_cast[Sho.v,rigE]at h h2
 rw[run_shut F93 rfl rfl (by simp)]
 push_cast[Sho.v,h,h2]
 all_goals first|with_reducible rfl|exact dn_eq (by omega) (by with_reducible rfl)|((repeat' split)<;>(try simp_all)<;>(try (with_reducible refine dn_eq ?_ ?_<;>first|trivial|omega|rfl))<;>(try omega))
end Go.Proofs.YtakiodkbjgdnoaaGreatDoor

namespace Go.Proofs.YtakiodkbjgdnoaaGreatDoor
open Go.Sha
set_option maxRecDepth 100000
theorem prmC_ok {c:Int}{x:Prm}(h:prmC c x=0):c≤x.chan∧x.chan≤999∧0≤x.attr∧x.attr≤14:=by
 unfold prmC at h;split at h<;>omega
theorem cmp_bef {x y:Prm}{c d:Int}(hc:0≤c)(hd:0≤d)(hx:prmC c x=0)(hy:prmC d y=0):(0≤cmpP x y)=(befP x y=false):=by
 have a:=prmC_ok hx;have b:=prmC_ok hy
 have w1:IntKind.i64.wrap (x.chan-y.chan)=x.chan-y.chan:=iwrap (by omega) (by omega)
 have w2:IntKind.i64.wrap (x.attr-y.attr)=x.attr-y.attr:=iwrap (by omega) (by omega)
 unfold cmpP befP
 rw[w1,w2,eq_iff_iff]
 simp only[Bool.or_eq_false_iff,Bool.and_eq_false_iff,decide_eq_false_iff_not]
 split<;>omega
theorem mem_prev {α:Type}[Inhabited α]{l:List α}{j:Nat}(h0:0<j)(h:j≤l.length):l.getD (j-1) default∈l.take j:=by
 rw[List.getD_eq_getElem?_getD,List.getElem?_eq_getElem (by omega)]
 exact List.mem_iff_getElem?.2 ⟨j-1,by rw[List.getElem?_take,if_pos (by omega),List.getElem?_eq_getElem (by omega)];rfl⟩
theorem drop_le {α:Type}{l r:List α}{q:α}{j:Nat}(hd:l.drop j=q::r):j<l.length:=by
 have:=congrArg List.length hd;simp at this;omega
theorem all_snoc {α:Type}{l r:List α}{q:α}{j:Nat}{P:α→Prop}(hd:l.drop j=q::r)(h:∀z∈l.take j,P z)(hq:P q):∀z∈l.take (j+1),P z:=by
 rw[take_snoc hd];intro z hz
 rcases List.mem_append.1 hz with hz|hz
 ·exact h z hz
 ·rw[List.mem_singleton.1 hz];exact hq
theorem drop_succ {α:Type}{l r:List α}{q:α}{j:Nat}(hd:l.drop j=q::r):l.drop (j+1)=r:=by rw[←List.drop_drop,hd];rfl
theorem hueC_ok {q:Hue}(h:hueC q=0):lvl q.lev∧prmC 0 q.p=0:=by
 unfold hueC at h
 split at h
 ·rename_i a;exact⟨a,h⟩
 ·omega
theorem huesP_eq {l:List Hue}:∀{r:List Hue}{j:Nat},l.drop j=r→(∀z∈l.take j,hueC z=0)→huesP l r j=huesR l r j
 |[],_,_,_=>rfl
 |q::r,j,hd,h=>by
  rw[huesP,huesR]
  by_cases h1:hueC q=0
  ·obtain⟨a,b⟩:=hueC_ok h1
   have b':=prmC_ok b
   have n:¬(q.chan<0∨999<q.chan∨q.attr<0∨15≤q.attr∨¬lvl q.lev):=by
    simp only[Hue.p]at b';omega
   rw[if_pos h1,if_neg n,huesP_eq (drop_succ hd) (all_snoc hd h h1)]
   have e:(0<j∧0≤cmpP (l.getD (j-1) default).p q.p)=(0<j∧befP (l.getD (j-1) default).p q.p=false):=by
    rw[eq_iff_iff]
    refine and_congr_right fun h0=>?_
    rw[cmp_bef (Int.le_refl 0) (Int.le_refl 0) (hueC_ok (h _ (mem_prev h0 (Nat.le_of_lt (drop_le hd))))).2 b]
   simp only[e]
  ·rw[if_neg h1]
   have n:q.chan<0∨999<q.chan∨q.attr<0∨15≤q.attr∨¬lvl q.lev:=by
    by_cases a:lvl q.lev
    ·simp only[hueC,a,if_true,prmC,Hue.p]at h1
     split at h1<;>omega
    ·exact .inr (.inr (.inr (.inr a)))
   rw[if_pos n]
   unfold hueC prmC at h1 ⊢
   split
   ·rename_i a
    rw[if_pos a]at h1
    split
    ·rfl
    ·rename_i b;rw[if_neg b]at h1;exact absurd rfl h1
   ·rfl
theorem hueL_eq {l:List Hue}:hueLP l=hueLR l:=by unfold hueLP hueLR;rw[huesP_eq (l:=l) (r:=l) (j:=0) rfl (by simp)]
theorem palsP_eq {l:List Pal}:∀{r:List Pal}{j:Nat},palsP l r j=palsR l r j
 |[],_=>rfl
 |q::r,j=>by rw[palsP,palsR,hueL_eq,palsP_eq]
theorem palsC_eq {l:List Pal}:palsCP l=palsCR l:=by unfold palsCP palsCR;rw[palsP_eq]
theorem gansP_eq {h:Bool}{l:List Gan}:∀{r:List Gan}{j:Nat},l.drop j=r→(∀z∈l.take j,prmC 1 z.prm=0)→gansP h l r j=gansR h l r j
 |[],_,_,_=>rfl
 |q::r,j,hd,hz=>by
  rw[gansP,gansR]
  by_cases h1:prmC 1 q.prm=0
  ·rw[gansP_eq (drop_succ hd) (all_snoc (P:=fun z=>prmC 1 z.prm=0) hd hz h1)]
   have e:(0<j∧0≤cmpP (l.getD (j-1) default).prm q.prm)=(0<j∧befP (l.getD (j-1) default).prm q.prm=false):=by
    rw[eq_iff_iff]
    refine and_congr_right fun h0=>?_
    rw[cmp_bef (by omega) (by omega) (hz _ (mem_prev h0 (Nat.le_of_lt (drop_le hd)))) h1]
   have e2:(q.lev<0∨65535<q.lev)=¬lvl q.lev:=propext (by unfold lvl;omega)
   simp only[e,e2]
  ·rw[if_neg h1,if_neg h1]
theorem sb_eq {x:Sb}:sbP x=sbR x:=by unfold sbP sbR;rw[gansP_eq (l:=x.gains) (r:=x.gains) (j:=0) rfl (by simp)]
theorem subsP_eq {l:List Sb}:∀{r:List Sb}{j:Nat}{n:Int},l.drop j=r→n=(if j=0 then 0 else(l.getD (j-1) default).num)→subsP r n=subsR l r j
 |[],_,_,_,_=>rfl
 |q::r,j,n,hd,hn=>by
  rw[subsP,subsR,sb_eq,subsP_eq (n:=q.num) (drop_succ hd) (by
   rw[if_neg (by omega),Nat.add_sub_cancel,List.getD_eq_getElem?_getD]
   have:=congrArg (·[0]?) hd
   simp at this;rw[this];rfl)]
  by_cases h1:sbR q=0
  ·rw[if_pos h1,if_pos h1]
   have e:(q.num≤n)=(0<j∧q.num≤(l.getD (j-1) default).num):=by
    rw[hn]
    by_cases h0:j=0
    ·rw[if_pos h0]
     have:¬sbOk q:=by intro h;unfold sbR at h1;rw[if_pos h]at h1;omega
     simp only[eq_iff_iff];unfold sbOk at this;omega
    ·rw[if_neg h0];simp only[eq_iff_iff];omega
   simp only[e]
  ·rw[if_neg h1,if_neg h1]
theorem subsC_eq {l:List Sb}:subsCP l=subsCR l:=by unfold subsCP subsCR;rw[subsP_eq (l:=l) (r:=l) (j:=0) (n:=0) rfl rfl]
theorem movsP_eq {l:List Mov}:∀{r:List Mov}{j:Nat},l.drop j=r→(∀z∈l.take j,prmC 1 z.prm=0)→movsP l r j=movsR l r j
 |[],_,_,_=>rfl
 |q::r,j,hd,hz=>by
  rw[movsP,movsR]
  unfold movX
  by_cases h1:prmC 1 q.prm=0
  ·rw[movsP_eq (drop_succ hd) (all_snoc (P:=fun z=>prmC 1 z.prm=0) hd hz h1)]
   have e:(0<(j:Int)∧0≤cmpP (l.getD (j-1) default).prm q.prm)=(0<j∧befP (l.getD (j-1) default).prm q.prm=false):=by
    rw[eq_iff_iff,show(0<(j:Int))=(0<j) by simp]
    refine and_congr_right fun h0=>?_
    rw[cmp_bef (by omega) (by omega) (hz _ (mem_prev h0 (Nat.le_of_lt (drop_le hd)))) h1]
   simp only[h1,e]
   by_cases h2:valC q.val=0
   ·by_cases h3:q.part<1∨4<q.part
    ·simp[h2,h3]
    ·by_cases h4:0<j∧befP (l.getD (j-1) default).prm q.prm=false
     ·simp only[h2,if_neg h3,if_pos h4];rfl
     ·simp only[h2,if_neg h3,if_neg h4];rfl
   ·simp[h2]
  ·simp[h1]
theorem movC_eq {l:List Mov}:movCP l=movCR l:=by unfold movCP movCR;rw[movsP_eq (l:=l) (r:=l) (j:=0) rfl (by simp)]
theorem cue_eq {x:Cu}:cueP x=cueR x:=by
 unfold cueP cueR
 rw[movC_eq,mpL_eq]
 unfold parC timC
 by_cases a1:numC x.num=0<;>by_cases a2:labC x.label=0<;>by_cases a3:movCR x.moves=0<;>simp only[a1,a2,a3,not_true_eq_false,not_false_eq_true,if_true,if_false]
 by_cases a4:(x.parts.length:Int)=0
 ·simp only[if_pos a4];rfl
 ·by_cases a5:4<(x.parts.length:Int)
  ·simp only[if_neg a4,if_pos a5];rfl
  ·by_cases a6:timL x.parts=0
   ·by_cases a7:(x.moves.any fun q=>decide ((x.parts.length:Int)<q.part))=true
    ·simp only[a4,a5,a6,a7,if_true,if_false,not_true_eq_false];rfl
    ·simp only[a4,a5,a6,a7,if_true,if_false,not_true_eq_false];rfl
   ·simp only[if_neg a4,if_neg a5,if_neg a6,if_pos a6,not_false_eq_true,if_true]
end Go.Proofs.YtakiodkbjgdnoaaGreatDoor

namespace Go.Proofs.YtakiodkbjgdnoaaGreatDoor
open Go.Sha
set_option maxRecDepth 100000
variable {g:List (Nat×Obj)}{n:Nat}
theorem isD_val {b:UInt8}(h:isD b=true):IntKind.u8.wrap ((b.toNat:Int)-48)=((b.toNat-48:Nat):Int)∧b.toNat-48≤9:=by
 simp only[isD,Bool.and_eq_true,decide_eq_true_eq]at h
 refine⟨?_,by omega⟩
 unfold IntKind.wrap
 simp[IntKind.bits,IntKind.signed]
 omega
theorem step_nat {m k:Nat}(hm:m≤100000000000000)(hk:k≤9):IntKind.i64.wrap (IntKind.i64.wrap (10*(m:Int))+IntKind.i64.wrap (k:Int))=((10*m+k:Nat):Int):=by
 have w1:IntKind.i64.wrap (10*(m:Int))=10*(m:Int):=iwrap (by omega) (by omega)
 have w2:IntKind.i64.wrap (k:Int)=(k:Int):=iwrap (by omega) (by omega)
 rw[w1,w2]
 have w3:IntKind.i64.wrap (10*(m:Int)+k)=10*(m:Int)+k:=iwrap (by omega) (by omega)
 rw[w3];omega
theorem vwL_nat:∀{w:List UInt8}{m B:Nat},(∀b∈w,isD b=true)→w.length≤B→m<10 ^ (10-B)→B≤10→vwL w m=((w.foldl (fun n b=>10*n+(b.toNat-48)) m:Nat):Int)∧w.foldl (fun n b=>10*n+(b.toNat-48)) m<10 ^ (10-B+w.length)
 |[],m,B,_,_,h,_=>⟨rfl,by simpa using h⟩
 |b::r,m,B,hw,hl,h,hB=>by
  simp at hl
  obtain⟨e,hk⟩:=isD_val (hw b (List.mem_cons_self ..))
  have hp:10 ^ (10-B)≤10 ^ 10:=Nat.pow_le_pow_right (by omega) (by omega)
  have h2:10*m+(b.toNat-48)<10 ^ (10-(B-1)):=by
   rw[show 10-(B-1)=(10-B)+1 by omega,Nat.pow_succ];omega
  have ih:=vwL_nat (w:=r) (m:=10*m+(b.toNat-48)) (B:=B-1) (fun x hx=>hw x (List.mem_cons_of_mem _ hx)) (by omega) h2 (by omega)
  rw[vwL,e,step_nat (by omega) hk,List.foldl_cons]
  refine⟨ih.1,?_⟩
  have:=ih.2
  rwa [show 10-(B-1)+r.length=10-B+(b::r).length by simp;omega]at this
def pdB (r:List UInt8)(k:Nat):UInt8:=if k<r.length then r.getD k 0 else 48
theorem pad_3 {r:List UInt8}:(r++[48,48,48]).take 3=[pdB r 0,pdB r 1,pdB r 2]:=by
 match r with
 |[]=>rfl
 |[a]=>simp[pdB]
 |[a,b]=>simp[pdB]
 |a::b::c::r=>simp[pdB]
theorem nxV_nat {r:List UInt8}{k m:Nat}(hr:∀b∈r,isD b=true)(hm:m≤100000000000000):nxV r k m=((10*m+((pdB r k).toNat-48):Nat):Int):=by
 unfold nxV pdB
 by_cases h:k<r.length
 ·rw[if_pos (by omega),if_pos h]
  obtain⟨e,hk⟩:=isD_val (hr (r.getD k 0) (by rw[List.getD_eq_getElem?_getD,List.getElem?_eq_getElem h];exact List.getElem_mem h))
  rw[e,step_nat hm hk]
 ·rw[if_neg (by omega),if_neg h]
  have w1:IntKind.i64.wrap (10*(m:Int))=10*(m:Int):=iwrap (by omega) (by omega)
  rw[w1]
  have:(48:UInt8).toNat=48:=rfl
  omega
theorem pd_le {r:List UInt8}{k:Nat}(hr:∀b∈r,isD b=true):(pdB r k).toNat-48≤9:=by
 unfold pdB
 split
 ·rename_i h
  exact(isD_val (hr (r.getD k 0) (by rw[List.getD_eq_getElem?_getD,List.getElem?_eq_getElem h];exact List.getElem_mem h))).2
 ·decide
theorem numC_parts {s:List UInt8}(h:numC s=0):(∀b∈nW s,isD b=true)∧(∀b∈nR s,isD b=true)∧(nW s).length≤4∧(nR s).length≤3:=by
 unfold numC at h
 split at h
 ·cases h
 ·rename_i h1
  split at h
  ·cases h
  ·rename_i h2
   split at h
   ·cases h
   ·split at h
    ·cases h
    ·rename_i h3 h4
     refine⟨digB_all (by simpa using h1),?_,by omega,by omega⟩
     cases hc:s.contains 46 with
     |false=>rw[(n_none hc).2];simp
     |true=>rw[hc]at h2;simp at h2;exact digB_all h2.1
theorem val_eq {s:List UInt8}(h:numC s=0):valN s=refV s:=by
 obtain⟨a1,a2,a3,a4⟩:=numC_parts h
 obtain⟨e1,e2⟩:=vwL_nat (w:=nW s) (m:=0) (B:=10) a1 (by omega) (by simp) (Nat.le_refl _)
 have hp:10 ^ (10-10+(nW s).length)≤10 ^ 4:=Nat.pow_le_pow_right (by omega) (by omega)
 generalize hN:(nW s).foldl (fun n b=>10*n+(b.toNat-48)) 0=N at e1 e2
 have p0:=pd_le (k:=0) a2;have p1:=pd_le (k:=1) a2;have p2:=pd_le (k:=2) a2
 unfold valN refV
 rw[if_pos h,show(0:Int)=((0:Nat):Int) from rfl,e1,nxV_nat a2 (by omega),nxV_nat a2 (by omega),nxV_nat a2 (by omega),natOf,numS,pad_3,List.foldl_append,hN]
 rfl
theorem cueP_num {x:Cu}(h:cueR x=0):numC x.num=0:=by
 unfold cueR at h
 split at h
 ·rename_i a;exact absurd h a
 ·rename_i a;exact Classical.not_not.1 a
theorem cuesP_eq {l:List Cu}:∀{r:List Cu}{j:Nat},l.drop j=r→(∀z∈l.take j,cueR z=0)→cuesP l r j=cuesR l r j
 |[],_,_,_=>rfl
 |q::r,j,hd,hz=>by
  rw[cuesP,cuesR,cue_eq]
  by_cases h1:cueR q=0
  ·rw[cuesP_eq (drop_succ hd) (all_snoc (P:=fun z=>cueR z=0) hd hz h1)]
   have e:(0<j∧0≤cmpN (l.getD (j-1) default).num q.num)=(0<j∧0≤ordR (l.getD (j-1) default).num q.num):=by
    rw[eq_iff_iff]
    refine and_congr_right fun h0=>?_
    have a:=cueP_num (hz _ (mem_prev h0 (Nat.le_of_lt (drop_le hd))))
    have b:=cueP_num h1
    unfold cmpN ordR
    rw[if_neg (by rw[a,b];simp),val_eq a,val_eq b]
   simp only[e]
  ·rw[if_pos h1,if_pos h1]
theorem lst_eq {x:Lst}:lstP x=lstR x:=by unfold lstP lstR;rw[cuesP_eq (l:=x.cues) (r:=x.cues) (j:=0) rfl (by simp)]
def grpsC (l:List Grp):Int:=if 32<(l.length:Int) then 5 else grpsL l l 0
theorem f96 {l:List Grp}(hl:l.length<140737488355328)(hb:∀x∈l,x.chans.length<140737488355328){st:St}:run Tryz.prog HH 96 [.sl (l.map Grp.v)] st=some (.ret (.int .i64 (grpsC l)),st):=by
 rw[run_shut F96 rfl rfl (by simp)]
 have hL0:=fun n=>L96 (g:=st.x.gl) (n:=n) hl hb _ 0 rfl
 push_cast[grpsC]at hL0
 push_cast[grpsC,hL0,lpE,lpX,lpI,lpB]
 all_goals first|with_reducible rfl|exact dn_eq (by omega) (by with_reducible rfl)|((repeat' split)<;>(try simp_all)<;>(try (with_reducible refine dn_eq ?_ ?_<;>first|trivial|omega|rfl))<;>(try omega))
theorem L26 {l:List Grp}(hl:l.length<140737488355328)(hb:∀x∈l,x.chans.length<140737488355328):∀r j,l.drop j=r→runL Tryz.prog HH [0,3] n B26_0 [(0,.sl (l.map Grp.v)),(3,.int .i64 j)] (stN g n)=lpE (stN g n) [] 2 (grpsL l r j):=by
 refine drop_ind (fun j h=>?_) (fun q r j h hx hd ih=>?_)
 all_goals rw[runL_of B26_0.eq_1]
 ·have h1:¬(j:Int)<l.length:=by omega
  push_cast[h1,grpsL,Grp.v]
 ·have h1:(j:Int)<l.length:=by omega
  have hw:=iw1 (j:=j) (by omega)
  have hq:q.chans.length<140737488355328:=hb q (mem_at hd)
  push_cast[h1,hw,hx,Grp.v,f52 hq,iwrap_pred (j:=j) (by omega)]at ih ⊢
  simp only[ih,grpsL,lps,Int.reduceEq,not_false_eq_true]
  all_goals first|with_reducible rfl|exact dn_eq (by omega) (by with_reducible rfl)|((repeat' split)<;>(try simp_all)<;>(try (with_reducible refine dn_eq ?_ ?_<;>first|trivial|omega|rfl))<;>(try omega))
theorem f26 {l:List Grp}(hl:l.length<140737488355328)(hb:∀x∈l,x.chans.length<140737488355328){st:St}:run Tryz.prog HH 26 [.sl (l.map Grp.v)] st=some (.ret (.int .i64 (grpsC l)),st):=by
 rw[run_shut F26 rfl rfl (by simp)]
 have hL0:=fun n=>L26 (g:=st.x.gl) (n:=n) hl hb _ 0 rfl
 push_cast[grpsC]at hL0
 push_cast[grpsC,hL0,lpE,lpX,lpI,lpB]
 all_goals first|with_reducible rfl|exact dn_eq (by omega) (by with_reducible rfl)|((repeat' split)<;>(try simp_all)<;>(try (with_reducible refine dn_eq ?_ ?_<;>first|trivial|omega|rfl))<;>(try omega))
def lstsL (l:List Lst):List Lst→Nat→Int
 |[],_=>0
 |q::r,j=>if ¬lstR q=0 then lstR q else if 0<j∧q.num≤(l.getD (j-1) default).num then 9 else lstsL l r (j+1)
def Lok (l:List Lst):Prop:=l.length<140737488355328∧∀q∈l,q.ok
theorem f136' {x:Lst}(h:x.ok){st:St}:run Tryz.prog HH 136 [x.v] st=some (.ret (.int .i64 (lstR x)),st):=by rw[f136 h,lst_eq]
theorem L99 {x:Sho}(hl:Lok x.lsts):∀r j,x.lsts.drop j=r→runL Tryz.prog HH [1,11,12,13] n B99_0 [(1,.ep x.v 0),(11,.sl (x.lsts.map Lst.v)),(12,.int .i64 x.lsts.length),(13,.int .i64 j)] (stN g n)=lpE (stN g n) [] 2 (lstsL x.lsts r j):=by
 have hb:=hl.1
 refine drop_ind (fun j h=>?_) (fun q r j h hx hd ih=>?_)
 all_goals rw[runL_of B99_0.eq_1]
 ·have h1:¬(j:Int)<x.lsts.length:=by omega
  push_cast[h1,lstsL,Sho.v,Lst.v]
 ·have h1:(j:Int)<x.lsts.length:=by omega
  have hw:=iw1 (j:=j) (by omega)
  have hq:q.ok:=hl.2 q (mem_at hd)
  push_cast[h1,hw,hx,Sho.v,Lst.v,f136' hq,iwrap_pred (j:=j) (by omega)]at ih ⊢
  simp only[ih,lstsL,lps,Int.reduceEq,not_false_eq_true]
  all_goals first|with_reducible rfl|exact dn_eq (by omega) (by with_reducible rfl)|((repeat' split)<;>(try simp_all)<;>(try (with_reducible refine dn_eq ?_ ?_<;>first|trivial|omega|rfl))<;>(try omega))
def lstsC (l:List Lst):Int:=if 8<(l.length:Int) then 5 else lstsL l l 0
theorem f99 {x:Sho}(hl:Lok x.lsts){st:St}:run Tryz.prog HH 99 [x.v] st=some (.ret (.int .i64 (lstsC x.lsts)),st):=by
 rw[run_shut F99 rfl rfl (by simp)]
 have hL0:=fun n=>L99 (g:=st.x.gl) (n:=n) hl _ 0 rfl
 push_cast[Sho.v,lstsC]at hL0
 push_cast[Sho.v,lstsC,hL0,lpE,lpX,lpI,lpB]
 all_goals first|with_reducible rfl|exact dn_eq (by omega) (by with_reducible rfl)|((repeat' split)<;>(try simp_all)<;>(try (with_reducible refine dn_eq ?_ ?_<;>first|trivial|omega|rfl))<;>(try omega))
theorem L28 {l:List Lst}(hl:Lok l):∀r j,l.drop j=r→runL Tryz.prog HH [0,3] n B28_0 [(0,.sl (l.map Lst.v)),(3,.int .i64 j)] (stN g n)=lpE (stN g n) [] 2 (lstsL l r j):=by
 have hb:=hl.1
 refine drop_ind (fun j h=>?_) (fun q r j h hx hd ih=>?_)
 all_goals rw[runL_of B28_0.eq_1]
 ·have h1:¬(j:Int)<l.length:=by omega
  push_cast[h1,lstsL,Lst.v]
 ·have h1:(j:Int)<l.length:=by omega
  have hw:=iw1 (j:=j) (by omega)
  have hq:q.ok:=hl.2 q (mem_at hd)
  push_cast[h1,hw,hx,Lst.v,f47 hq,iwrap_pred (j:=j) (by omega)]at ih ⊢
  simp only[ih,lstsL,lps,Int.reduceEq,not_false_eq_true]
  all_goals first|with_reducible rfl|exact dn_eq (by omega) (by with_reducible rfl)|((repeat' split)<;>(try simp_all)<;>(try (with_reducible refine dn_eq ?_ ?_<;>first|trivial|omega|rfl))<;>(try omega))
theorem f28 {l:List Lst}(hl:Lok l){st:St}:run Tryz.prog HH 28 [.sl (l.map Lst.v)] st=some (.ret (.int .i64 (lstsC l)),st):=by
 rw[run_shut F28 rfl rfl (by simp)]
 have hL0:=fun n=>L28 (g:=st.x.gl) (n:=n) hl _ 0 rfl
 push_cast[lstsC]at hL0
 push_cast[lstsC,hL0,lpE,lpX,lpI,lpB]
 all_goals first|with_reducible rfl|exact dn_eq (by omega) (by with_reducible rfl)|((repeat' split)<;>(try simp_all)<;>(try (with_reducible refine dn_eq ?_ ?_<;>first|trivial|omega|rfl))<;>(try omega))
end Go.Proofs.YtakiodkbjgdnoaaGreatDoor

namespace Go.Proofs.YtakiodkbjgdnoaaGreatDoor
open Go.Sha
set_option maxRecDepth 100000
variable {g:List (Nat×Obj)}{n:Nat}
def stP (g:List (Nat×Obj))(xs:List V):St:=⟨2,[],[(1,⟨5,1,xs,true,true⟩)],⟨[],g,[]⟩⟩
@[push_cast]theorem stP_eq {xs:List V}:stP g xs=⟨2,[],[(1,⟨5,1,xs,true,true⟩)],⟨[],g,[]⟩⟩:=idq rfl
theorem L92 {s:List UInt8}(hl:s.length<140737488355328):∀r j,s.drop j=r→runL Tryz.prog HH [11,12,13] 2 B92_0 [(11,.osl 1 s.length),(12,.int .i64 s.length),(13,.int .i64 j)] (stP g (s.map bV))=lpE (stP g (s.map bV)) [] 2 (labL r):=by
 refine drop_ind (fun j h=>?_) (fun q r j h hx hd ih=>?_)
 all_goals rw[runL_of B92_0.eq_1]
 ·have h1:¬(j:Int)<s.length:=by omega
  push_cast[h1,labL]
 ·have h1:(j:Int)<s.length:=by omega
  have hw:=iw1 (j:=j) (by omega)
  have hk:∀d,(s.map bV).getD j d=bV q:=getD_drop hd
  push_cast[h1,hw,hx,bV,hk]at ih ⊢
  simp only[ih,labL,lps,Int.reduceEq,not_false_eq_true]
  all_goals first|with_reducible rfl|exact dn_eq (by omega) (by with_reducible rfl)|((repeat' split)<;>(try simp_all)<;>(try (with_reducible refine dn_eq ?_ ?_<;>first|trivial|omega|rfl))<;>(try omega))
theorem f92 {x:Sho}(hl:x.title.length<140737488355328){st:St}:run Tryz.prog HH 92 [x.v] st=some (.ret (.int .i64 (labC x.title)),st):=by
 rw[run_shut F92 rfl rfl (by simp)]
 have hL0:=L92 (g:=st.x.gl) hl _ 0 rfl
 push_cast at hL0
 push_cast[Sho.v,hL0,lpE,labC]
 exact dn_eq (by simp[maxLen];omega) rfl
theorem L48 {s:List UInt8}(hl:s.length<140737488355328):∀r j,s.drop j=r→runL Tryz.prog HH [0,3] n B48_0 [(0,.str s),(3,.int .i64 j)] (stN g n)=lpE (stN g n) [] 2 (labL r):=by
 refine drop_ind (fun j h=>?_) (fun q r j h hx hd ih=>?_)
 all_goals rw[runL_of B48_0.eq_1]
 ·have h1:¬(j:Int)<s.length:=by omega
  push_cast[h1,labL]
 ·have h1:(j:Int)<s.length:=by omega
  have hw:=iw1 (j:=j) (by omega)
  push_cast[h1,hw,hx]at ih ⊢
  simp only[ih,labL,lps,Int.reduceEq,not_false_eq_true]
  all_goals first|with_reducible rfl|exact dn_eq (by omega) (by with_reducible rfl)|((repeat' split)<;>(try simp_all)<;>(try (with_reducible refine dn_eq ?_ ?_<;>first|trivial|omega|rfl))<;>(try omega))
theorem f48 {s:List UInt8}(hl:s.length<140737488355328){st:St}:run Tryz.prog HH 48 [.str s] st=some (.ret (.int .i64 (labC s)),st):=by
 rw[run_shut F48 rfl rfl (by simp)]
 have hL0:=fun n=>L48 (g:=st.x.gl) (n:=n) hl _ 0 rfl
 push_cast[labC]at hL0
 push_cast[labC,hL0,lpE,lpX,lpI,lpB]
 all_goals first|with_reducible rfl|exact dn_eq (by omega) (by with_reducible rfl)|((repeat' split)<;>(try simp_all)<;>(try (with_reducible refine dn_eq ?_ ?_<;>first|trivial|omega|rfl))<;>(try omega))
structure Sho.ok (x:Sho):Prop where
 t:x.title.length<140737488355328
 c:Cok x.curves
 p:Pok x.profs
 f:Xok x.fixts
 g:x.grps.length<140737488355328∧∀q∈x.grps,q.chans.length<140737488355328
 l:x.pals.length<140737488355328∧∀q∈x.pals,q.hues.length<140737488355328
 k:Lok x.lsts
 s:x.subs.length<140737488355328∧∀q∈x.subs,q.gains.length<140737488355328
 e:x.effs.length<140737488355328∧∀q∈x.effs,q.wave.length<140737488355328
theorem f95 {x:Sho}(h:x.ok){st:St}:run Tryz.prog HH 95 [x.v] st=some (.ret (.int .i64 (grpsC x.grps)),st):=by
 rw[run_shut F95 rfl rfl (by simp)]
 push_cast[Sho.v,f96 h.g.1 h.g.2]
 all_goals first|with_reducible rfl|exact dn_eq (by omega) (by with_reducible rfl)|((repeat' split)<;>(try simp_all)<;>(try (with_reducible refine dn_eq ?_ ?_<;>first|trivial|omega|rfl))<;>(try omega))
theorem f97 {x:Sho}(h:x.ok){st:St}:run Tryz.prog HH 97 [x.v] st=some (.ret (.int .i64 (palsCR x.pals)),st):=by
 rw[run_shut F97 rfl rfl (by simp)]
 push_cast[Sho.v,f98 h.l.1 h.l.2,palsC_eq]
 all_goals first|with_reducible rfl|exact dn_eq (by omega) (by with_reducible rfl)|((repeat' split)<;>(try simp_all)<;>(try (with_reducible refine dn_eq ?_ ?_<;>first|trivial|omega|rfl))<;>(try omega))
theorem f100 {x:Sho}(h:x.ok){st:St}:run Tryz.prog HH 100 [x.v] st=some (.ret (.int .i64 (subsCR x.subs)),st):=by
 rw[run_shut F100 rfl rfl (by simp)]
 push_cast[Sho.v,f101 h.s.1 h.s.2,subsC_eq]
 all_goals first|with_reducible rfl|exact dn_eq (by omega) (by with_reducible rfl)|((repeat' split)<;>(try simp_all)<;>(try (with_reducible refine dn_eq ?_ ?_<;>first|trivial|omega|rfl))<;>(try omega))
theorem f102 {x:Sho}(h:x.ok){st:St}:run Tryz.prog HH 102 [x.v] st=some (.ret (.int .i64 (effsC x.effs)),st):=by
 rw[run_shut F102 rfl rfl (by simp)]
 push_cast[Sho.v,f103 h.e.1 h.e.2]
 all_goals first|with_reducible rfl|exact dn_eq (by omega) (by with_reducible rfl)|((repeat' split)<;>(try simp_all)<;>(try (with_reducible refine dn_eq ?_ ?_<;>first|trivial|omega|rfl))<;>(try omega))
def shoC (x:Sho):Int:=if ¬labC x.title=0 then labC x.title else if ¬uniC x.curves x.profs x.fixts=0 then uniC x.curves x.profs x.fixts else if ¬grpsC x.grps=0 then grpsC x.grps else if ¬palsCR x.pals=0 then palsCR x.pals
 else if ¬lstsC x.lsts=0 then lstsC x.lsts else if ¬subsCR x.subs=0 then subsCR x.subs else effsC x.effs
theorem f31 {x:Sho}(h:x.ok){st:St}:run Tryz.prog HH 31 [x.v] st=some (.ret (.int .i64 (shoC x)),st):=by
 have h1:=fun(st:St)=>f92 (st:=st) h.t
 have h2:=fun(st:St)=>f93 (st:=st) h.c h.p h.f
 have h3:=fun(st:St)=>f95 (st:=st) h
 have h4:=fun(st:St)=>f97 (st:=st) h
 have h5:=fun(st:St)=>f99 (st:=st) h.k
 have h6:=fun(st:St)=>f100 (st:=st) h
 have h7:=fun(st:St)=>f102 (st:=st) h
 push_cast[Sho.v]at h1 h2 h3 h4 h5 h6 h7
 rw[run_shut F31 rfl rfl (by simp)]
 push_cast[Sho.v,h1,h2,h3,h4,h5,h6,h7,(fun(st:St)=>run_shut (P:=Tryz.prog) (H:=HH) (args:=[]) (st:=st) F56 rfl rfl rfl),runL_of B31_0.eq_1,shoC,ite0']
theorem f25 {x:Sho}(h:x.ok){st:St}:run Tryz.prog HH 25 [x.v] st=some (.ret (.int .i64 (if ¬labC x.title=0 then labC x.title else uniC x.curves x.profs x.fixts)),st):=by
 have hr:∀q∈x.profs,q.okR:=h.p.2.2
 rw[run_shut F25 rfl rfl (by simp)]
 push_cast[Sho.v,f48 h.t,f49 h.c.1 h.c.2,f50 h.p.1 hr h.c,f51 h.f.1 h.f.2 h.p.1,uniC]
 all_goals first|with_reducible rfl|exact dn_eq (by omega) (by with_reducible rfl)|((repeat' split)<;>(try simp_all)<;>(try (with_reducible refine dn_eq ?_ ?_<;>first|trivial|omega|rfl))<;>(try omega))
theorem f6 {x:Sho}(h:x.ok){st:St}:run Tryz.prog HH 6 [x.v] st=some (.ret (.int .i64 (shoC x)),st):=by
 have h1:=fun(st:St)=>f25 (st:=st) h
 push_cast[Sho.v]at h1
 rw[run_shut F6 rfl rfl (by simp)]
 push_cast[Sho.v,h1,f26 h.g.1 h.g.2,f27 h.l.1 h.l.2,f28 h.k,f29 h.s.1 h.s.2,f30 h.e.1 h.e.2]
 unfold shoC
 by_cases a1:labC x.title=0<;>by_cases a2:uniC x.curves x.profs x.fixts=0<;>simp[a1,a2]
end Go.Proofs.YtakiodkbjgdnoaaGreatDoor

namespace Go.Proofs.YtakiodkbjgdnoaaGreatDoor
open Go.Sha
set_option maxRecDepth 10000
def B5_0:Cd:=(.join [1,3] (.g [.m 53 3,.a 54 2 1,.l 55 54,.u 56 55,.b 57 .lss 53 56] (.i 57 .skip (.exit [1] 0))) (.join [1,3] (.block 1 (.g [.a 60 2 1,.l 61 60,.m 62 3,.r 63 4 61 62,.d 64 4 63,.f 65 23 64,.z 66 65] (.i 66 (.g [.k 2 false] (.ret [2])) .skip))) (.reg [.m 58 3,.v 59 .add 58 1,.m 3 59])))
def B5_1:Cd:=(.join [1,4] (.join [1,4,75] (.reg [.m 67 4,.a 68 6 1,.l 69 68,.u 70 69,.b 71 .lss 67 70,.m 72 71,.my 73 4 72,.vy 74 .lss 73 10 72,.e 75 72 74]) (.i 75 .skip (.exit [1] 2))) (.join [1,4] (.block 3 (.g [.a 78 6 1,.l 79 78,.m 80 4,.r 81 3 79 80,.d 82 3 81,.f 83 24 82,.z 84 83] (.i 84 (.g [.k 2 false] (.ret [2])) .skip))) (.reg [.m 76 4,.v 77 .add 76 1,.m 4 77])))
theorem F5:compF Tryz.prog 5=some ⟨101,[.tmp 2],(.g [.q 1 31 0,.k 2 false] (.z [1] (.join [1] (.join [1,52] (.reg [.a 5 0 1,.l 6 5,.s 7 (.lens (.t 6)),.v 8 .gtr 7 100,.m 9 8,.ax 10 1 1 9,.lx 11 10 9,.x 12 (.f 17 [.t 11]) 9,.x 13 (.un .not (.t 12)) 9,.o 14 9 13,.m 15 14,.ax 16 2 1 15,.lx 17 16 15,.x 18 (.len (.t 17)) 15,.vx 19 .gtr 18 40 15,.o 20 15 19,.m 21 20,.ax 22 3 1 21,.lx 23 22 21,.ax 24 2 1 21,.lx 25 24 21,.x 26 (.f 18 [.t 23,.t 25]) 21,.x 27 (.un .not (.t 26)) 21,.o 28 21 27,.m 29 28,.ax 30 4 1 29,.lx 31 30 29,.x 32 (.f 19 [.t 31]) 29,.x 33 (.un .not (.t 32)) 29,.o 34 29 33,.m 35 34,.ax 36 5 1 35,.lx 37 36 35,.x 38 (.f 20 [.t 37]) 35,.x 39 (.un .not (.t 38)) 35,.o 40 35 39,.m 41 40,.ax 42 7 1 41,.lx 43 42 41,.x 44 (.f 21 [.t 43]) 41,.x 45 (.un .not (.t 44)) 41,.o 46 41 45,.m 47 46,.ax 48 8 1 47,.lx 49 48 47,.x 50 (.f 22 [.t 49,(.c .nils)]) 47,.x 51 (.un .not (.t 50)) 47,.o 52 47 51]) (.i 52 (.g [.k 2 false] (.ret [2])) .skip)) (.join [1] (.g [.c 3 0] (.block 0 (.loop [1,3] [] B5_0))) (.join [1] (.g [.c 4 0] (.block 2 (.loop [1,4] [] B5_1))) (.join [2] (.reg [.a 85 6 1,.l 86 85,.u 87 86,.v 88 .leq 87 3,.m 89 88,.ax 90 6 1 89,.lx 91 90 89,.x 92 (.len (.t 91)) 89,.vx 93 .gtr 92 8 89,.mx 94 93 89,.ay 95 6 1 94,.ly 96 95 94,.y 97 (.len (.t 96)) 94,.vy 98 .leq 97 20 94,.x 99 (.pick (.t 94) (.t 98) (.c (.bool false))) 89,.o 100 89 99,.m 2 100]) (.ret [2])))))))⟩:=by kernel_rfl
def B18_0:Cd:=(.join [1,5] (.join [1,5,31] (.reg [.m 24 5,.m 25 1,.u 26 25,.b 27 .lss 24 26,.m 28 27,.my 29 5 28,.vy 30 .lss 29 6 28,.e 31 28 30]) (.i 31 .skip (.exit [] 0))) (.join [1,5] (.block 1 (.g [.m 34 1,.m 35 5,.r 36 4 34 35,.a 37 3 36,.l 38 37,.u 39 38,.v 40 .gtr 39 16] (.i 40 (.g [.k 4 false] (.ret [4])) .skip))) (.reg [.m 32 5,.v 33 .add 32 1,.m 5 33])))
theorem F18:compF Tryz.prog 18=some ⟨41,[.tmp 4],(.g [.k 4 false] (.join [1] (.join [1,23] (.reg [.m 6 0,.u 7 6,.v 8 .gtr 7 12,.m 9 8,.my 10 0 9,.y 11 (.len (.t 10)) 9,.vy 12 .leq 11 64 9,.e 13 9 12,.m 14 13,.mx 15 1 14,.x 16 (.len (.t 15)) 14,.vx 17 .gtr 16 6 14,.mx 18 17 14,.my 19 1 18,.y 20 (.len (.t 19)) 18,.vy 21 .leq 20 32 18,.x 22 (.pick (.t 18) (.t 21) (.c (.bool false))) 14,.o 23 14 22]) (.i 23 (.g [.k 4 false] (.ret [4])) .skip)) (.join [] (.g [.c 5 0] (.block 0 (.loop [1,5] [] B18_0))) (.g [.k 4 true] (.ret [4])))))⟩:=by kernel_rfl
def B19_0:Cd:=(.join [0,3] (.join [0,3,11] (.reg [.m 4 3,.m 5 0,.u 6 5,.b 7 .lss 4 6,.m 8 7,.my 9 3 8,.vy 10 .lss 9 60 8,.e 11 8 10]) (.i 11 .skip (.exit [0] 0))) (.join [0,3] (.block 1 (.join [0,3,29] (.reg [.m 14 0,.m 15 3,.r 16 2 14 15,.a 17 1 16,.l 18 17,.u 19 18,.v 20 .gtr 19 40,.m 21 20,.my 22 0 21,.my 23 3 21,.ry 24 2 22 23 21,.ay 25 1 24 21,.ly 26 25 21,.y 27 (.len (.t 26)) 21,.vy 28 .leq 27 256 21,.e 29 21 28]) (.i 29 (.g [.k 2 false] (.ret [2])) .skip))) (.reg [.m 12 3,.v 13 .add 12 1,.m 3 13])))
theorem F19:compF Tryz.prog 19=some ⟨33,[.tmp 2],(.g [.k 2 false] (.join [0] (.g [.c 3 0] (.block 0 (.loop [0,3] [] B19_0))) (.g [.m 30 0,.u 31 30,.v 32 .leq 31 60,.m 2 32] (.ret [2]))))⟩:=by kernel_rfl
def B20_0:Cd:=(.join [0,3] (.g [.m 7 3,.m 8 0,.u 9 8,.b 10 .lss 7 9] (.i 10 .skip (.exit [] 0))) (.join [0,3] (.block 1 (.g [.m 13 0,.m 14 3,.r 15 2 13 14,.a 16 1 15,.l 17 16,.u 18 17,.v 19 .gtr 18 512] (.i 19 (.g [.k 2 false] (.ret [2])) .skip))) (.reg [.m 11 3,.v 12 .add 11 1,.m 3 12])))
theorem F20:compF Tryz.prog 20=some ⟨20,[.tmp 2],(.g [.k 2 false] (.join [0] (.g [.m 4 0,.u 5 4,.v 6 .gtr 5 64] (.i 6 (.g [.k 2 false] (.ret [2])) .skip)) (.join [] (.g [.c 3 0] (.block 0 (.loop [0,3] [] B20_0))) (.g [.k 2 true] (.ret [2])))))⟩:=by kernel_rfl
def B21_0:Cd:=(.join [0,3] (.join [0,3,11] (.reg [.m 4 3,.m 5 0,.u 6 5,.b 7 .lss 4 6,.m 8 7,.my 9 3 8,.vy 10 .lss 9 40 8,.e 11 8 10]) (.i 11 .skip (.exit [0] 0))) (.join [0,3] (.block 1 (.join [0,3,29] (.reg [.m 14 0,.m 15 3,.r 16 4 14 15,.a 17 3 16,.l 18 17,.u 19 18,.v 20 .gtr 19 30,.m 21 20,.my 22 0 21,.my 23 3 21,.ry 24 4 22 23 21,.ay 25 3 24 21,.ly 26 25 21,.y 27 (.len (.t 26)) 21,.vy 28 .leq 27 128 21,.e 29 21 28]) (.i 29 (.g [.k 2 false] (.ret [2])) .skip))) (.reg [.m 12 3,.v 13 .add 12 1,.m 3 13])))
theorem F21:compF Tryz.prog 21=some ⟨33,[.tmp 2],(.g [.k 2 false] (.join [0] (.g [.c 3 0] (.block 0 (.loop [0,3] [] B21_0))) (.g [.m 30 0,.u 31 30,.v 32 .leq 31 40,.m 2 32] (.ret [2]))))⟩:=by kernel_rfl
def B22_0:Cd:=(.join [1,5] (.join [1,5,31] (.reg [.m 24 5,.m 25 1,.u 26 25,.b 27 .lss 24 26,.m 28 27,.my 29 5 28,.vy 30 .lss 29 4 28,.e 31 28 30]) (.i 31 .skip (.exit [] 0))) (.join [1,5] (.block 1 (.join [1,5,49] (.reg [.m 34 1,.m 35 5,.r 36 6 34 35,.a 37 1 36,.l 38 37,.u 39 38,.v 40 .gtr 39 8,.m 41 40,.my 42 1 41,.my 43 5 41,.ry 44 6 42 43 41,.ay 45 1 44 41,.ly 46 45 41,.y 47 (.len (.t 46)) 41,.vy 48 .leq 47 256 41,.e 49 41 48]) (.i 49 (.g [.k 4 false] (.ret [4])) .skip))) (.reg [.m 32 5,.v 33 .add 32 1,.m 5 33])))
theorem F22:compF Tryz.prog 22=some ⟨50,[.tmp 4],(.g [.k 4 false] (.join [1] (.join [1,23] (.reg [.m 6 0,.u 7 6,.v 8 .gtr 7 4,.m 9 8,.my 10 0 9,.y 11 (.len (.t 10)) 9,.vy 12 .leq 11 16 9,.e 13 9 12,.m 14 13,.mx 15 1 14,.x 16 (.len (.t 15)) 14,.vx 17 .gtr 16 4 14,.mx 18 17 14,.my 19 1 18,.y 20 (.len (.t 19)) 18,.vy 21 .leq 20 16 18,.x 22 (.pick (.t 18) (.t 21) (.c (.bool false))) 14,.o 23 14 22]) (.i 23 (.g [.k 4 false] (.ret [4])) .skip)) (.join [] (.g [.c 5 0] (.block 0 (.loop [1,5] [] B22_0))) (.g [.k 4 true] (.ret [4])))))⟩:=by kernel_rfl
def B23_0:Cd:=(.join [1,3] (.join [1,3,12] (.reg [.m 4 3,.a 5 3 1,.l 6 5,.u 7 6,.b 8 .lss 4 7,.m 9 8,.my 10 3 9,.vy 11 .lss 10 40 9,.e 12 9 11]) (.i 12 .skip (.exit [1] 0))) (.join [1,3] (.block 1 (.g [.a 15 3 1,.l 16 15,.m 17 3,.r 18 10 16 17,.a 19 9 18,.l 20 19,.u 21 20,.v 22 .gtr 21 40] (.i 22 (.g [.k 2 false] (.ret [2])) .skip))) (.reg [.m 13 3,.v 14 .add 13 1,.m 3 14])))
theorem F23:compF Tryz.prog 23=some ⟨33,[.tmp 2],(.g [.q 1 75 0,.k 2 false] (.z [1] (.join [1] (.g [.c 3 0] (.block 0 (.loop [1,3] [] B23_0))) (.join [2] (.reg [.a 23 3 1,.l 24 23,.u 25 24,.v 26 .leq 25 40,.m 27 26,.ay 28 0 1 27,.ly 29 28 27,.y 30 (.lens (.t 29)) 27,.vy 31 .leq 30 100 27,.e 32 27 31,.m 2 32]) (.ret [2])))))⟩:=by kernel_rfl
def B24_0:Cd:=(.join [1,3,4] (.g [.m 15 4,.a 16 2 1,.l 17 16,.u 18 17,.b 19 .lss 15 18] (.i 19 .skip (.exit [] 0))) (.join [1,3,4] (.block 1 (.g [.m 22 3,.a 23 2 1,.l 24 23,.m 25 4,.r 26 9 24 25,.a 27 2 26,.l 28 27,.u 29 28,.b 30 .add 22 29,.m 3 30] (.join [1,3,4,42] (.reg [.a 31 2 1,.l 32 31,.m 33 4,.r 34 9 32 33,.a 35 2 34,.l 36 35,.u 37 36,.v 38 .gtr 37 20,.m 39 38,.mx 40 3 39,.vx 41 .gtr 40 30 39,.o 42 39 41]) (.i 42 (.g [.d 43 3 1,.f 44 47 43,.v 45 .neq 44 0,.m 2 45] (.ret [2])) .skip)))) (.reg [.m 20 4,.v 21 .add 20 1,.m 4 21])))
theorem F24:compF Tryz.prog 24=some ⟨46,[.tmp 2],(.g [.q 1 79 0,.k 2 false] (.z [1] (.join [1] (.g [.d 5 3 1,.f 6 46 5,.z 7 6] (.i 7 (.g [.k 2 false] (.ret [2])) .skip)) (.join [1] (.g [.a 8 2 1,.l 9 8,.u 10 9,.v 11 .gtr 10 10] (.i 11 (.g [.d 12 3 1,.f 13 47 12,.v 14 .neq 13 0,.m 2 14] (.ret [2])) .skip)) (.g [.c 3 0] (.join [] (.g [.c 4 0] (.block 0 (.loop [1,3,4] [] B24_0))) (.g [.k 2 true] (.ret [2]))))))))⟩:=by kernel_rfl
def B46_0:Cd:=(.join [1,3] (.g [.m 8 3,.a 9 2 1,.l 10 9,.u 11 10,.b 12 .lss 8 11] (.i 12 .skip (.exit [] 0))) (.join [1,3] (.block 1 (.g [.a 15 2 1,.l 16 15,.m 17 3,.r 18 9 16 17,.d 19 9 18,.f 20 80 19,.z 21 20] (.i 21 (.g [.k 2 false] (.ret [2])) .skip))) (.reg [.m 13 3,.v 14 .add 13 1,.m 3 14])))
theorem F46:compF Tryz.prog 46=some ⟨22,[.tmp 2],(.g [.q 1 79 0,.k 2 false] (.z [1] (.join [1] (.g [.a 4 2 1,.l 5 4,.u 6 5,.v 7 .gtr 6 128] (.i 7 (.g [.k 2 false] (.ret [2])) .skip)) (.join [] (.g [.c 3 0] (.block 0 (.loop [1,3] [] B46_0))) (.g [.k 2 true] (.ret [2]))))))⟩:=by kernel_rfl
theorem F80:compF Tryz.prog 80=some ⟨30,[.tmp 2],(.g [.q 1 129 0,.k 2 false] (.z [1] (.join [2] (.reg [.a 3 0 1,.l 4 3,.s 5 (.lens (.t 4)),.v 6 .leq 5 40,.m 7 6,.ay 8 1 1 7,.ly 9 8 7,.y 10 (.lens (.t 9)) 7,.vy 11 .leq 10 100 7,.e 12 7 11,.m 13 12,.ay 14 7 1 13,.ly 15 14 13,.y 16 (.lens (.t 15)) 13,.vy 17 .leq 16 40 13,.e 18 13 17,.m 19 18,.ay 20 3 1 19,.ly 21 20 19,.y 22 (.len (.t 21)) 19,.vy 23 .leq 22 10 19,.e 24 19 23,.m 25 24,.ay 26 2 1 25,.ly 27 26 25,.y 28 (.f 120 [.t 27]) 25,.e 29 25 28,.m 2 29]) (.ret [2]))))⟩:=by kernel_rfl
theorem F120:compF Tryz.prog 120=some ⟨6,[.tmp 2],(.g [.k 2 false] (.g [.m 3 0,.u 4 3,.v 5 .leq 4 300,.m 2 5] (.ret [2])))⟩:=by kernel_rfl
end Go.Proofs.YtakiodkbjgdnoaaGreatDoor

namespace Go.Proofs.YtakiodkbjgdnoaaGreatDoor
open Go.Sha
set_option maxRecDepth 100000
variable {g:List (Nat×Obj)}{n:Nat}
def anyN {α:Type}(m:Int)(p:α→Prop)[DecidablePred p]:List α→Nat→Bool
 |[],_=>false
 |q::r,j=>if(j:Int)<m then if p q then true else anyN m p r (j+1) else false
theorem L17 {l:List (List Pt)}(hl:l.length<140737488355328):∀r j,l.drop j=r→runL Tryz.prog HH [0,3] n B17_0 [(0,.sl (l.map Pt.vs)),(3,.int .i64 j)] (stN g n)=lpB (stN g n) [(0,.sl (l.map Pt.vs))] 2 (anyN 40 (fun q:List Pt=>40<(q.length:Int)) r j) false:=by
 refine drop_ind (fun j h=>?_) (fun q r j h hx hd ih=>?_)
 all_goals rw[runL_of B17_0.eq_1]
 ·have h1:¬(j:Int)<l.length:=by omega
  push_cast[h1,anyN]
 ·have h1:(j:Int)<l.length:=by omega
  have hw:=iw1 (j:=j) (by omega)
  push_cast[h1,hw,hx,f45]at ih ⊢
  simp only[ih,anyN,lps,Int.reduceEq,not_false_eq_true]
  all_goals first|with_reducible rfl|exact dn_eq (by omega) (by with_reducible rfl)|((repeat' split)<;>(try simp_all)<;>(try (with_reducible refine dn_eq ?_ ?_<;>first|trivial|omega|rfl))<;>(try omega))
theorem f17 {l:List (List Pt)}(hl:l.length<140737488355328):∃b,∀st,run Tryz.prog HH 17 [.sl (l.map Pt.vs)] st=some (.ret (.bool b),st):=by
 refine⟨if anyN 40 (fun q:List Pt=>40<(q.length:Int)) l 0=true then false else decide ((l.length:Int)≤40),fun st=>?_⟩
 rw[run_shut F17 rfl rfl (by simp)]
 have hL0:=fun n=>L17 (g:=st.x.gl) (n:=n) hl _ 0 rfl
 push_cast at hL0
 push_cast[hL0,lpE,lpX,lpI,lpB]
 all_goals first|with_reducible rfl|exact dn_eq (by omega) (by with_reducible rfl)|((repeat' split)<;>(try simp_all)<;>(try (with_reducible refine dn_eq ?_ ?_<;>first|trivial|omega|rfl))<;>(try omega))
theorem L18 {l:List Prof}(hl:l.length<140737488355328):∀r j,l.drop j=r→runL Tryz.prog HH [1,5] n B18_0 [(1,.sl (l.map Prof.v)),(5,.int .i64 j)] (stN g n)=lpB (stN g n) [] 4 (anyN 6 (fun q:Prof=>16<(q.feats.length:Int)) r j) false:=by
 refine drop_ind (fun j h=>?_) (fun q r j h hx hd ih=>?_)
 all_goals rw[runL_of B18_0.eq_1]
 ·have h1:¬(j:Int)<l.length:=by omega
  push_cast[h1,anyN,Prof.v]
 ·have h1:(j:Int)<l.length:=by omega
  have hw:=iw1 (j:=j) (by omega)
  push_cast[h1,hw,hx,Prof.v]at ih ⊢
  simp only[ih,anyN,lps,Int.reduceEq,not_false_eq_true]
  all_goals first|with_reducible rfl|exact dn_eq (by omega) (by with_reducible rfl)|((repeat' split)<;>(try simp_all)<;>(try (with_reducible refine dn_eq ?_ ?_<;>first|trivial|omega|rfl))<;>(try omega))
theorem f18 {l:List Fixt}{ps:List Prof}(hl:ps.length<140737488355328):∃b,∀st,run Tryz.prog HH 18 [.sl (l.map Fixt.v),.sl (ps.map Prof.v)] st=some (.ret (.bool b),st):=by
 apply Exists.intro
 intro st
 have hL0:=fun n=>L18 (g:=st.x.gl) (n:=n) hl _ 0 rfl
 rw[run_shut F18 rfl rfl (by simp)]
 push_cast at hL0
 push_cast[hL0,lpB]
 exact rfl
theorem L19 {l:List Grp}(hl:l.length<140737488355328):∀r j,l.drop j=r→runL Tryz.prog HH [0,3] n B19_0 [(0,.sl (l.map Grp.v)),(3,.int .i64 j)] (stN g n)=lpB (stN g n) [(0,.sl (l.map Grp.v))] 2 (anyN 60 (fun q:Grp=>40<(q.chans.length:Int)∧(q.chans.length:Int)≤256) r j) false:=by
 refine drop_ind (fun j h=>?_) (fun q r j h hx hd ih=>?_)
 all_goals rw[runL_of B19_0.eq_1]
 ·have h1:¬(j:Int)<l.length:=by omega
  push_cast[h1,anyN,Grp.v]
 ·have h1:(j:Int)<l.length:=by omega
  have hw:=iw1 (j:=j) (by omega)
  push_cast[h1,hw,hx,Grp.v]at ih ⊢
  simp only[ih,anyN,lps,Int.reduceEq,not_false_eq_true]
  all_goals first|with_reducible rfl|exact dn_eq (by omega) (by with_reducible rfl)|((repeat' split)<;>(try simp_all)<;>(try (with_reducible refine dn_eq ?_ ?_<;>first|trivial|omega|rfl))<;>(try omega))
theorem f19 {l:List Grp}(hl:l.length<140737488355328):∃b,∀st,run Tryz.prog HH 19 [.sl (l.map Grp.v)] st=some (.ret (.bool b),st):=by
 refine⟨if anyN 60 (fun q:Grp=>40<(q.chans.length:Int)∧(q.chans.length:Int)≤256) l 0=true then false else decide ((l.length:Int)≤60),fun st=>?_⟩
 rw[run_shut F19 rfl rfl (by simp)]
 have hL0:=fun n=>L19 (g:=st.x.gl) (n:=n) hl _ 0 rfl
 push_cast at hL0
 push_cast[hL0,lpE,lpX,lpI,lpB]
 all_goals first|with_reducible rfl|exact dn_eq (by omega) (by with_reducible rfl)|((repeat' split)<;>(try simp_all)<;>(try (with_reducible refine dn_eq ?_ ?_<;>first|trivial|omega|rfl))<;>(try omega))
def anyP {α:Type}(p:α→Prop)[DecidablePred p]:List α→Bool
 |[]=>false
 |q::r=>if p q then true else anyP p r
theorem L20 {l:List Pal}(hl:l.length<140737488355328):∀r j,l.drop j=r→runL Tryz.prog HH [0,3] n B20_0 [(0,.sl (l.map Pal.v)),(3,.int .i64 j)] (stN g n)=lpB (stN g n) [] 2 (anyP (fun q:Pal=>512<(q.hues.length:Int)) r) false:=by
 refine drop_ind (fun j h=>?_) (fun q r j h hx hd ih=>?_)
 all_goals rw[runL_of B20_0.eq_1]
 ·have h1:¬(j:Int)<l.length:=by omega
  push_cast[h1,anyP,Pal.v]
 ·have h1:(j:Int)<l.length:=by omega
  have hw:=iw1 (j:=j) (by omega)
  push_cast[h1,hw,hx,Pal.v]at ih ⊢
  simp only[ih,anyP,lps,Int.reduceEq,not_false_eq_true]
  all_goals first|with_reducible rfl|exact dn_eq (by omega) (by with_reducible rfl)|((repeat' split)<;>(try simp_all)<;>(try (with_reducible refine dn_eq ?_ ?_<;>first|trivial|omega|rfl))<;>(try omega))
theorem f20 {l:List Pal}(hl:l.length<140737488355328):∃b,∀st,run Tryz.prog HH 20 [.sl (l.map Pal.v)] st=some (.ret (.bool b),st):=by
 refine⟨if 64<(l.length:Int) then false else if anyP (fun q:Pal=>512<(q.hues.length:Int)) l=true then false else true,fun st=>?_⟩
 rw[run_shut F20 rfl rfl (by simp)]
 have hL0:=fun n=>L20 (g:=st.x.gl) (n:=n) hl _ 0 rfl
 push_cast at hL0
 push_cast[hL0,lpE,lpX,lpI,lpB]
 all_goals first|with_reducible rfl|exact dn_eq (by omega) (by with_reducible rfl)|((repeat' split)<;>(try simp_all)<;>(try (with_reducible refine dn_eq ?_ ?_<;>first|trivial|omega|rfl))<;>(try omega))
theorem L21 {l:List Sb}(hl:l.length<140737488355328):∀r j,l.drop j=r→runL Tryz.prog HH [0,3] n B21_0 [(0,.sl (l.map Sb.v)),(3,.int .i64 j)] (stN g n)=lpB (stN g n) [(0,.sl (l.map Sb.v))] 2 (anyN 40 (fun q:Sb=>30<(q.gains.length:Int)∧(q.gains.length:Int)≤128) r j) false:=by
 refine drop_ind (fun j h=>?_) (fun q r j h hx hd ih=>?_)
 all_goals rw[runL_of B21_0.eq_1]
 ·have h1:¬(j:Int)<l.length:=by omega
  push_cast[h1,anyN,Sb.v]
 ·have h1:(j:Int)<l.length:=by omega
  have hw:=iw1 (j:=j) (by omega)
  push_cast[h1,hw,hx,Sb.v]at ih ⊢
  simp only[ih,anyN,lps,Int.reduceEq,not_false_eq_true]
  all_goals first|with_reducible rfl|exact dn_eq (by omega) (by with_reducible rfl)|((repeat' split)<;>(try simp_all)<;>(try (with_reducible refine dn_eq ?_ ?_<;>first|trivial|omega|rfl))<;>(try omega))
theorem f21 {l:List Sb}(hl:l.length<140737488355328):∃b,∀st,run Tryz.prog HH 21 [.sl (l.map Sb.v)] st=some (.ret (.bool b),st):=by
 refine⟨if anyN 40 (fun q:Sb=>30<(q.gains.length:Int)∧(q.gains.length:Int)≤128) l 0=true then false else decide ((l.length:Int)≤40),fun st=>?_⟩
 rw[run_shut F21 rfl rfl (by simp)]
 have hL0:=fun n=>L21 (g:=st.x.gl) (n:=n) hl _ 0 rfl
 push_cast at hL0
 push_cast[hL0,lpE,lpX,lpI,lpB]
 all_goals first|with_reducible rfl|exact dn_eq (by omega) (by with_reducible rfl)|((repeat' split)<;>(try simp_all)<;>(try (with_reducible refine dn_eq ?_ ?_<;>first|trivial|omega|rfl))<;>(try omega))
theorem f22 {l:List Eff}:∃b,∀st,run Tryz.prog HH 22 [.sl (l.map Eff.v),.sl []] st=some (.ret (.bool b),st):=by
 refine⟨if 4<(l.length:Int)∧(l.length:Int)≤16 then false else true,fun st=>?_⟩
 rw[run_shut F22 rfl rfl (by simp)]
 push_cast[runL_of B22_0.eq_1]
 all_goals first|with_reducible rfl|exact dn_eq (by omega) (by with_reducible rfl)|((repeat' split)<;>(try simp_all)<;>(try (with_reducible refine dn_eq ?_ ?_<;>first|trivial|omega|rfl))<;>(try omega))
theorem L23 {x:Prof}(hl:x.feats.length<140737488355328):∀r j,x.feats.drop j=r→runL Tryz.prog HH [1,3] n B23_0 [(1,.ep x.v 0),(3,.int .i64 j)] (stN g n)=lpB (stN g n) [(1,.ep x.v 0)] 2 (anyN 40 (fun q:Ftr=>40<(q.wheel.length:Int)) r j) false:=by
 refine drop_ind (fun j h=>?_) (fun q r j h hx hd ih=>?_)
 all_goals rw[runL_of B23_0.eq_1]
 ·have h1:¬(j:Int)<x.feats.length:=by omega
  push_cast[h1,anyN,Prof.v,Ftr.v]
 ·have h1:(j:Int)<x.feats.length:=by omega
  have hw:=iw1 (j:=j) (by omega)
  push_cast[h1,hw,hx,Prof.v,Ftr.v]at ih ⊢
  simp only[ih,anyN,lps,Int.reduceEq,not_false_eq_true]
  all_goals first|with_reducible rfl|exact dn_eq (by omega) (by with_reducible rfl)|((repeat' split)<;>(try simp_all)<;>(try (with_reducible refine dn_eq ?_ ?_<;>first|trivial|omega|rfl))<;>(try omega))
def few51 (x:Prof):Bool:=if anyN 40 (fun q:Ftr=>40<(q.wheel.length:Int)) x.feats 0=true then false else(decide ((x.feats.length:Int)≤40)&&decide ((x.name.length:Int)≤100))
theorem f23 {x:Prof}(hl:x.feats.length<140737488355328){st:St}:run Tryz.prog HH 23 [x.v] st=some (.ret (.bool (few51 x)),st):=by
 rw[run_shut F23 rfl rfl (by simp)]
 have hL0:=fun n=>L23 (g:=st.x.gl) (n:=n) hl _ 0 rfl
 push_cast[Prof.v,few51]at hL0
 push_cast[Prof.v,few51,hL0,lpE,lpX,lpI,lpB]
 all_goals first|with_reducible rfl|exact dn_eq (by omega) (by with_reducible rfl)|((repeat' split)<;>(try simp_all)<;>(try (with_reducible refine dn_eq ?_ ?_<;>first|trivial|omega|rfl))<;>(try omega))
def few129 (x:Cu):Bool:=decide ((x.num.length:Int)≤40)&&(decide ((x.label.length:Int)≤100)&&(decide ((x.link.length:Int)≤40)&&(decide ((x.parts.length:Int)≤10)&&decide ((x.moves.length:Int)≤300))))
theorem f80 {x:Cu}{st:St}:run Tryz.prog HH 80 [x.v] st=some (.ret (.bool (few129 x)),st):=by
 rw[run_shut F80 rfl rfl (by simp)]
 push_cast[Cu.v,(fun(a0:V) (st:St) (h:V.bdL 0 [a0]=true)=>run_shut (P:=Tryz.prog) (H:=HH) (args:=[a0]) (st:=st) F120 rfl rfl h),few129]
theorem L46 {x:Lst}(hl:x.cues.length<140737488355328):∀r j,x.cues.drop j=r→runL Tryz.prog HH [1,3] n B46_0 [(1,.ep x.v 0),(3,.int .i64 j)] (stN g n)=lpB (stN g n) [] 2 (anyP (fun q:Cu=>few129 q=false) r) false:=by
 refine drop_ind (fun j h=>?_) (fun q r j h hx hd ih=>?_)
 all_goals rw[runL_of B46_0.eq_1]
 ·have h1:¬(j:Int)<x.cues.length:=by omega
  push_cast[h1,anyP,Lst.v,Cu.v]
 ·have h1:(j:Int)<x.cues.length:=by omega
  have hw:=iw1 (j:=j) (by omega)
  push_cast[h1,hw,hx,Lst.v,Cu.v,f80]at ih ⊢
  simp only[ih,anyP,lps,Int.reduceEq,not_false_eq_true]
  all_goals first|with_reducible rfl|exact dn_eq (by omega) (by with_reducible rfl)|((repeat' split)<;>(try simp_all)<;>(try (with_reducible refine dn_eq ?_ ?_<;>first|trivial|omega|rfl))<;>(try omega))
theorem f46 {x:Lst}(hl:x.cues.length<140737488355328):∃b,∀st,run Tryz.prog HH 46 [x.v] st=some (.ret (.bool b),st):=by
 refine⟨if 128<(x.cues.length:Int) then false else if anyP (fun q:Cu=>few129 q=false) x.cues=true then false else true,fun st=>?_⟩
 rw[run_shut F46 rfl rfl (by simp)]
 have hL0:=fun n=>L46 (g:=st.x.gl) (n:=n) hl _ 0 rfl
 push_cast[Lst.v]at hL0
 push_cast[Lst.v,hL0,lpE,lpX,lpI,lpB]
 all_goals first|with_reducible rfl|exact dn_eq (by omega) (by with_reducible rfl)|((repeat' split)<;>(try simp_all)<;>(try (with_reducible refine dn_eq ?_ ?_<;>first|trivial|omega|rfl))<;>(try omega))
def add52:List Cu→Int→Option Int
 |[],_=>none
 |q::r,m=>if 20<(q.moves.length:Int)∨30<IntKind.i64.wrap (m+q.moves.length) then some 1 else add52 r (IntKind.i64.wrap (m+q.moves.length))
theorem L24 {x:Lst}(hx0:x.ok):∀r j,x.cues.drop j=r→∀m,runL Tryz.prog HH [1,3,4] n B24_0 [(1,.ep x.v 0),(3,.int .i64 m),(4,.int .i64 j)] (stN g n)=(match add52 r m with|none=>some (.exit 0,[],stN g n)|some _=>some (.ret,[(2,.bool (lstR x != 0))],stN g n)):=by
 have hl:=hx0.a
 have h91:=fun(st:St)=>f47 (st:=st) hx0
 refine drop_ind (fun j h m=>?_) (fun q r j h hx hd ih m=>?_)
 all_goals rw[runL_of B24_0.eq_1]
 ·have h1:¬(j:Int)<x.cues.length:=by omega
  push_cast[h1,add52,Lst.v]
 ·have h1:(j:Int)<x.cues.length:=by omega
  have hw:=iw1 (j:=j) (by omega)
  push_cast[Lst.v]at h91
  push_cast[h1,hw,hx,Lst.v,Cu.v,h91]at ih ⊢
  simp only[ih,add52]
  split<;>rfl
theorem f24 {x:Lst}(h:x.ok):∃b,∀st,run Tryz.prog HH 24 [x.v] st=some (.ret (.bool b),st):=by
 obtain⟨b,hb⟩:=f46 h.a
 have h91:=fun(st:St)=>f47 (st:=st) h
 have h0:=fun g n=>L24 (g:=g) (n:=n) h x.cues 0 rfl 0
 cases h2:add52 x.cues 0 with
 |none =>
  rw[h2]at h0
  push_cast[Lst.v]at h0 hb h91
  refine⟨if b=false then false else if 10<(x.cues.length:Int) then lstR x != 0 else true,fun st=>?_⟩
  rw[run_shut F24 rfl rfl (by simp)]
  push_cast[Lst.v,hb,h91,h0]
  all_goals first|with_reducible rfl|exact dn_eq (by omega) (by with_reducible rfl)|((repeat' split)<;>(try simp_all)<;>(try (with_reducible refine dn_eq ?_ ?_<;>first|trivial|omega|rfl))<;>(try omega))
 |some k =>
  rw[h2]at h0
  push_cast[Lst.v]at h0 hb h91
  refine⟨if b=false then false else lstR x != 0,fun st=>?_⟩
  rw[run_shut F24 rfl rfl (by simp)]
  push_cast[Lst.v,hb,h91,h0]
  all_goals first|with_reducible rfl|exact dn_eq (by omega) (by with_reducible rfl)|((repeat' split)<;>(try simp_all)<;>(try (with_reducible refine dn_eq ?_ ?_<;>first|trivial|omega|rfl))<;>(try omega))
open Classical in
noncomputable def few52 (x:Lst):Bool:=if h:x.ok then(f24 h).choose else false
theorem f24' {x:Lst}(h:x.ok){st:St}:run Tryz.prog HH 24 [x.v] st=some (.ret (.bool (few52 x)),st):=by
 unfold few52;rw[dif_pos h];exact(f24 h).choose_spec st
theorem L5_0 {x:Sho}(hx0:x.ok):∀r j,x.profs.drop j=r→runL Tryz.prog HH [1,3] n B5_0 [(1,.ep x.v 0),(3,.int .i64 j)] (stN g n)=lpB (stN g n) [(1,.ep x.v 0)] 2 (anyP (fun q=>few51 q=false) r) false:=by
 have hl:=hx0.p.1
 refine drop_ind (fun j h=>?_) (fun q r j h hx hd ih=>?_)
 all_goals rw[runL_of B5_0.eq_1]
 ·have h1:¬(j:Int)<x.profs.length:=by omega
  push_cast[h1,anyP,Sho.v,Prof.v]
 ·have h1:(j:Int)<x.profs.length:=by omega
  have hw:=iw1 (j:=j) (by omega)
  have hq:q.feats.length<140737488355328:=(hx0.p.2.1 q (mem_at hd)).a
  push_cast[h1,hw,hx,Sho.v,Prof.v,f23 hq]at ih ⊢
  simp only[ih,anyP,lps,Int.reduceEq,not_false_eq_true]
  all_goals first|with_reducible rfl|exact dn_eq (by omega) (by with_reducible rfl)|((repeat' split)<;>(try simp_all)<;>(try (with_reducible refine dn_eq ?_ ?_<;>first|trivial|omega|rfl))<;>(try omega))
theorem L5_1 {x:Sho}(hx0:x.ok):∀r j,x.lsts.drop j=r→runL Tryz.prog HH [1,4] n B5_1 [(1,.ep x.v 0),(4,.int .i64 j)] (stN g n)=if anyN 10 (fun q=>few52 q=false) r j=true then some (.ret,[(2,.bool false)],stN g n) else some (.exit 2,[(1,.ep x.v 0)],stN g n):=by
 have hl:=hx0.k.1
 refine drop_ind (fun j h=>?_) (fun q r j h hx hd ih=>?_)
 all_goals rw[runL_of B5_1.eq_1]
 ·have h1:¬(j:Int)<x.lsts.length:=by omega
  push_cast[h1,anyN,Sho.v,Lst.v]
 ·have h1:(j:Int)<x.lsts.length:=by omega
  have hw:=iw1 (j:=j) (by omega)
  have hq:q.ok:=hx0.k.2 q (mem_at hd)
  push_cast[h1,hw,hx,Sho.v,Lst.v,f24' hq]at ih ⊢
  simp only[ih,anyN,lps,Int.reduceEq,not_false_eq_true]
  all_goals first|with_reducible rfl|exact dn_eq (by omega) (by with_reducible rfl)|((repeat' split)<;>(try simp_all)<;>(try (with_reducible refine dn_eq ?_ ?_<;>first|trivial|omega|rfl))<;>(try omega))
theorem f5 {x:Sho}(h:x.ok):∃b,∀st,run Tryz.prog HH 5 [x.v] st=some (.ret (.bool b),st):=by
 obtain⟨b1,h1⟩:=f17 h.c.1
 obtain⟨b2,h2⟩:=f18 (l:=x.fixts) h.p.1
 obtain⟨b3,h3⟩:=f19 h.g.1
 obtain⟨b4,h4⟩:=f20 h.l.1
 obtain⟨b5,h5⟩:=f21 h.s.1
 obtain⟨b6,h6⟩:=f22 (l:=x.effs)
 have k0:=fun g n=>L5_0 (g:=g) (n:=n) h x.profs 0 rfl
 have k1:=fun g n=>L5_1 (g:=g) (n:=n) h x.lsts 0 rfl
 push_cast[Sho.v]at k0 k1
 apply Exists.intro
 intro st
 rw[run_shut F5 rfl rfl (by simp)]
 push_cast[Sho.v,h1,h2,h3,h4,h5,h6,k0,k1,lpB]
 exact rfl
end Go.Proofs.YtakiodkbjgdnoaaGreatDoor

namespace Go.Proofs.YtakiodkbjgdnoaaGreatDoor
open Go.Sha
set_option maxRecDepth 100000
theorem shoC_parts {x:Sho}(h:shoC x=0):labC x.title=0∧cursC x.curves=0∧profsCR x.profs x.curves=0∧fixCR x.fixts x.profs=0∧grpsC x.grps=0∧palsCR x.pals=0∧lstsC x.lsts=0∧subsCR x.subs=0∧effsC x.effs=0:=by
 unfold shoC uniC at h
 repeat' split at h
 all_goals first|(rename_i a;exact absurd h a)|skip
 simp_all
theorem fixR_all {ps:List Prof}{l:List Fixt}:∀{r:List Fixt}{j:Nat},l.drop j=r→fixR ps l r j=0→∀x∈r,aloC ps x=0
 |[],_,_,_,x,hx=>by simp at hx
 |q::r,j,hd,h,x,hx=>by
  rw[fixR]at h
  repeat' split at h
  all_goals first|(rename_i a;exact absurd h a)|cases h|skip
  ·rcases List.mem_cons.1 hx with rfl|hx
   ·rename_i a _ _;exact Classical.not_not.1 a
   ·exact fixR_all (drop_succ hd) h x hx
theorem fix_ok {fx:List Fixt}{ps:List Prof}(h:fixCR fx ps=0):ps.length≤32∧fx.length≤64∧fixR ps fx fx 0=0∧∀x∈fx,aloC ps x=0:=by
 unfold fixCR at h
 split at h
 ·cases h
 ·exact⟨by omega,by omega,h,fixR_all (j:=0) rfl h⟩
end Go.Proofs.YtakiodkbjgdnoaaGreatDoor

namespace Go.Proofs.YtakiodkbjgdnoaaGreatDoor
open Go.Sha
set_option maxRecDepth 10000
def B8_1:Cd:=(.g [.b 37 .lss 36 35] (.join [5,8,34,35,36] (.i 37 .skip (.exit [8] 2)) (.join [5,8,34,35,36] (.block 3 (.g [.r 38 7 34 36,.d 39 7 38,.s 10 (.alloc 50 [.i 0,.i 0,(.str []),.i 0,.i 0,.i 0,(.str [])]),.w 7 10 39] (.z [10] (.greg [] [] [[],[],[],[],[],[],[],[],[],[],[],[],[false,false,false,true,true,true,true,true,true,true,true,true],[],[],[],[true],[],[true],[true],[false,false,false,false,false,false,false,false,false,false,false,false,false,false,false,false,false,false,false,true],[],[false,false,false,false,false,false,false,false,false,false,false,false,false,false,false,false,false,false,false,false,false,true],[false,false,false,false,false,false,false,false,false,false,false,false,false,false,false,false,false,false,false,false,false,false,false],[]] [.m 40 8,.a 41 3 10,.l 42 41,.f 43 35 42,.a 44 4 10,.l 45 44,.f 46 35 45,.a 47 4 10,.l 48 47,.m 49 5,.a 50 2 10,.l 51 50,.s 52 (.act (.look .s (.i 0) false) [.t 49,.t 51]),.b 53 .add 48 52,.v 54 .sub 53 1,.f 55 35 54,.d 56 7 10,.f 57 36 56,.a 58 2 10,.l 59 58,.s 60 (.bslice 9 1 [.t 43,.t 46,.t 55,.t 57,.t 59]),.f 61 32 60,.s 62 (.bslice 41 1 [.t 61]),.s 63 (.append 41 1 24 (.t 40) (.t 62)),.m 8 63])))) (.reg [.v 64 .add 36 1,.m 36 64]))))
def B12_0:Cd:=(.g [.b 20 .lss 19 18] (.join [5,17,18,19] (.i 20 .skip (.exit [5] 0)) (.join [5,17,18,19] (.block 1 (.g [.r 21 7 17 19,.d 22 7 21,.s 7 (.alloc 50 [.i 0,.i 0,(.str []),.i 0,.i 0,.i 0,(.str [])]),.w 7 7 22] (.z [7] (.greg [] [] [[],[],[],[],[],[],[],[],[],[],[],[],[],[],[],[],[false,false,false,false,false,false,false,false,false,false,false,false,false,false,false,true],[],[false,false,false,false,false,false,false,false,false,false,false,false,false,false,false,false,false,true],[false,false,false,false,false,false,false,false,false,false,false,false,false,false,false,false,false,false,false],[]] [.m 23 5,.d 24 7 7,.f 25 36 24,.a 26 2 7,.l 27 26,.a 28 3 7,.l 29 28,.f 30 35 29,.a 31 4 7,.l 32 31,.f 33 35 32,.a 34 5 7,.l 35 34,.f 36 35 35,.a 37 6 7,.l 38 37,.s 39 (.bslice 9 1 [.t 25,.t 27,.t 30,.t 33,.t 36,.t 38]),.f 40 32 39,.s 41 (.bslice 41 1 [.t 40]),.s 42 (.append 41 1 24 (.t 23) (.t 41)),.m 5 42])))) (.reg [.v 43 .add 19 1,.m 19 43]))))
theorem F12:compF Tryz.prog 12=some ⟨45,[.tmp 2,.tmp 3],(.g [.q 1 31 0,.s 2 (.mv (.c .nils)),.c 3 0] (.z [1] (.join [1] (.g [.d 8 9 1,.f 9 31 8,.m 4 9] (.g [.m 10 4,.v 11 .neq 10 0] (.i 11 (.g [.m 12 4,.s 2 (.mv (.c .nils)),.m 3 12] (.ret [2,3])) .skip))) (.g [.s 13 (.bslice 9 1 [(.w [99,104,97,110,110,101,108]),(.w [112,114,111,102,105,108,101]),(.w [117,110,105,118,101,114,115,101]),(.w [97,100,100,114,101,115,115]),(.w [112,104,97,115,101]),(.w [99,97,98,108,101])]),.f 14 32 13,.s 15 (.bslice 41 1 [.t 14]),.m 5 15] (.join [5] (.g [.d 16 9 1,.s 17 (.f 33 [.t 16,(.c (.fn (.func 41) [] []))]),.u 18 17,.c 19 0] (.block 0 (.loop [5,17,18,19] [(5,(41,1))] B12_0))) (.g [.m 44 5,.m 2 44,.c 3 0] (.ret [2,3])))))))⟩:=by kernel_rfl
theorem F33:compF Tryz.prog 33=some ⟨13,[.tmp 4],(.g [.q 2 31 0,.q 3 89 1,.s 4 (.mv (.c .nils))] (.z [2,3] (.g [.a 6 3 2,.l 7 6,.f 8 57 7,.m 5 8] (.g [.m 9 5,.s 10 (.mkfn (.func 59) [] [.t 3]),.g' 11 58 9 10] (.g [.m 12 5,.m 4 12] (.ret [4]))))))⟩:=by kernel_rfl
theorem F36:compF Tryz.prog 36=some ⟨17,[.tmp 2],(.g [.q 1 50 0,.s 2 (.mv (.w []))] (.z [1] (.join [1] (.g [.a 3 1 1,.l 4 3,.v 5 .eql 4 1] (.i 5 (.g [.a 6 0 1,.l 7 6,.f 8 35 7,.m 2 8] (.ret [2])) .skip)) (.q (.dreg 9 [.a 9 0 1,.l 10 9,.f 11 35 10,.s 12 (.bin .add (.t 11) (.w [46])),.a 13 1 1,.l 14 13,.f 15 35 14,.b 16 .add 12 15,.m 2 16]) (.ret [2])))))⟩:=by kernel_rfl
theorem F41:compF Tryz.prog 41=some ⟨8,[.tmp 2,.tmp 3],(.g [.q 1 50 0,.c 2 0,.c 3 0] (.z [1] (.q (.dreg 6 [.a 4 0 1,.l 5 4,.a 6 1 1,.l 7 6,.m 2 5,.m 3 7]) (.ret [2,3]))))⟩:=by kernel_rfl
theorem F57:compF Tryz.prog 57=some ⟨8,[.tmp 2],(.g [.s 2 (.mv (.c .nils))] (.join [0] (.g [.m 3 0,.s 4 (.nilk false (.t 3))] (.i 4 (.g [.s 2 (.mv (.c .nils))] (.ret [2])) .skip)) (.g [.s 5 (.bslice 50 7 []),.m 6 0,.s 7 (.append 50 7 72 (.t 5) (.t 6)),.m 2 7] (.ret [2]))))⟩:=by kernel_rfl
theorem F58:compF Tryz.prog 58=some ⟨9,[],(.reg [.m 4 0,.m 5 0,.u 6 5,.m 7 1,.s 8 (.f 104 [.t 4,.t 6,.t 7])])⟩:=by kernel_rfl
theorem F59:compF Tryz.prog 59=some ⟨30,[.tmp 5],(.g [.q 3 50 0,.q 4 50 1,.c 5 0] (.z [3,4] (.g [.l 11 2,.d 12 7 3,.s 13 (.call (.t 11) [.t 12]),.m 10 13,.j 14 0 10,.j 15 1 10,.m 6 14,.m 7 15] (.g [.l 17 2,.d 18 7 4,.s 19 (.call (.t 17) [.t 18]),.m 16 19,.j 20 0 16,.j 21 1 16,.m 8 20,.m 9 21] (.g [.m 22 6,.m 23 8,.g' 24 61 22 23,.m 25 7,.m 26 9,.g' 27 61 25 26,.s 28 (.bslice 3 1 [.t 24,.t 27]),.f 29 60 28,.m 5 29] (.ret [5]))))))⟩:=by kernel_rfl
def B60_0:Cd:=(.g [.b 9 .lss 8 7] (.join [3,6,7,8] (.i 9 .skip (.exit [3] 0)) (.join [3,6,7,8] (.block 1 (.g [.r 10 1 6 8,.l 11 10,.m 5 11] (.g [.m 12 5,.m 13 3,.b 14 .neq 12 13] (.i 14 (.g [.m 15 5,.m 2 15] (.ret [2])) .skip)))) (.reg [.v 16 .add 8 1,.m 8 16]))))
theorem F60:compF Tryz.prog 60=some ⟨18,[.tmp 2],(.g [.c 2 0] (.g [.c 3 0] (.join [3] (.g [.m 6 0,.u 7 6,.c 8 0] (.block 0 (.loop [3,6,7,8] [] B60_0))) (.g [.m 17 3,.m 2 17] (.ret [2])))))⟩:=by kernel_rfl
theorem F61:compF Tryz.prog 61=some ⟨20,[.tmp 4],(.g [.c 4 0] (.g [.m 7 0,.f 8 105 7,.m 5 8] (.g [.m 9 1,.f 10 105 9,.m 6 10] (.join [0,1,6] (.g [.m 11 5] (.i 11 (.join [] (.g [.m 12 6] (.i 12 (.g [.c 4 0] (.ret [4])) .skip)) (.g [.c 4 (-1)] (.ret [4]))) .skip)) (.join [0,1] (.g [.m 13 6] (.i 13 (.g [.c 4 1] (.ret [4])) .skip)) (.join [0,1] (.g [.m 14 0,.m 15 1,.b 16 .lss 14 15] (.i 16 (.g [.c 4 (-1)] (.ret [4])) .skip)) (.join [] (.g [.m 17 0,.m 18 1,.b 19 .gtr 17 18] (.i 19 (.g [.c 4 1] (.ret [4])) .skip)) (.g [.c 4 0] (.ret [4])))))))))⟩:=by kernel_rfl
def B104_0:Cd:=(.join [0,1,2,6,7,8] (.g [.m 11 8,.m 12 1,.b 13 .leq 11 12] (.i 13 .skip (.exit [0,1,2,6,7] 0))) (.block 1 (.g [.m 14 0,.m 15 7,.m 16 8,.m 17 2,.s 18 (.f 141 [.t 14,.t 15,.t 16,.t 17])] (.g [.m 19 8,.m 7 19] (.reg [.m 20 8,.m 21 6,.b 22 .add 20 21,.m 8 22])))))
def B104_1:Cd:=(.join [0,1,2,6,7,8] (.g [.m 33 8,.m 34 1,.b 35 .leq 33 34] (.i 35 .skip (.exit [0,1,2,6,7] 4))) (.block 5 (.g [.m 36 0,.m 37 7,.m 38 7,.m 39 6,.b 40 .add 38 39,.m 41 8,.m 42 2,.s 43 (.f 142 [.t 36,.t 37,.t 40,.t 41,.t 42])] (.g [.m 44 8,.m 7 44] (.reg [.m 45 8,.m 46 6,.s 47 (.bin .mul (.i 2) (.t 46)),.b 48 .add 45 47,.m 8 48])))))
def B104_2:Cd:=(.join [0,1,2,6] (.g [.m 28 6,.m 29 1,.b 30 .lss 28 29] (.i 30 .skip (.exit [] 2))) (.block 3 (.g [.m 31 6,.s 32 (.bin .mul (.i 2) (.t 31)),.c 7 0,.m 8 32] (.join [0,1,2,6,7] (.block 4 (.loop [0,1,2,6,7,8] [] B104_1)) (.join [0,1,2,6] (.g [.m 49 7,.m 50 6,.b 51 .add 49 50,.m 9 51] (.g [.m 52 9,.m 53 1,.b 54 .lss 52 53] (.i 54 (.reg [.m 55 0,.m 56 7,.m 57 9,.m 58 1,.m 59 2,.s 60 (.f 142 [.t 55,.t 56,.t 57,.t 58,.t 59])]) .skip))) (.reg [.m 61 6,.v 62 .mul 61 2,.m 6 62]))))))
theorem F104:compF Tryz.prog 104=some ⟨63,[],(.g [.c 6 20] (.g [.m 10 6,.c 7 0,.m 8 10] (.join [0,1,2,6,7] (.block 0 (.loop [0,1,2,6,7,8] [] B104_0)) (.g [.m 23 0,.m 24 7,.m 25 1,.m 26 2,.s 27 (.f 141 [.t 23,.t 24,.t 25,.t 26])] (.block 2 (.loop [0,1,2,6] [] B104_2))))))⟩:=by kernel_rfl
def B141_0:Cd:=(.join [0,1,2,3,8,9] (.join [0,1,2,3,8,9,34] (.dreg 17 [.m 18 9,.m 19 1,.b 20 .gtr 18 19,.m 21 20,.my 22 3 21,.my 23 0 21,.my 24 9 21,.ry 25 7 23 24 21,.y 26 (.load (some 7) (.t 25)) 21,.my 27 0 21,.my 28 9 21,.vy 29 .sub 28 1 21,.ry 30 7 27 29 21,.y 31 (.load (some 7) (.t 30)) 21,.y 32 (.call (.t 22) [.t 26,.t 31]) 21,.vy 33 .lss 32 0 21,.e 34 21 33]) (.i 34 .skip (.exit [0,1,2,3,8] 2))) (.join [0,1,2,3,8,9] (.block 3 (.greg [] [] [[],[],[],[],[],[],[],[],[],[],[],[],[],[],[],[false,false,false,false,false,false,false,false,false,false,true,true,true,false,false],[],[false,false,false,false,false,false,false,false,false,false,false,false,false,false,false,false,false]] [.m 37 0,.m 38 9,.m 39 0,.m 40 9,.v 41 .sub 40 1,.m 42 0,.m 43 9,.v 44 .sub 43 1,.r 45 7 42 44,.d 46 7 45,.m 47 0,.m 48 9,.r 49 7 47 48,.d 50 7 49,.r 51 7 37 38,.w 7 51 46,.r 52 7 39 41,.w 7 52 50])) (.reg [.m 35 9,.v 36 .sub 35 1,.m 9 36])))
def B141_1:Cd:=(.join [0,1,2,3,8] (.g [.m 12 8,.m 13 2,.b 14 .lss 12 13] (.i 14 .skip (.exit [] 0))) (.join [0,1,2,3,8] (.block 1 (.g [.m 17 8,.m 9 17] (.block 2 (.loop [0,1,2,3,8,9] [] B141_0)))) (.reg [.m 15 8,.v 16 .add 15 1,.m 8 16])))
theorem F141:compF Tryz.prog 141=some ⟨53,[],(.g [.m 10 1,.v 11 .add 10 1,.m 8 11] (.block 0 (.loop [0,1,2,3,8] [] B141_1)))⟩:=by kernel_rfl
theorem F105:compF Tryz.prog 105=some ⟨6,[.tmp 2],(.g [.k 2 false] (.g [.m 3 0,.m 4 0,.b 5 .neq 3 4,.m 2 5] (.ret [2])))⟩:=by kernel_rfl
end Go.Proofs.YtakiodkbjgdnoaaGreatDoor

namespace Go.Proofs.YtakiodkbjgdnoaaGreatDoor
open Go.Sha
set_option maxRecDepth 10000
theorem F35:compF Tryz.prog 35=some ⟨5,[.tmp 2],(.g [.s 2 (.mv (.w []))] (.g [.m 3 0,.f 4 62 3,.m 2 4] (.ret [2])))⟩:=by kernel_rfl
end Go.Proofs.YtakiodkbjgdnoaaGreatDoor

namespace Go.Proofs.YtakiodkbjgdnoaaGreatDoor
open Go.Sha
set_option maxRecDepth 10000
theorem F32:compF Tryz.prog 32=some ⟨4,[.tmp 2],(.g [.s 2 (.mv (.c .nils))] (.g [.m 3 0,.m 2 3] (.ret [2])))⟩:=by kernel_rfl
end Go.Proofs.YtakiodkbjgdnoaaGreatDoor

namespace Go.Proofs.YtakiodkbjgdnoaaGreatDoor
open Go.Sha
set_option maxRecDepth 100000
theorem mixed:Tryz.prog.follows .mixedOrders=true:=by kernel_rfl
abbrev Row:Type:=List (List UInt8)
@[reducible] def rowV (r:Row):V:=.sl (r.map .str)
theorem f35 {m:Int}(h0:-9223372036854775808≤m)(h1:m≤9223372036854775807){st:St}(hG:glB st.x.gl=true):run Tryz.prog HH 35 [.int .i64 m] st=some (.ret (.str (Lib.itoa m)),st):=by
 have hI:∀st':St,st'.x.gl=st.x.gl→run Tryz.prog HH 62 [.int .i64 m] st'=some (.ret (.str (Lib.itoa m)),st'):=fun st' e=>run_H (by
  show(hItoa st'.x.gl [.int .i64 m]).map (fun r=>(r,st'))=_
  rw[hItoa,e,hG,decide_eq_true h0,decide_eq_true h1];rfl)
 rw[run_shut F35 rfl rfl (by simp)]
 push_cast[hI]
end Go.Proofs.YtakiodkbjgdnoaaGreatDoor

namespace Go.Proofs.YtakiodkbjgdnoaaGreatDoor
open Go.Sha
set_option maxRecDepth 100000
variable {g:List (Nat×Obj)}{n:Nat}
def memC:List Nat:=[31,35]
noncomputable def HC:EvF:=⟨HH.raw,fun f args st=>bif Nat.beq f 57 then hClone 50 7 72 args st else bif memL f memC then run Tryz.prog HH f args st else none⟩
@[push_cast]theorem HC_raw:HC.raw=[58,104,141,142,191,228]:=idq rfl
theorem HC_ok (h1:ESound Tryz.prog HH):ESound Tryz.prog HC:=fun f args st r s h=>by
 simp only[HC]at h
 by_cases hf:f=57
 ·subst hf
  simp only[show Nat.beq 57 57=true from rfl,cond_true]at h
  exact clone_ok F57 h
 rw[show Nat.beq f 57=false from Bool.eq_false_iff.2 fun e=>hf (Nat.eq_of_beq_eq_true e),cond_false]at h
 cases hi:memL f memC with
 |false=>rw[hi]at h;cases h
 |true=>rw[hi]at h;exact run_sound mixed h1 _ _ _ _ _ h
theorem upC {k:Nat}{args:List V}{st:St}{r:VRes×St}(h:run Tryz.prog HH k args st=some r)(h1:Nat.beq k 57=false:=by rfl)(h2:memL k memC=true:=by rfl):run Tryz.prog HC k args st=some r:=by
 refine run_H ?_
 simp only[HC,h1,h2,cond_false,cond_true,h]
def cmpI (a b:Int):Int:=if a<b then -1 else if b<a then 1 else 0
def cmpK (key:Fixt→Int×Int)(x y:Fixt):Int:=if cmpI (key x).1 (key y).1=0 then cmpI (key x).2 (key y).2 else cmpI (key x).1 (key y).1
def ltK (key:Fixt→Int×Int)(x y:Fixt):Prop:=(key x).1<(key y).1∨(key x).1=(key y).1∧(key x).2<(key y).2
instance {key:Fixt→Int×Int}{x y:Fixt}:Decidable (ltK key x y):=by unfold ltK;exact inferInstance
theorem cmp_lt {key:Fixt→Int×Int}{x y:Fixt}:(cmpK key x y<0)=ltK key x y:=by
 unfold cmpK cmpI ltK
 rw[eq_iff_iff]
 split<;>(repeat' split)<;>omega
theorem f105 {a:Int}{st:St}:run Tryz.prog HC 105 [.int .i64 a] st=some (.ret (.bool false),st):=by
 rw[run_shut F105 rfl rfl (by simp)]
 push_cast
 all_goals first|with_reducible rfl|exact dn_eq (by omega) (by with_reducible rfl)|((repeat' split)<;>(try simp_all)<;>(try (with_reducible refine dn_eq ?_ ?_<;>first|trivial|omega|rfl))<;>(try omega))
theorem f61 {a b:Int}{st:St}:run Tryz.prog HC 61 [.int .i64 a,.int .i64 b] st=some (.ret (.int .i64 (cmpI a b)),st):=by
 rw[run_shut F61 rfl rfl (by simp)]
 push_cast[f105,cmpI]
 all_goals first|with_reducible rfl|exact dn_eq (by omega) (by with_reducible rfl)|((repeat' split)<;>(try simp_all)<;>(try (with_reducible refine dn_eq ?_ ?_<;>first|trivial|omega|rfl))<;>(try omega))
theorem f60 {a b:Int}{st:St}:run Tryz.prog HC 60 [.sl [.int .i64 a,.int .i64 b]] st=some (.ret (.int .i64 (if a=0 then b else a)),st):=by
 rw[run_shut F60 rfl rfl (by simp)]
 push_cast[runL_of B60_0.eq_1]
 all_goals first|with_reducible rfl|exact dn_eq (by omega) (by with_reducible rfl)|((repeat' split)<;>(try simp_all)<;>(try (with_reducible refine dn_eq ?_ ?_<;>first|trivial|omega|rfl))<;>(try omega))
def kChan (x:Fixt):Int×Int:=(x.chan,x.part)
theorem f41 {x:Fixt}{st:St}:run Tryz.prog HC 41 [x.v] st=some (.ret (.tup [.int .i64 (kChan x).1,.int .i64 (kChan x).2]),st):=by
 rw[run_shut F41 rfl rfl (by simp)]
 push_cast[Fixt.v,kChan]
 all_goals first|with_reducible rfl|exact dn_eq (by omega) (by with_reducible rfl)|((repeat' split)<;>(try simp_all)<;>(try (with_reducible refine dn_eq ?_ ?_<;>first|trivial|omega|rfl))<;>(try omega))
def KeyF (k:Nat)(key:Fixt→Int×Int):Prop:=∀x st,run Tryz.prog HC k [Fixt.v x] st=some (.ret (.tup [.int .i64 (key x).1,.int .i64 (key x).2]),st)
@[reducible] def keyV (k:Nat):V:=.ep (.agg [.fn (.func k) [] []]) 0
@[reducible] def cmpV (k:Nat):V:=.fn (.func 59) [] [keyV k]
theorem f59 {k:Nat}{key:Fixt→Int×Int}(hk:KeyF k key)(h0:memL k [58,104,141,142,191,228]=false){x y:Fixt}{st:St}:run Tryz.prog HC 59 [x.v,y.v,keyV k] st=some (.ret (.int .i64 (cmpK key x y)),st):=by
 have hk:=fun x st=>hk x st
 rw[run_shut F59 rfl rfl (by simp)]
 push_cast[Fixt.v]at hk
 push_cast[Fixt.v,hk,h0,f61,f60,cmpK]
def insW {α:Type}(lt:α→α→Prop)[∀x y,Decidable (lt x y)]:List α→α→List α→List α
 |[],x,s=>x::s
 |y::r,x,s=>if lt x y then insW lt r x (y::s) else r.reverse++y::x::s
def stK (g:List (Nat×Obj))(xs:List Fixt):St:=⟨3,[],[(2,⟨50,7,xs.map Fixt.v,true,false⟩)],⟨[],g,[]⟩⟩
@[push_cast]theorem stK_eq {xs:List Fixt}:stK g xs=⟨3,[],[(2,⟨50,7,xs.map Fixt.v,true,false⟩)],⟨[],g,[]⟩⟩:=idq rfl
theorem L141_0 {k:Nat}{key:Fixt→Int×Int}(hk:KeyF k key)(h0:memL k [58,104,141,142,191,228]=false){m i N:Nat}(hN:N<1000):∀(r:List Fixt) (x:Fixt) (s:List Fixt),r.length+1+s.length=N →
  runL Tryz.prog HC [0,1,2,3,8,9] 3 B141_0 [(0,.osl 2 N),(1,.int .i64 0),(2,.int .i64 m),(3,cmpV k),(8,.int .i64 i),(9,.int .i64 r.length)] (stK g (r.reverse++x::s))
   = some (.exit 2,[(0,.osl 2 N),(1,.int .i64 0),(2,.int .i64 m),(3,cmpV k),(8,.int .i64 i)],stK g (insW (ltK key) r x s)):=by
 have h123:=fun x y st=>f59 hk h0 (x:=x) (y:=y) (st:=st)
 intro r
 induction r with
 |nil =>
  intro x s hl
  rw[runL_of B141_0.eq_1]
  push_cast[List.length_nil,List.reverse_nil,List.nil_append,insW]
 |cons y r ih =>
  intro x s hl
  rw[List.length_cons]at hl
  have ih:=ih x (y::s) (by rw[List.length_cons];omega)
  have e1:((y::r).reverse++x::s).length=N:=by simp;omega
  have e2:∀d,((y::r).reverse++x::s).getD (r.length+1) d=x:=fun d=>by simp[List.getD_eq_getElem?_getD]
  have e3:∀d,((y::r).reverse++x::s).getD r.length d=y:=fun d=>by simp[List.getD_eq_getElem?_getD]
  have e4:(((y::r).reverse++x::s).map Fixt.v).getD (r.length+1) V.und=x.v:=by simp[List.getD_eq_getElem?_getD]
  have e5:(((y::r).reverse++x::s).map Fixt.v).getD r.length V.und=y.v:=by simp[List.getD_eq_getElem?_getD]
  have e6:((y::r).reverse++x::s)[r.length+1]?=some x:=by simp
  have e7:((((y::r).reverse++x::s).map Fixt.v).set (r.length+1) y.v)[r.length]?=some y.v:=by simp
  have e8:((((y::r).reverse++x::s).map Fixt.v).set (r.length+1) y.v).set r.length x.v=(r.reverse++x::y::s).map Fixt.v:=by simp
  have w1:IntKind.i64.wrap (((r.length:Nat):Int)+1-1)=r.length:=by rw[iwrap (by omega) (by omega)];omega
  have c1:(0:Int)<((r.length:Nat):Int)+1:=by omega
  have c2:((r.length:Nat):Int)+1<N:=by omega
  have c3:(r.length:Int)<N:=by omega
  have d2:r.length+1<N:=by omega
  have d3:r.length<N:=by omega
  rw[insW,List.length_cons]
  generalize hxs:(y::r).reverse++x::s=xs at *
  rw[runL_of B141_0.eq_1]
  push_cast[Fixt.v]at h123 ih
  simp only[Fixt.v]at e7 e8
  push_cast[e1,e2,e3,e4,e5,e6,e7,e8,w1,c1,c2,c3,d2,d3,Fixt.v,h123,stoB,V.cells,V.recell,cmp_lt]
  refine dn_eq (fun _=>by simp[e1]) ?_
  split
  ·exact ih
  ·simp[←hxs]
theorem insW_app {α:Type}{lt:α→α→Prop}[∀x y,Decidable (lt x y)]:∀{r:List α}{x:α}{s:List α},insW lt r x s=insW lt r x []++s
 |[],x,s=>rfl
 |y::r,x,s=>by
  rw[insW,insW]
  split
  ·rw[insW_app (s:=y::s),insW_app (s:=[y])];simp
  ·simp
theorem insW_len {α:Type}{lt:α→α→Prop}[∀x y,Decidable (lt x y)]:∀{r:List α}{x:α}{s:List α},(insW lt r x s).length=r.length+s.length+1
 |[],x,s=>by simp[insW]
 |y::r,x,s=>by
  rw[insW]
  split
  ·rw[insW_len];simp;omega
  ·simp;omega
def insS {α:Type}(lt:α→α→Prop)[∀x y,Decidable (lt x y)](out:List α)(x:α):List α:=insW lt out.reverse x []
def isort {α:Type}(lt:α→α→Prop)[∀x y,Decidable (lt x y)](l:List α):List α:=l.foldl (insS lt) []
theorem insS_len {α:Type}{lt:α→α→Prop}[∀x y,Decidable (lt x y)]{l:List α}{x:α}:(insS lt l x).length=l.length+1:=by
 rw[insS,insW_len];simp
theorem isort_len {α:Type}{lt:α→α→Prop}[∀x y,Decidable (lt x y)]{l:List α}:(isort lt l).length=l.length:=by
 suffices ∀o:List α,(l.foldl (insS lt) o).length=o.length+l.length by simpa [isort] using this []
 induction l with
 |nil=>intro o;rfl
 |cons x l ih=>intro o;rw[List.foldl_cons,ih,insS_len,List.length_cons];omega
theorem L141_1 {k:Nat}{key:Fixt→Int×Int}(hk:KeyF k key)(h0:memL k [58,104,141,142,191,228]=false){l:List Fixt}(hN:l.length<1000):∀(r:List Fixt) (j:Nat),l.drop j=r→∀out:List Fixt,out.length=j →
  runL Tryz.prog HC [0,1,2,3,8] 3 B141_1 [(0,.osl 2 l.length),(1,.int .i64 0),(2,.int .i64 l.length),(3,cmpV k),(8,.int .i64 j)] (stK g (out++r))
   = some (.exit 0,[],stK g (r.foldl (insS (ltK key)) out)):=by
 refine drop_ind (fun j h out ho=>?_) (fun q r j h hx hd ih out ho=>?_)
 all_goals rw[runL_of B141_1.eq_1]
 ·have h1:¬(j:Int)<l.length:=by omega
  push_cast[h1,List.foldl_nil,List.append_nil]
 ·have h1:(j:Int)<l.length:=by omega
  have hw:=iw1 (j:=j) (by omega)
  have hL:=L141_0 (g:=g) (m:=l.length) (i:=j) hk h0 hN out.reverse q r (by
   have:=congrArg List.length hd
   simp at this ⊢;omega)
  have ih:=ih (insS (ltK key) out q) (by rw[insS_len,ho])
  rw[insW_app,List.reverse_reverse,List.length_reverse,ho]at hL
  rw[List.foldl_cons]
  push_cast[insS]at ih hL
  push_cast[h1,hw,hL,insS]
  exact ih
theorem f141 {k:Nat}{key:Fixt→Int×Int}(hk:KeyF k key)(h0:memL k [58,104,141,142,191,228]=false){l:List Fixt}(hN:l.length<1000):run Tryz.prog HC 141 [.osl 2 l.length,.int .i64 0,.int .i64 l.length,cmpV k] (stK g l)=some (.ret (.tup []),stK g (isort (ltK key) l)):=by
 cases l with
 |nil =>
  rw[run_open F141 rfl rfl (by simp)]
  push_cast[runL_of B141_1.eq_1,isort,List.foldl_nil,List.length_nil]
 |cons x l =>
  have hL:=L141_1 (g:=g) hk h0 hN l 1 rfl [x] rfl
  have e:(x::l).foldl (insS (ltK key)) []=l.foldl (insS (ltK key)) [x]:=by simp[insS,insW]
  have hlen:(isort (ltK key) (x::l)).length=(x::l).length:=isort_len
  rw[isort,e]at hlen ⊢
  rw[List.singleton_append]at hL
  rw[run_open F141 rfl rfl (by simp)]
  generalize hxs:x::l=xs at *
  push_cast at hL
  push_cast[hL,hlen]
theorem f104 {k:Nat}{key:Fixt→Int×Int}(hk:KeyF k key)(h0:memL k [58,104,141,142,191,228]=false){l:List Fixt}(hN:l.length<20):run Tryz.prog HC 104 [.osl 2 l.length,.int .i64 l.length,cmpV k] (stK g l)=some (.ret (.tup []),stK g (isort (ltK key) l)):=by
 have h273:=f141 (g:=g) hk h0 (l:=l) (by omega)
 have hlen:(isort (ltK key) l).length=l.length:=isort_len
 have h1:¬(20:Int)≤l.length:=by omega
 have h2:¬(20:Int)<l.length:=by omega
 rw[run_open F104 rfl rfl (by simp)]
 push_cast at h273
 push_cast[runL_of B104_0.eq_1,runL_of B104_2.eq_1,h273,h1,h2,hlen]
theorem f58 {k:Nat}{key:Fixt→Int×Int}(hk:KeyF k key)(h0:memL k [58,104,141,142,191,228]=false){l:List Fixt}(hN:l.length<20):run Tryz.prog HC 58 [.osl 2 l.length,cmpV k] (stK g l)=some (.ret (.tup []),stK g (isort (ltK key) l)):=by
 have h197:=f104 (g:=g) hk h0 hN
 have hlen:(isort (ltK key) l).length=l.length:=isort_len
 rw[run_open F58 rfl rfl (by simp)]
 push_cast at h197
 push_cast[h197,hlen]
theorem f122n {k:Nat}{st:St}:run Tryz.prog HC 58 [.sl [],cmpV k] st=some (.ret (.tup []),st):=by
 have h197:∀st:St,run Tryz.prog HC 104 [.sl [],.int .i64 0,cmpV k] st=some (.ret (.tup []),st):=fun st=>by
  have h273:∀st:St,run Tryz.prog HC 141 [.sl [],.int .i64 0,.int .i64 0,cmpV k] st=some (.ret (.tup []),st):=fun st=>by
   rw[run_shut F141 rfl rfl (by simp)]
   push_cast[runL_of B141_1.eq_1]
  rw[run_shut F104 rfl rfl (by simp)]
  push_cast[runL_of B104_0.eq_1,runL_of B104_2.eq_1,h273]
 rw[run_shut F58 rfl rfl (by simp)]
 push_cast[h197]
theorem f33 {s:Sho}{k:Nat}{key:Fixt→Int×Int}(hk:KeyF k key)(h0:memL k [58,104,141,142,191,228]=false)(hN:s.fixts.length<20){st:St}:run Tryz.prog HC 33 [s.v,.fn (.func k) [] []] st=some (.ret (.sl ((isort (ltK key) s.fixts).map Fixt.v)),st):=by
 have hlen:(isort (ltK key) s.fixts).length=s.fixts.length:=isort_len
 rw[run_shut F33 rfl rfl (by simp[V.bdL,V.bd])]
 cases he:s.fixts with
 |nil =>
  have h1:∀st:St,run Tryz.prog HC 57 [.sl []] st=some (.ret (.sl []),st):=fun st=>run_H rfl
  push_cast[Sho.v,he,List.map_nil,h1,f122n,isort,List.foldl_nil]
 |cons x r =>
  rw[←he]
  have h1:run Tryz.prog HC 57 [.sl (s.fixts.map Fixt.v)] ⟨2,[],[],⟨[],st.x.gl,[]⟩⟩=some (.ret (.osl 2 s.fixts.length),stK st.x.gl s.fixts):=run_H (by
   have c1:((x::r).map Fixt.v).all fastA=true:=by rw[List.all_map,List.all_eq_true];exact fun y _=>rfl
   have c2:((x::r).map Fixt.v).all (fun y=>y.cells.length == 7)=true:=by rw[List.all_map,List.all_eq_true];exact fun y _=>rfl
   have c3:roomV ((x::r).map Fixt.v).length 72=true:=roomV_lit (by rw[List.length_map,←he];omega) (by rw[List.length_map,←he];omega)
   show hClone 50 7 72 [.sl (s.fixts.map Fixt.v)] _=_
   rw[he,List.map_cons]
   rw[List.map_cons]at c1 c2 c3
   rw[hClone,if_pos ⟨c1,c2,c3⟩,stK,List.map_cons];simp)
  have h2:=f58 (g:=st.x.gl) hk h0 hN
  push_cast at h1 h2
  push_cast[Sho.v,h1,h2,hlen]
end Go.Proofs.YtakiodkbjgdnoaaGreatDoor

namespace Go.Proofs.YtakiodkbjgdnoaaGreatDoor
open Go.Sha
set_option maxRecDepth 100000
variable {g:List (Nat×Obj)}{n:Nat}
theorem f58C {m:Int}(h0:-9223372036854775808≤m)(h1:m≤9223372036854775807){st:St}(hG:glB st.x.gl=true):run Tryz.prog HC 35 [.int .i64 m] st=some (.ret (.str (Lib.itoa m)),st):=upC (f35 h0 h1 hG)
theorem h66C {l:List V}(hb:V.bdL 0 l=true){st:St}:run Tryz.prog HC 32 [.sl l] st=some (.ret (.sl l),st):=by
 rw[run_shut F32 rfl rfl (by simpa [V.bdL,V.bd] using hb)]
 push_cast[hb]
def unitT (x:Fixt):List UInt8:=if x.part=1 then Lib.itoa x.chan else Lib.itoa x.chan++46::Lib.itoa x.part
theorem f36 {x:Fixt}(hx:rngC x=0){st:St}(hG:glB st.x.gl=true):run Tryz.prog HC 36 [x.v] st=some (.ret (.str (unitT x)),st):=by
 obtain⟨r1,r2,r3,r4,_⟩:=rng_ok hx
 have e1:=fun nx mem arr obj ty=>f58C (m:=x.chan) (st:=⟨nx,mem,arr,⟨obj,st.x.gl,ty⟩⟩) (by omega) (by omega) hG
 have e2:=fun nx mem arr obj ty=>f58C (m:=x.part) (st:=⟨nx,mem,arr,⟨obj,st.x.gl,ty⟩⟩) (by omega) (by omega) hG
 have l1:=Lib.itoa_length_le x.chan (by omega) (by omega)
 have l2:=Lib.itoa_length_le x.part (by omega) (by omega)
 rw[run_shut F36 rfl rfl (by simp)]
 by_cases h:x.part=1
 ·push_cast[Fixt.v,e1,h,unitT]
 ·push_cast[Fixt.v,e1,e2,h,unitT]
  exact dn_eq (by omega) rfl
def szE (l:List Prof):List (V×V):=l.map fun p=>(.str p.name,.int .i64 p.foot)
theorem find_szE {s:List UInt8}:∀{l:List Prof}{i:Nat},(pfx l s=none→findV (.str s) (szE l) i=some none)∧∀p,pfx l s=some p→∃j,findV (.str s) (szE l) i=some (some (j,.int .i64 p.foot))
 |[],i=>⟨fun _=>rfl,fun p h=>by simp[pfx]at h⟩
 |q::r,i=>by
  obtain⟨i1,i2⟩:=find_szE (s:=s) (l:=r) (i:=i+1)
  simp only[szE,List.map_cons,findV,sameV,pfx]at i1 i2 ⊢
  by_cases h:s=q.name
  ·refine⟨fun e=>by simp[h]at e,fun p e=>?_⟩
   simp[h]at e;subst e
   exact⟨i,by simp[h]⟩
  ·have h':¬q.name=s:=fun e=>h e.symm
   rw[show(s == q.name)=false by simp[h]]
   simp only[List.find?_cons,show(q.name == s)=false by simp[h']]
   exact⟨i1,i2⟩
theorem look_sz {st:St}{s:List UInt8}{l:List Prof}:lookB st (.int .i64 0) false (findV (.str s) (szE l) 0)=some (.int .i64 (((pfx l s).map Prof.foot).getD 0),st):=by
 cases h:pfx l s with
 |none=>rw[find_szE.1 h];rfl
 |some p=>obtain⟨j,hj⟩:=(find_szE (i:=0)).2 p h;rw[hj];rfl
@[push_cast]theorem szE_all {l:List Prof}:((szE l).all fun p=>p.1.bd n&&p.2.bd n)=true:=by simp[szE,V.bd]
def rowA (ps:List Prof)(x:Fixt):Row:=[Lib.itoa x.univ,Lib.itoa x.addr,Lib.itoa (x.addr+footS ps x-1),unitT x,x.prof]
def stTA (g:List (Nat×Obj))(ps:List Prof)(tab:List Row):St:=⟨4,[],[(3,⟨41,1,tab.map rowV,false,false⟩),(2,⟨9,1,[.str [117,110,105,118,101,114,115,101],.str [102,114,111,109],.str [116,111],.str [99,104,97,110,110,101,108],.str [112,114,111,102,105,108,101]],false,false⟩)],⟨[(1,.map (szE ps))],g,[]⟩⟩
@[push_cast]theorem stTA_eq {ps:List Prof}{tab:List Row}:stTA g ps tab=⟨4,[],[(3,⟨41,1,tab.map rowV,false,false⟩),(2,⟨9,1,[.str [117,110,105,118,101,114,115,101],.str [102,114,111,109],.str [116,111],.str [99,104,97,110,110,101,108],.str [112,114,111,102,105,108,101]],false,false⟩)],⟨[(1,.map (szE ps))],g,[]⟩⟩:=idq rfl
theorem L8_1 {ps:List Prof}{l:List Fixt}(hG:glB g=true)(hl:l.length<1000)(hA:∀x∈l,aloC ps x=0):∀r j,l.drop j=r→∀tab:List Row,tab.length≤j+1 →
  runL Tryz.prog HC [5,8,34,35,36] 4 B8_1 [(5,.mp 1),(8,.osl 3 tab.length),(34,.sl (l.map Fixt.v)),(35,.int .i64 l.length),(36,.int .i64 j)] (stTA g ps tab)
   = some (.exit 2,[(8,.osl 3 (tab++r.map (rowA ps)).length)],stTA g ps (tab++r.map (rowA ps))):=by
 refine drop_ind (fun j h tab hc=>?_) (fun q r j hj hx hd ih tab hc=>?_)
 all_goals rw[runL_of B8_1.eq_1]
 ·have h1:¬(j:Int)<l.length:=by omega
  push_cast[h1,List.map_nil,List.append_nil]
 ·have h1:(j:Int)<l.length:=by omega
  have hw:=iw1 (j:=j) (by omega)
  have hq:=hA q (mem_at hd)
  have hr:=(aloC_ok hq).1
  obtain⟨⟨i1,i2,i3⟩,i4⟩:=aloC_in hq
  obtain⟨r1,r2,r3,r4,r5,r6,r7,r8,r9,r10⟩:=rng_ok hr
  have e1:=fun nx mem arr obj ty=>f58C (m:=q.univ) (st:=⟨nx,mem,arr,⟨obj,g,ty⟩⟩) (by omega) (by omega) hG
  have e2:=fun nx mem arr obj ty=>f58C (m:=q.addr) (st:=⟨nx,mem,arr,⟨obj,g,ty⟩⟩) (by omega) (by omega) hG
  have e3:=fun nx mem arr obj ty=>f58C (m:=q.addr+footS ps q-1) (st:=⟨nx,mem,arr,⟨obj,g,ty⟩⟩) (by omega) (by omega) hG
  have e4:=fun nx mem arr obj ty=>f36 (x:=q) (st:=⟨nx,mem,arr,⟨obj,g,ty⟩⟩) hr hG
  have e5:=fun(st:St)=>h66C (l:=(rowA ps q).map .str) (st:=st) (by simp[rowA,V.bdL,V.bd])
  have hm:=fun(st:St)=>look_sz (st:=st) (s:=q.prof) (l:=ps)
  have w1:IntKind.i64.wrap (q.addr+footS ps q)=q.addr+footS ps q:=iwrap (by omega) (by omega)
  have w2:IntKind.i64.wrap (q.addr+footS ps q-1)=q.addr+footS ps q-1:=iwrap (by omega) (by omega)
  have hro:roomV (tab.length+1) 24=true:=roomV_lit (by omega) (by omega)
  have ih:=ih (tab++[rowA ps q]) (by simp;omega)
  rw[←footS]at hm
  rw[List.map_cons]
  generalize hR:rowA ps q=R at *
  rw[rowA]at hR
  subst hR
  simp only[List.map_cons,List.map_nil]at e5
  push_cast[Fixt.v,List.map_nil,List.length_nil]at ih e4
  push_cast[h1,hw,hx,hm,w1,w2,e1,e2,e3,e4,e5,hro,Fixt.v,List.map_nil,List.length_nil,List.map_append,List.map_cons,List.append_assoc,List.singleton_append,rowV]at ih ⊢
  first|exact ih|exact dn_eq (by omega) ih
theorem insW_perm {α:Type}{lt:α→α→Prop}[∀x y,Decidable (lt x y)]:∀{r:List α}{x:α}{s:List α},(insW lt r x s).Perm (x::(r.reverse++s))
 |[],x,s=>.refl _
 |y::r,x,s=>by
  rw[insW]
  split
  ·refine insW_perm.trans (.cons _ ?_);simp
  ·have:=List.perm_middle (l₁:=r.reverse++[y]) (a:=x) (l₂:=s)
   simpa using this
theorem insS_perm {α:Type}{lt:α→α→Prop}[∀x y,Decidable (lt x y)]{l:List α}{x:α}:(insS lt l x).Perm (x::l):=by
 have:=insW_perm (lt:=lt) (r:=l.reverse) (x:=x) (s:=[])
 simpa [insS] using this
theorem isort_perm {α:Type}{lt:α→α→Prop}[∀x y,Decidable (lt x y)]{l:List α}:(isort lt l).Perm l:=by
 suffices ∀o:List α,(l.foldl (insS lt) o).Perm (o++l) by simpa [isort] using this []
 induction l with
 |nil=>intro o;simp
 |cons x l ih=>intro o;rw[List.foldl_cons];exact(ih _).trans ((insS_perm.append_right l).trans (by simpa using List.perm_middle.symm))
theorem f54C {s:Sho}(h:s.ok){st:St}:run Tryz.prog HC 31 [s.v] st=some (.ret (.int .i64 (shoC s)),st):=upC (f31 h)
def rowH (x:Fixt):Row:=[unitT x,x.prof,Lib.itoa x.univ,Lib.itoa x.addr,Lib.itoa x.phase,x.cable]
def hdH:Row:=[[99,104,97,110,110,101,108],[112,114,111,102,105,108,101],[117,110,105,118,101,114,115,101],[97,100,100,114,101,115,115],[112,104,97,115,101],[99,97,98,108,101]]
def stTH (g:List (Nat×Obj))(tab:List Row):St:=⟨3,[],[(2,⟨41,1,tab.map rowV,false,false⟩),(1,⟨9,1,[.str [99,104,97,110,110,101,108],.str [112,114,111,102,105,108,101],.str [117,110,105,118,101,114,115,101],.str [97,100,100,114,101,115,115],.str [112,104,97,115,101],.str [99,97,98,108,101]],false,false⟩)],⟨[],g,[]⟩⟩
@[push_cast]theorem stTH_eq {tab:List Row}:stTH g tab=⟨3,[],[(2,⟨41,1,tab.map rowV,false,false⟩),(1,⟨9,1,[.str [99,104,97,110,110,101,108],.str [112,114,111,102,105,108,101],.str [117,110,105,118,101,114,115,101],.str [97,100,100,114,101,115,115],.str [112,104,97,115,101],.str [99,97,98,108,101]],false,false⟩)],⟨[],g,[]⟩⟩:=idq rfl
theorem L12 {l:List Fixt}(hG:glB g=true)(hl:l.length<1000)(hA:∀x∈l,rngC x=0):∀r j,l.drop j=r→∀tab:List Row,tab.length≤j+1 →
  runL Tryz.prog HC [5,17,18,19] 3 B12_0 [(5,.osl 2 tab.length),(17,.sl (l.map Fixt.v)),(18,.int .i64 l.length),(19,.int .i64 j)] (stTH g tab)
   = some (.exit 0,[(5,.osl 2 (tab++r.map rowH).length)],stTH g (tab++r.map rowH)):=by
 refine drop_ind (fun j h tab hc=>?_) (fun q r j hj hx hd ih tab hc=>?_)
 all_goals rw[runL_of B12_0.eq_1]
 ·have h1:¬(j:Int)<l.length:=by omega
  push_cast[h1,List.map_nil,List.append_nil]
 ·have h1:(j:Int)<l.length:=by omega
  have hw:=iw1 (j:=j) (by omega)
  have hr:=hA q (mem_at hd)
  obtain⟨r1,r2,r3,r4,r5,r6,r7,r8,r9,r10⟩:=rng_ok hr
  have e1:=fun nx mem arr obj ty=>f58C (m:=q.univ) (st:=⟨nx,mem,arr,⟨obj,g,ty⟩⟩) (by omega) (by omega) hG
  have e2:=fun nx mem arr obj ty=>f58C (m:=q.addr) (st:=⟨nx,mem,arr,⟨obj,g,ty⟩⟩) (by omega) (by omega) hG
  have e3:=fun nx mem arr obj ty=>f58C (m:=q.phase) (st:=⟨nx,mem,arr,⟨obj,g,ty⟩⟩) (by omega) (by omega) hG
  have e4:=fun nx mem arr obj ty=>f36 (x:=q) (st:=⟨nx,mem,arr,⟨obj,g,ty⟩⟩) hr hG
  have e5:=fun(st:St)=>h66C (l:=(rowH q).map .str) (st:=st) (by simp[rowH,V.bdL,V.bd])
  have hro:roomV (tab.length+1) 24=true:=roomV_lit (by omega) (by omega)
  have ih:=ih (tab++[rowH q]) (by simp;omega)
  rw[List.map_cons]
  generalize hR:rowH q=R at *
  rw[rowH]at hR
  subst hR
  simp only[List.map_cons,List.map_nil]at e5
  push_cast[Fixt.v,List.map_nil,List.length_nil]at ih e4
  push_cast[h1,hw,hx,e1,e2,e3,e4,e5,hro,Fixt.v,List.map_nil,List.length_nil,List.map_append,List.map_cons,List.append_assoc,List.singleton_append,rowV]at ih ⊢
  first|exact ih|exact dn_eq (by omega) ih
def hupT (s:Sho):List Row:=if shoC s=0 then hdH::(isort (ltK kChan) s.fixts).map rowH else[]
theorem f12 {s:Sho}(h:s.ok)(hF:shoC s=0→s.fixts.length<20){st:St}(hG:glB st.x.gl=true):run Tryz.prog HC 12 [s.v] st=some (.ret (.tup [.sl ((hupT s).map rowV),.int .i64 (shoC s)]),st):=by
 have h1:=fun st=>f54C (st:=st) h
 rw[run_shut F12 rfl rfl (by simp)]
 by_cases hs:shoC s=0
 ·have hp:=isort_perm (lt:=ltK kChan) (l:=s.fixts)
  have hlen:(isort (ltK kChan) s.fixts).length=s.fixts.length:=isort_len
  have hF:=hF hs
  have hL1:=L12 (g:=st.x.gl) hG (l:=isort (ltK kChan) s.fixts) (by omega) (fun x hx=>(aloC_ok ((fix_ok (shoC_parts hs).2.2.2.1).2.2.2 x (hp.mem_iff.1 hx))).1) _ 0 rfl [hdH] (Nat.le_refl _)
  have h56:=fun st=>f33 (s:=s) (k:=41) (key:=kChan) (fun x st=>f41) rfl hF (st:=st)
  have e4:=fun(st:St)=>h66C (l:=hdH.map .str) (st:=st) rfl
  rw[List.drop_zero]at hL1
  simp only[hdH,List.map_cons,List.map_nil]at e4
  rw[hdH]at hL1
  rw[hupT,if_pos hs]
  generalize isort (ltK kChan) s.fixts=so at *
  push_cast[Sho.v,rowV,List.map_cons,List.map_nil,List.length_cons,List.length_nil,List.singleton_append]at hL1 h1 h56
  push_cast[Sho.v,hL1,h1,hs,h56,hupT,e4,hdH,rowV,List.map_cons,List.map_nil,List.length_cons,List.length_nil,List.singleton_append]
 ·push_cast[Sho.v]at h1
  push_cast[Sho.v,h1,hs,hupT]
end Go.Proofs.YtakiodkbjgdnoaaGreatDoor

namespace Go.Proofs.YtakiodkbjgdnoaaGreatDoor
open Go.Sha
set_option maxRecDepth 100000
variable {g:List (Nat×Obj)}{n:Nat}
def numOk (n:Nat):Bool:=decide (Lib.itoa n≠[])&&(Lib.itoa n).all isD&&decide ((Lib.itoa n).length≤18)&&decide (natOf (Lib.itoa n)=n)
theorem numOk_all:(List.range 2100).all numOk=true:=by decide +kernel
theorem numOk_at {m:Int}(h0:0≤m)(h:m<2100):Lib.itoa m≠[]∧(Lib.itoa m).all isD=true∧(Lib.itoa m).length≤18∧(natOf (Lib.itoa m):Int)=m:=by
 have:=List.all_eq_true.1 numOk_all m.toNat (List.mem_range.2 (by omega))
 simp only[numOk,Bool.and_eq_true,decide_eq_true_eq,Int.toNat_of_nonneg h0]at this
 exact⟨this.1.1.1,this.1.1.2,this.1.2,by omega⟩
theorem atoi_itoa {m:Int}(h0:0≤m)(h:m<2100){st:St}:run Tryz.prog HH 9 [.str (Lib.itoa m)] st=some (.ret (.tup [.int .i64 m,.nili]),st):=run_H (by
 obtain⟨n1,n2,n3,n4⟩:=numOk_at h0 h
 show(hAtoi [.str (Lib.itoa m)]).map (fun r=>(r,st))=_
 rw[hAtoi,if_pos ⟨n1,n2,n3⟩,n4];rfl)
section
variable {α:Type}{lt:α→α→Prop} [∀x y,Decidable (lt x y)]
end
def Disj (ps:List Prof)(x y:Fixt):Prop:=x.univ=y.univ→x.addr+footS ps x≤y.addr∨y.addr+footS ps y≤x.addr
theorem Disj.symm {ps:List Prof}{x y:Fixt}(h:Disj ps x y):Disj ps y x:=fun e=>(h e.symm).symm
end Go.Proofs.YtakiodkbjgdnoaaGreatDoor

namespace Go.Proofs.YtakiodkbjgdnoaaGreatDoor
open Go.Sha
set_option maxRecDepth 100000
variable {g:List (Nat×Obj)}{n:Nat}
theorem f107n {l:List Fixt}{ps:List Prof}(h1:12<l.length)(h2:l.length≤64){st:St}:run Tryz.prog HH 18 [.sl (l.map Fixt.v),.sl (ps.map Prof.v)] st=some (.ret (.bool false),st):=by
 have a1:(12:Int)<l.length:=by omega
 have a2:(l.length:Int)≤64:=by omega
 rw[run_shut F18 rfl rfl (by simp)]
 push_cast[a1,a2]
theorem f52n {x:Sho}(h:x.ok)(h1:12<x.fixts.length)(h2:x.fixts.length≤64){st:St}:run Tryz.prog HH 5 [x.v] st=some (.ret (.bool false),st):=by
 obtain⟨b1,h1'⟩:=f17 h.c.1
 have h2':=fun(st:St)=>f107n (ps:=x.profs) (st:=st) h1 h2
 obtain⟨b3,h3⟩:=f19 h.g.1
 obtain⟨b4,h4⟩:=f20 h.l.1
 obtain⟨b5,h5⟩:=f21 h.s.1
 obtain⟨b6,h6⟩:=f22 (l:=x.effs)
 rw[run_shut F5 rfl rfl (by simp)]
 push_cast[Sho.v,h1',h2',h3,h4,h5,h6]
theorem few_of {s:Sho}(h:s.ok)(hs:shoC s=0)(hb:∀st,run Tryz.prog HH 5 [s.v] st=some (.ret (.bool true),st)):s.fixts.length≤12:=by
 have h2:=(fix_ok (shoC_parts hs).2.2.2.1).2.1
 rcases Nat.lt_or_ge 12 s.fixts.length with h1|h1
 ·have:=f52n h h1 h2 (st:=stG [])
  rw[hb]at this
  cases this
 ·exact h1
end Go.Proofs.YtakiodkbjgdnoaaGreatDoor

namespace Go.Proofs.YtakiodkbjgdnoaaGreatDoor
open Go.Sha
set_option maxRecDepth 10000
theorem F14:compF Tryz.prog 14=some ⟨10,[.cell 2 (some 3)],(.g [.q 1 31 0,.s 2 (.alloc 57 [.nils,.nils,.nils])] (.z [1] (.g [.a 3 1 1,.l 4 3,.a 5 2 1,.l 6 5,.a 7 3 1,.l 8 7,.s 9 (.build [.nils,.nils,.nils] [(0,1,(.t 4)),(1,1,(.t 6)),(2,1,(.t 8))]),.w 3 2 9] (.ret [2]))))⟩:=by kernel_rfl
end Go.Proofs.YtakiodkbjgdnoaaGreatDoor

namespace Go.Proofs.YtakiodkbjgdnoaaGreatDoor
open Go.Sha
set_option maxRecDepth 100000
variable {g:List (Nat×Obj)}{n:Nat}
end Go.Proofs.YtakiodkbjgdnoaaGreatDoor

namespace Go.Proofs.YtakiodkbjgdnoaaGreatDoor
open Go.Sha
set_option maxRecDepth 1000000
def HE:EvF:=⟨HH.raw,fun f args st=>bif Nat.beq f 57 then hClone 50 7 72 args st else HH f args st⟩
theorem HE_ok (h1:ESound Tryz.prog HH):ESound Tryz.prog HE:=fun f args st r s h=>by
 simp only[HE]at h
 by_cases hf:f=57
 ·subst hf
  simp only[show Nat.beq 57 57=true from rfl,cond_true]at h
  exact clone_ok F57 h
 rw[show Nat.beq f 57=false from Bool.eq_false_iff.2 fun e=>hf (Nat.eq_of_beq_eq_true e),cond_false]at h
 exact h1 _ _ _ _ _ h
structure GV where
 a:TypeId
 x:Nat×Nat
def glK (v:GV):List (Nat×Obj):=[(2,.cells (Lib.pow10Tab.map fun n=>.int .u64 n).toArray v.a v.x)]
theorem glB_K {v:GV}:glB (glK v)=true:=by kernel_rfl
theorem at_gl {f:FuncId}{args:List V}{st:St}{r:VRes}(h:run Tryz.prog HE f args (stG st.x.gl)=some (r,stG st.x.gl))(hF:(compF Tryz.prog f).isSome=true)(hH:∀s:St,HE f args s=none)(hb:V.bdL 0 args=true):run Tryz.prog HE f args st=some (r,st):=by
 obtain⟨F,hF⟩:=Option.isSome_iff_exists.1 hF
 rw[run_eq (hH _) hF]at h ⊢
 unfold endF at h ⊢
 split at h
 ·rename_i hl
  rw[if_pos hl,if_pos hb]
  change shutR (stG st.x.gl) (rawE F.res (runC Tryz.prog HE F.c (argEnv 0 args) (stG st.x.gl)))=_ at h
  change shutR st (rawE F.res (runC Tryz.prog HE F.c (argEnv 0 args) (stG st.x.gl)))=_
  generalize rawE F.res (runC Tryz.prog HE F.c (argEnv 0 args) (stG st.x.gl))=X at h ⊢
  match X,h with
  |some (.ret v,s),h =>
   simp only[shutR]at h ⊢
   cases hg:(shutV s v).bd 0 with
   |true=>rw[hg]at h;simp only[guardT]at h ⊢;cases h;rfl
   |false=>rw[hg]at h;cases h
  |some (.pan v,s),h =>
   simp only[shutR]at h ⊢
   cases hg:(shutV s v).bd 0 with
   |true=>rw[hg]at h;simp only[guardT]at h ⊢;cases h;rfl
   |false=>rw[hg]at h;cases h
 ·cases h
variable {v:GV}
theorem e7:evK Tryz.prog HE 60 60 7 [] (stG (glK v))=some (.ret (.bool true),stG (glK v)):=by kernel_rfl
theorem f7 {st:St}(hg:st.x.gl=glK v):run Tryz.prog HE 7 [] st=some (.ret (.bool true),st):=by
 refine at_gl ?_ (by kernel_rfl) (fun _=>rfl) rfl
 rw[hg];exact evK_run e7
end Go.Proofs.YtakiodkbjgdnoaaGreatDoor

namespace Go.Proofs.YtakiodkbjgdnoaaGreatDoor
open Go.Sha
set_option maxRecDepth 10000
theorem F244:compF Tryz.prog 244=some ⟨13,[.tmp 4,.tmp 5,.tmp 6],(.g [.s 4 (.mv (.w [])),.s 5 (.mv (.w [])),.k 6 false] (.g [.m 7 0,.m 8 1,.g' 9 264 7 8,.j 10 0 9,.j 11 1 9,.j 12 2 9,.m 4 10,.m 5 11,.m 6 12] (.ret [4,5,6])))⟩:=by kernel_rfl
theorem F248:compF Tryz.prog 248=some ⟨8,[.tmp 4],(.g [.k 4 false] (.g [.m 5 0,.m 6 1,.g' 7 267 5 6,.m 4 7] (.ret [4])))⟩:=by kernel_rfl
theorem F265:compF Tryz.prog 265=some ⟨9,[.tmp 4],(.g [.k 4 false] (.g [.m 5 0,.m 6 1,.g' 7 283 5 6,.v 8 .geq 7 0,.m 4 8] (.ret [4])))⟩:=by kernel_rfl
theorem F264:compF Tryz.prog 264=some ⟨23,[.tmp 4,.tmp 5,.tmp 6],(.g [.s 4 (.mv (.w [])),.s 5 (.mv (.w [])),.k 6 false] (.join [0] (.g [.m 8 0,.m 9 1,.g' 10 282 8 9,.m 7 10] (.g [.m 11 7,.v 12 .geq 11 0] (.i 12 (.q (.dreg 12 [.m 13 0,.m 14 7,.s 15 (.slices (.t 13) none (some (.t 14))),.m 16 0,.m 17 7,.m 18 1,.s 19 (.lens (.t 18)),.b 20 .add 17 19,.s 21 (.slices (.t 16) (some (.t 20)) none),.m 4 15,.m 5 21,.k 6 true]) (.ret [4,5,6])) .skip))) (.g [.m 22 0,.m 4 22,.s 5 (.mv (.w [])),.k 6 false] (.ret [4,5,6]))))⟩:=by kernel_rfl
theorem F267:compF Tryz.prog 267=some ⟨21,[.tmp 4],(.g [.k 4 false] (.join [4] (.reg [.m 5 0,.s 6 (.lens (.t 5)),.m 7 1,.s 8 (.lens (.t 7)),.b 9 .geq 6 8,.m 10 9,.my 11 0 10,.my 12 0 10,.y 13 (.lens (.t 12)) 10,.my 14 1 10,.y 15 (.lens (.t 14)) 10,.by' 16 .sub 13 15 10,.y 17 (.slices (.t 11) (some (.t 16)) none) 10,.my 18 1 10,.by' 19 .eql 17 18 10,.e 20 10 19,.m 4 20]) (.ret [4])))⟩:=by kernel_rfl
theorem F283:compF Tryz.prog 283=some ⟨8,[.tmp 4],(.g [.c 4 0] (.g [.m 5 0,.m 6 1,.s 7 (.f 292 [.t 5,.t 6,(.c (.bool true))]),.m 4 7] (.ret [4])))⟩:=by kernel_rfl
theorem F198:compF Tryz.prog 198=some ⟨43,[.tmp 4],(.g [.s 4 (.mv (.w []))] (.join [0,1] (.join [0,1,12] (.reg [.m 7 0,.s 8 (.bin .eql (.t 7) (.w [])),.m 9 8,.mx 10 1 9,.x 11 (.bin .eql (.t 10) (.w [])) 9,.o 12 9 11]) (.i 12 (.g [.m 13 0,.m 4 13] (.ret [4])) .skip)) (.join [0,1] (.join [0,1,21] (.reg [.m 14 1,.s 15 (.lens (.t 14)),.v 16 .eql 15 1,.m 17 16,.my 18 1 17,.y 19 (.ichr (.t 18) (.i 0)) 17,.y 20 (.bin .lss (.t 19) (.c (.int .u8 128))) 17,.e 21 17 20]) (.i 21 (.q (.dreg 8 [.m 22 0,.m 23 1,.s 24 (.ichr (.t 23) (.i 0)),.g' 25 234 22 24,.m 26 1,.s 27 (.ichr (.t 26) (.i 0)),.g' 28 233 25 27,.m 4 28]) (.ret [4])) .skip)) (.join [0,1] (.g [.m 30 1,.f 31 235 30,.m 29 31,.j 32 0 29,.j 33 1 29,.s 5 (.alloc 298 (List.replicate 256 (.bool false))),.w 256 5 32,.m 6 33] (.z [5] (.g [.m 34 6] (.i 34 (.g [.m 35 0,.g' 36 237 35 5,.g' 37 236 36 5,.m 4 37] (.ret [4])) .skip)))) (.g [.m 38 0,.m 39 1,.g' 40 239 38 39,.m 41 1,.g' 42 238 40 41,.m 4 42] (.ret [4]))))))⟩:=by kernel_rfl
def B236_0:Cd:=(.join [0,1] (.g [.m 5 0,.s 6 (.lens (.t 5)),.v 7 .gtr 6 0] (.i 7 .skip (.exit [0] 0))) (.block 1 (.join [0,1] (.g [.m 8 1,.m 9 0,.s 10 (.ichr (.t 9) (.i 0)),.g' 11 256 8 10,.z 12 11] (.i 12 (.exit [0] 0) .skip)) (.reg [.m 13 0,.s 14 (.slices (.t 13) (some (.i 1)) none),.m 0 14]))))
theorem F236:compF Tryz.prog 236=some ⟨16,[.tmp 4],(.g [.s 4 (.mv (.w []))] (.join [0] (.block 0 (.loop [0,1] [] B236_0)) (.g [.m 15 0,.m 4 15] (.ret [4]))))⟩:=by kernel_rfl
def B237_0:Cd:=(.join [0,1] (.g [.m 5 0,.s 6 (.lens (.t 5)),.v 7 .gtr 6 0] (.i 7 .skip (.exit [0] 0))) (.block 1 (.join [0,1] (.g [.m 8 1,.m 9 0,.m 10 0,.s 11 (.lens (.t 10)),.v 12 .sub 11 1,.s 13 (.ichr (.t 9) (.t 12)),.g' 14 256 8 13,.z 15 14] (.i 15 (.exit [0] 0) .skip)) (.reg [.m 16 0,.m 17 0,.s 18 (.lens (.t 17)),.v 19 .sub 18 1,.s 20 (.slices (.t 16) none (some (.t 19))),.m 0 20]))))
theorem F237:compF Tryz.prog 237=some ⟨22,[.tmp 4],(.g [.s 4 (.mv (.w []))] (.join [0] (.block 0 (.loop [0,1] [] B237_0)) (.g [.m 21 0,.m 4 21] (.ret [4]))))⟩:=by kernel_rfl
theorem F256:compF Tryz.prog 256=some ⟨10,[.tmp 4],(.g [.k 4 false] (.g [.m 5 0,.m 6 1,.s 7 (.k 5),.s 8 (.iadra 256 1 (.t 7) (.t 6)),.l 9 8,.m 4 9] (.ret [4])))⟩:=by kernel_rfl
end Go.Proofs.YtakiodkbjgdnoaaGreatDoor

namespace Go.Proofs
open Go.Shelf
def Tryz.laysM171_ren:Go.Shelf.Ren:=⟨fun|171=>62|243=>106|246=>143|283=>192|284=>193|285=>194|286=>195|129=>170|317=>229|318=>230|319=>231|320=>232|337=>254|338=>255|n=>n,fun|3=>3|9=>9|2=>2|4=>4|171=>268|0=>0|53=>190|37=>151|5=>5|173=>270|212=>294|51=>250|20=>20|213=>295|46=>193|232=>329|233=>330|n=>n,fun|17=>2|18=>3|19=>4|n=>n⟩
theorem Tryz.laysM171:Go.Proofs.LaysM.n171 Tryz.prog Tryz.laysM171_ren:={
 mixed:=by kernel_rfl
 f129:=Tryz.func170.trans (congrArg some (by kernel_rfl))
 f171:=Tryz.func62.trans (congrArg some (by kernel_rfl))
 f243:=Tryz.func106.trans (congrArg some (by kernel_rfl))
 f246:=Tryz.func143.trans (congrArg some (by kernel_rfl))
 f283:=Tryz.func192.trans (congrArg some (by kernel_rfl))
 f284:=Tryz.func193.trans (congrArg some (by kernel_rfl))
 f285:=Tryz.func194.trans (congrArg some (by kernel_rfl))
 f286:=Tryz.func195.trans (congrArg some (by kernel_rfl))
 f317:=Tryz.func229.trans (congrArg some (by kernel_rfl))
 f318:=Tryz.func230.trans (congrArg some (by kernel_rfl))
 f319:=Tryz.func231.trans (congrArg some (by kernel_rfl))
 f320:=Tryz.func232.trans (congrArg some (by kernel_rfl))
 f337:=Tryz.func254.trans (congrArg some (by kernel_rfl))
 f338:=Tryz.func255.trans (congrArg some (by kernel_rfl))
 t0:=Tryz.underlying0
 a0:=Tryz.isAgg0
 z0:=Tryz.sizeOf0
 v0:=Tryz.zeroValue0
 t2:=Tryz.underlying2
 a2:=Tryz.isAgg2
 z2:=Tryz.sizeOf2
 v2:=Tryz.zeroValue2
 t3:=Tryz.underlying3
 a3:=Tryz.isAgg3
 z3:=Tryz.sizeOf3
 v3:=Tryz.zeroValue3
 t4:=Tryz.underlying4
 a4:=Tryz.isAgg4
 z4:=Tryz.sizeOf4
 v4:=Tryz.zeroValue4
 t5:=Tryz.underlying5
 a5:=Tryz.isAgg5
 z5:=Tryz.sizeOf5
 v5:=Tryz.zeroValue5
 t9:=Tryz.underlying9
 a9:=Tryz.isAgg9
 z9:=Tryz.sizeOf9
 v9:=Tryz.zeroValue9
 t20:=Tryz.underlying20
 a20:=Tryz.isAgg20
 z20:=Tryz.sizeOf20
 v20:=Tryz.zeroValue20
 t37:=Tryz.underlying151
 a37:=Tryz.isAgg151
 z37:=Tryz.sizeOf151
 v37:=Tryz.zeroValue151
 t46:=Tryz.underlying193
 a46:=Tryz.isAgg193
 z46:=Tryz.sizeOf193
 v46:=Tryz.zeroValue193
 t51:=Tryz.underlying250
 a51:=Tryz.isAgg250
 z51:=Tryz.sizeOf250
 v51:=Tryz.zeroValue250
 t53:=Tryz.underlying190
 a53:=Tryz.isAgg190
 z53:=Tryz.sizeOf190
 v53:=Tryz.zeroValue190
 t171:=Tryz.underlying268
 a171:=Tryz.isAgg268
 z171:=Tryz.sizeOf268
 v171:=Tryz.zeroValue268
 t173:=Tryz.underlying270
 a173:=Tryz.isAgg270
 z173:=Tryz.sizeOf270
 v173:=Tryz.zeroValue270
 t212:=Tryz.underlying294
 a212:=Tryz.isAgg294
 z212:=Tryz.sizeOf294
 v212:=Tryz.zeroValue294
 t213:=Tryz.underlying295
 a213:=Tryz.isAgg295
 z213:=Tryz.sizeOf295
 t232:=Tryz.underlying329
 a232:=Tryz.isAgg329
 z232:=Tryz.sizeOf329
 v232:=Tryz.zeroValue329
 t233:=Tryz.underlying330
 a233:=Tryz.isAgg330
 z233:=Tryz.sizeOf330
 v233:=Tryz.zeroValue330
 g17:=by kernel_rfl
 g18:=by kernel_rfl
 g19:=by kernel_rfl
 i0:=by kernel_rfl
 i2:=by kernel_rfl
 i3:=by kernel_rfl
 i4:=by kernel_rfl
 i5:=by kernel_rfl
 i9:=by kernel_rfl
 i20:=by kernel_rfl
 i37:=by kernel_rfl
 i46:=by kernel_rfl
 i51:=by kernel_rfl
 i53:=by kernel_rfl
 i171:=by kernel_rfl
 i173:=by kernel_rfl
 i212:=by kernel_rfl
 i232:=by kernel_rfl
 i233:=by kernel_rfl
 m17:=by kernel_rfl
 m18:=by kernel_rfl
 m19:=by kernel_rfl }
open Go.RowKit Go.Sort Go.Lib in
theorem Tryz.strconv_Itoa (n:Int)(h0:-9223372036854775808≤n)(h1:n≤9223372036854775807)(w:World)(htab:Lib.TabIs Tryz.prog w "internal/strconv.uint64pow10" .u64 Lib.pow10Tab) :
  Calls Tryz.prog 62 #[.int .i64 n] w fun e w'=>e=.returned (.string ⟨(Lib.itoa n).toArray⟩)∧∃k os,w'=grow (w.drewN k) os:=Any.strconv_Itoa Tryz.laysM171 n h0 h1 w htab
def Tryz.laysC172_ren:Go.Shelf.Ren:=⟨fun|172=>9|244=>37|245=>38|247=>63|279=>64|280=>65|281=>66|282=>67|287=>107|316=>108|171=>62|205=>109|321=>144|322=>145|243=>106|246=>143|283=>192|284=>193|285=>194|286=>195|129=>170|317=>229|318=>230|319=>231|320=>232|337=>254|338=>255|n=>n,fun|9=>9|3=>3|75=>43|76=>44|4=>4|5=>5|167=>150|37=>151|0=>0|85=>152|2=>2|168=>154|53=>190|175=>191|46=>193|210=>196|127=>231|145=>234|143=>232|21=>21|171=>268|173=>270|212=>294|51=>250|20=>20|213=>295|232=>329|233=>330|80=>344|n=>n,fun|15=>0|16=>1|17=>2|18=>3|19=>4|n=>n⟩
theorem Tryz.laysC172:Go.Proofs.LaysC.n172 Tryz.prog Tryz.laysC172_ren:={
 mixed:=by kernel_rfl
 f129:=Tryz.func170.trans (congrArg some (by kernel_rfl))
 f171:=Tryz.func62.trans (congrArg some (by kernel_rfl))
 f172:=Tryz.func9.trans (congrArg some (by kernel_rfl))
 f205:=Tryz.func109.trans (congrArg some (by kernel_rfl))
 f243:=Tryz.func106.trans (congrArg some (by kernel_rfl))
 f244:=Tryz.func37.trans (congrArg some (by kernel_rfl))
 f245:=Tryz.func38.trans (congrArg some (by kernel_rfl))
 f246:=Tryz.func143.trans (congrArg some (by kernel_rfl))
 f247:=Tryz.func63.trans (congrArg some (by kernel_rfl))
 f279:=Tryz.func64.trans (congrArg some (by kernel_rfl))
 f280:=Tryz.func65.trans (congrArg some (by kernel_rfl))
 f281:=Tryz.func66.trans (congrArg some (by kernel_rfl))
 f282:=Tryz.func67.trans (congrArg some (by kernel_rfl))
 f283:=Tryz.func192.trans (congrArg some (by kernel_rfl))
 f284:=Tryz.func193.trans (congrArg some (by kernel_rfl))
 f285:=Tryz.func194.trans (congrArg some (by kernel_rfl))
 f286:=Tryz.func195.trans (congrArg some (by kernel_rfl))
 f287:=Tryz.func107.trans (congrArg some (by kernel_rfl))
 f316:=Tryz.func108.trans (congrArg some (by kernel_rfl))
 f317:=Tryz.func229.trans (congrArg some (by kernel_rfl))
 f318:=Tryz.func230.trans (congrArg some (by kernel_rfl))
 f319:=Tryz.func231.trans (congrArg some (by kernel_rfl))
 f320:=Tryz.func232.trans (congrArg some (by kernel_rfl))
 f321:=Tryz.func144.trans (congrArg some (by kernel_rfl))
 f322:=Tryz.func145.trans (congrArg some (by kernel_rfl))
 f337:=Tryz.func254.trans (congrArg some (by kernel_rfl))
 f338:=Tryz.func255.trans (congrArg some (by kernel_rfl))
 t0:=Tryz.underlying0
 a0:=Tryz.isAgg0
 z0:=Tryz.sizeOf0
 v0:=Tryz.zeroValue0
 t2:=Tryz.underlying2
 a2:=Tryz.isAgg2
 z2:=Tryz.sizeOf2
 v2:=Tryz.zeroValue2
 t3:=Tryz.underlying3
 a3:=Tryz.isAgg3
 z3:=Tryz.sizeOf3
 v3:=Tryz.zeroValue3
 t4:=Tryz.underlying4
 a4:=Tryz.isAgg4
 z4:=Tryz.sizeOf4
 v4:=Tryz.zeroValue4
 t5:=Tryz.underlying5
 a5:=Tryz.isAgg5
 z5:=Tryz.sizeOf5
 v5:=Tryz.zeroValue5
 t9:=Tryz.underlying9
 a9:=Tryz.isAgg9
 z9:=Tryz.sizeOf9
 v9:=Tryz.zeroValue9
 t20:=Tryz.underlying20
 a20:=Tryz.isAgg20
 z20:=Tryz.sizeOf20
 v20:=Tryz.zeroValue20
 t21:=Tryz.underlying21
 a21:=Tryz.isAgg21
 z21:=Tryz.sizeOf21
 v21:=Tryz.zeroValue21
 t37:=Tryz.underlying151
 a37:=Tryz.isAgg151
 z37:=Tryz.sizeOf151
 v37:=Tryz.zeroValue151
 t46:=Tryz.underlying193
 a46:=Tryz.isAgg193
 z46:=Tryz.sizeOf193
 v46:=Tryz.zeroValue193
 t51:=Tryz.underlying250
 a51:=Tryz.isAgg250
 z51:=Tryz.sizeOf250
 v51:=Tryz.zeroValue250
 t53:=Tryz.underlying190
 a53:=Tryz.isAgg190
 z53:=Tryz.sizeOf190
 v53:=Tryz.zeroValue190
 t75:=Tryz.underlying43
 a75:=Tryz.isAgg43
 z75:=Tryz.sizeOf43
 v75:=Tryz.zeroValue43
 t76:=Tryz.underlying44
 a76:=Tryz.isAgg44
 z76:=Tryz.sizeOf44
 v76:=Tryz.zeroValue44
 t85:=Tryz.underlying152
 a85:=Tryz.isAgg152
 z85:=Tryz.sizeOf152
 v85:=Tryz.zeroValue152
 t127:=Tryz.underlying231
 a127:=Tryz.isAgg231
 z127:=Tryz.sizeOf231
 v127:=Tryz.zeroValue231
 t143:=Tryz.underlying232
 a143:=Tryz.isAgg232
 z143:=Tryz.sizeOf232
 v143:=Tryz.zeroValue232
 t145:=Tryz.underlying234
 a145:=Tryz.isAgg234
 z145:=Tryz.sizeOf234
 v145:=Tryz.zeroValue234
 t167:=Tryz.underlying150
 a167:=Tryz.isAgg150
 z167:=Tryz.sizeOf150
 v167:=Tryz.zeroValue150
 t168:=Tryz.underlying154
 a168:=Tryz.isAgg154
 z168:=Tryz.sizeOf154
 v168:=Tryz.zeroValue154
 t171:=Tryz.underlying268
 a171:=Tryz.isAgg268
 z171:=Tryz.sizeOf268
 v171:=Tryz.zeroValue268
 t173:=Tryz.underlying270
 a173:=Tryz.isAgg270
 z173:=Tryz.sizeOf270
 v173:=Tryz.zeroValue270
 t175:=Tryz.underlying191
 a175:=Tryz.isAgg191
 z175:=Tryz.sizeOf191
 v175:=Tryz.zeroValue191
 t210:=Tryz.underlying196
 a210:=Tryz.isAgg196
 z210:=Tryz.sizeOf196
 v210:=Tryz.zeroValue196
 t212:=Tryz.underlying294
 a212:=Tryz.isAgg294
 z212:=Tryz.sizeOf294
 v212:=Tryz.zeroValue294
 t213:=Tryz.underlying295
 a213:=Tryz.isAgg295
 z213:=Tryz.sizeOf295
 t232:=Tryz.underlying329
 a232:=Tryz.isAgg329
 z232:=Tryz.sizeOf329
 v232:=Tryz.zeroValue329
 t233:=Tryz.underlying330
 a233:=Tryz.isAgg330
 z233:=Tryz.sizeOf330
 v233:=Tryz.zeroValue330
 g15:=by kernel_rfl
 g16:=by kernel_rfl
 g17:=by kernel_rfl
 g18:=by kernel_rfl
 g19:=by kernel_rfl
 t80:=Tryz.underlying344
 a80:=Tryz.isAgg344
 z80:=Tryz.sizeOf344
 v80:=Tryz.zeroValue344
 i0:=by kernel_rfl
 i2:=by kernel_rfl
 i3:=by kernel_rfl
 i4:=by kernel_rfl
 i5:=by kernel_rfl
 i9:=by kernel_rfl
 i20:=by kernel_rfl
 i21:=by kernel_rfl
 i37:=by kernel_rfl
 i46:=by kernel_rfl
 i51:=by kernel_rfl
 i53:=by kernel_rfl
 i75:=by kernel_rfl
 i76:=by kernel_rfl
 i80:=by kernel_rfl
 i85:=by kernel_rfl
 i127:=by kernel_rfl
 i143:=by kernel_rfl
 i145:=by kernel_rfl
 i167:=by kernel_rfl
 i168:=by kernel_rfl
 i171:=by kernel_rfl
 i173:=by kernel_rfl
 i175:=by kernel_rfl
 i210:=by kernel_rfl
 i212:=by kernel_rfl
 i232:=by kernel_rfl
 i233:=by kernel_rfl
 m15:=by kernel_rfl
 m16:=by kernel_rfl
 m17:=by kernel_rfl
 m18:=by kernel_rfl
 m19:=by kernel_rfl
 c0:=by kernel_rfl
 c2:=by kernel_rfl
 c3:=by kernel_rfl
 c4:=by kernel_rfl
 c5:=by kernel_rfl
 c9:=by kernel_rfl
 c20:=by kernel_rfl
 c21:=by kernel_rfl
 c37:=by kernel_rfl
 c46:=by kernel_rfl
 c51:=by kernel_rfl
 c53:=by kernel_rfl
 c75:=by kernel_rfl
 c76:=by kernel_rfl
 c80:=by kernel_rfl
 c85:=by kernel_rfl
 c127:=by kernel_rfl
 c143:=by kernel_rfl
 c145:=by kernel_rfl
 c167:=by kernel_rfl
 c168:=by kernel_rfl
 c171:=by kernel_rfl
 c173:=by kernel_rfl
 c175:=by kernel_rfl
 c210:=by kernel_rfl
 c212:=by kernel_rfl
 c213:=by kernel_rfl
 c232:=by kernel_rfl
 c233:=by kernel_rfl }
open Go.RowKit in
theorem Tryz.strconv_Atoi_ok (s:ByteArray)(hmax:s.size≤9223372036854775806)(v:Int)(h:Lib.atoiAll s.data.toList=.ok v)(w:World) :
  Calls Tryz.prog 9 #[.string s] w fun e w'=>e=.returned (.tuple #[.int .i64 v,.nilIface])∧(w'=w∨∃t,w'=Lib.bytesWorld w 5 t):=Any.strconv_Atoi_ok Tryz.laysC172 s hmax v h w
def Tryz.lays219_ren:Go.Shelf.Ren:=⟨fun|219=>282|217=>290|225=>288|224=>287|267=>291|266=>293|314=>294|n=>n,fun|9=>9|3=>3|4=>4|5=>5|46=>193|146=>342|51=>250|n=>n,fun|1=>7|n=>n⟩
theorem Tryz.lays219:Go.Proofs.Lays.n219 Tryz.prog Tryz.lays219_ren:={
 mixed:=by kernel_rfl
 f217:=Tryz.func290.trans (congrArg some (by kernel_rfl))
 f219:=Tryz.func282.trans (congrArg some (by kernel_rfl))
 f224:=Tryz.func287.trans (congrArg some (by kernel_rfl))
 f225:=Tryz.func288.trans (congrArg some (by kernel_rfl))
 f266:=Tryz.func293.trans (congrArg some (by kernel_rfl))
 f267:=Tryz.func291.trans (congrArg some (by kernel_rfl))
 f314:=Tryz.func294.trans (congrArg some (by kernel_rfl))
 t3:=Tryz.underlying3
 a3:=Tryz.isAgg3
 z3:=Tryz.sizeOf3
 v3:=Tryz.zeroValue3
 t4:=Tryz.underlying4
 a4:=Tryz.isAgg4
 z4:=Tryz.sizeOf4
 v4:=Tryz.zeroValue4
 t5:=Tryz.underlying5
 a5:=Tryz.isAgg5
 z5:=Tryz.sizeOf5
 v5:=Tryz.zeroValue5
 t9:=Tryz.underlying9
 a9:=Tryz.isAgg9
 z9:=Tryz.sizeOf9
 v9:=Tryz.zeroValue9
 t46:=Tryz.underlying193
 a46:=Tryz.isAgg193
 z46:=Tryz.sizeOf193
 v46:=Tryz.zeroValue193
 t51:=Tryz.underlying250
 a51:=Tryz.isAgg250
 z51:=Tryz.sizeOf250
 v51:=Tryz.zeroValue250
 t146:=Tryz.underlying342
 a146:=Tryz.isAgg342
 z146:=Tryz.sizeOf342
 v146:=Tryz.zeroValue342
 g1:=by kernel_rfl }
open Go.RowKit Go.Lib in
theorem Tryz.stringslite_Index_one (s:ByteArray)(c:UInt8)(w:World) :
  Calls Tryz.prog 282 #[.string s,.string ⟨#[c]⟩] w fun e w'=>e=.returned (.int .i64 (Lib.indexByte s.data.toList c))∧w'=w:=Any.stringslite_Index_one Tryz.lays219 s c w
def Tryz.lays315_ren:Go.Shelf.Ren:=⟨fun|315=>292|n=>n,fun|9=>9|40=>325|4=>4|3=>3|0=>0|21=>21|n=>n,fun|n=>n⟩
theorem Tryz.lays315:Go.Proofs.Lays.n315 Tryz.prog Tryz.lays315_ren:={
 mixed:=by kernel_rfl
 f315:=Tryz.func292.trans (congrArg some (by kernel_rfl))
 t0:=Tryz.underlying0
 a0:=Tryz.isAgg0
 z0:=Tryz.sizeOf0
 v0:=Tryz.zeroValue0
 t3:=Tryz.underlying3
 a3:=Tryz.isAgg3
 z3:=Tryz.sizeOf3
 v3:=Tryz.zeroValue3
 t4:=Tryz.underlying4
 a4:=Tryz.isAgg4
 z4:=Tryz.sizeOf4
 v4:=Tryz.zeroValue4
 t9:=Tryz.underlying9
 a9:=Tryz.isAgg9
 z9:=Tryz.sizeOf9
 v9:=Tryz.zeroValue9
 t21:=Tryz.underlying21
 a21:=Tryz.isAgg21
 z21:=Tryz.sizeOf21
 v21:=Tryz.zeroValue21
 t40:=Tryz.underlying325
 a40:=Tryz.isAgg325
 z40:=Tryz.sizeOf325
 v40:=Tryz.zeroValue325 }
open Go.RowKit Go.Lib in
theorem Tryz.strings_indexFunc (g:Nat)(lb:Array Value)(eg:∀args w,(callFunc g args).run Tryz.prog w=.ok (.enter g args) w)(p:Nat→Bool)(truth:Bool)(s:ByteArray)(w:World)(hp:PredAt Tryz.prog g lb encR p w) :
  Calls Tryz.prog 292 #[.string s,.func (.func g) #[] lb,.bool truth] w fun e w'=>e=.returned (.int .i64 (Lib.idxFunc p truth s))∧Below w.heap.size w w':=Any.strings_indexFunc Tryz.lays315 g lb eg p truth s w hp
def Tryz.lays227_ren:Go.Shelf.Ren:=⟨fun|227=>235|n=>n,fun|9=>9|116=>298|4=>4|0=>0|3=>3|5=>5|n=>n,fun|n=>n⟩
theorem Tryz.lays227:Go.Proofs.Lays.n227 Tryz.prog Tryz.lays227_ren:={
 mixed:=by kernel_rfl
 f227:=Tryz.func235.trans (congrArg some (by kernel_rfl))
 t0:=Tryz.underlying0
 a0:=Tryz.isAgg0
 z0:=Tryz.sizeOf0
 v0:=Tryz.zeroValue0
 t3:=Tryz.underlying3
 a3:=Tryz.isAgg3
 z3:=Tryz.sizeOf3
 v3:=Tryz.zeroValue3
 t4:=Tryz.underlying4
 a4:=Tryz.isAgg4
 z4:=Tryz.sizeOf4
 v4:=Tryz.zeroValue4
 t5:=Tryz.underlying5
 a5:=Tryz.isAgg5
 z5:=Tryz.sizeOf5
 v5:=Tryz.zeroValue5
 t9:=Tryz.underlying9
 a9:=Tryz.isAgg9
 z9:=Tryz.sizeOf9
 v9:=Tryz.zeroValue9
 t116:=Tryz.underlying298
 a116:=Tryz.isAgg298
 z116:=Tryz.sizeOf298 }
open Go.RowKit Go.Lib in
theorem Tryz.strings_makeASCIISet (hv116:∀w,(zeroValue 298).run Tryz.prog w=.ok (.agg (Array.replicate 256 (.bool false))) w)(chars:ByteArray)(w:World)(hs:chars.size<4294967281)(hascii:∀(j:Nat) b,chars.data.toList[j]?=some b→b.toNat<128) :
  Calls Tryz.prog 235 #[.string chars] w fun e w'=>e=.returned (.tuple #[.agg (Lib.setCells chars.data.toList),.bool true])∧w'=w.alloc (.cells (Lib.setCells chars.data.toList) 298):=Any.strings_makeASCIISet Tryz.lays227 hv116 (by kernel_rfl) chars w hs hascii
end Go.Proofs

namespace Go.Proofs.YtakiodkbjgdnoaaGreatDoor
open Go.Sha Go.RowKit
set_option maxRecDepth 100000
variable {g:List (Nat×Obj)}{n:Nat}
def othR (r:Nat):Bool:=decide (r<48)||decide (57<r)
def setV:List V:=(List.range 256).map fun n=>.bool (nmW.contains n.toUInt8)
def q282:List V→Option VRes
 |[.str s,.str [c]]=>some (.ret (.int .i64 (Lib.indexByte s c)))
 |_=>none
def q235:List V→Option VRes
 |[.str t]=>if t=nmW then some (.ret (.tup [.agg setV,.bool true])) else none
 |_=>none
def q292:List V→Option VRes
 |[.str s,.fn (.func 266) [] [],.bool true]=>some (.ret (.int .i64 (Lib.idxFunc othR true ⟨s.toArray⟩)))
 |_=>none
def HL0:EvF:=⟨[],fun f args st=>(bif Nat.beq f 282 then q282 args else bif Nat.beq f 235 then q235 args else bif Nat.beq f 292 then q292 args else none).map fun r=>(r,st)⟩
@[push_cast]theorem HL0_raw:HL0.raw=[]:=idq rfl
theorem k282 {s:List UInt8}{c:UInt8}{st:St}:run Tryz.prog HL0 282 [.str s,.str [c]] st=some (.ret (.int .i64 (Lib.indexByte s c)),st):=run_H rfl
theorem k235 {st:St}:run Tryz.prog HL0 235 [.str nmW] st=some (.ret (.tup [.agg setV,.bool true]),st):=run_H rfl
theorem k292 {s:List UInt8}{st:St}:run Tryz.prog HL0 292 [.str s,.fn (.func 266) [] [],.bool true] st=some (.ret (.int .i64 (Lib.idxFunc othR true ⟨s.toArray⟩)),st):=run_H rfl
theorem idx_tw {c:UInt8}:∀{s:List UInt8},Lib.indexByte s c=if s.contains c=true then((s.takeWhile (· != c)).length:Int) else -1
 |[]=>rfl
 |b::s=>by
  have ih:=idx_tw (c:=c) (s:=s)
  rw[Lib.indexByte,ih]
  by_cases h:b=c
  ·subst h;simp
  ·have h2:(b == c)=false:=by simpa using h
   have h3:(b != c)=true:=by simpa using h
   rw[h2,List.takeWhile_cons,if_pos h3,List.contains_cons,show(c == b)=false by simpa using fun e=>h e.symm,Bool.false_or,List.length_cons]
   cases s.contains c
   ·rfl
   ·simp only[if_true]
    rw[if_neg (by simp),if_neg (by simp)];omega
theorem drop_tw {p:UInt8→Bool}{s:List UInt8}:s.drop ((s.takeWhile p).length+1)=(s.dropWhile p).drop 1:=by rw[←List.drop_drop,drop_w]
theorem tw_none {c:UInt8}:∀{s:List UInt8},s.contains c=false→s.takeWhile (· != c)=s∧s.dropWhile (· != c)=[]
 |[],_=>⟨rfl,rfl⟩
 |b::r,h=>by
  have hb:(b != c)=true:=by simp at h ⊢;exact fun e=>h.1 e.symm
  have hr:r.contains c=false:=by simp at h ⊢;exact h.2
  have:=tw_none hr
  simp only[List.takeWhile_cons,List.dropWhile_cons,hb,if_true]
  exact⟨by rw[this.1],this.2⟩
theorem k264 {s:List UInt8}{c:UInt8}(hl:s.length<140737488355328){st:St}:run Tryz.prog HL0 264 [.str s,.str [c]] st=some (.ret (.tup [.str (s.takeWhile (· != c)),.str ((s.dropWhile (· != c)).drop 1),.bool (s.contains c)]),st):=by
 have hi:=idx_tw (c:=c) (s:=s)
 have hle:=(List.takeWhile_sublist (· != c) (l:=s)).length_le
 rw[run_shut F264 rfl rfl rfl]
 cases h:s.contains c with
 |true =>
  have hlt:(s.takeWhile (· != c)).length<s.length:=by
   rcases Nat.lt_or_ge (s.takeWhile (· != c)).length s.length with h2|h2
   ·exact h2
   ·have e:s.takeWhile (· != c)=s:=(List.takeWhile_sublist _).eq_of_length (by omega)
    have:=List.all_takeWhile (p:=(· != c)) (l:=s)
    rw[e,List.all_eq_true]at this
    have:=this c (by simpa using h)
    simp at this
  rw[h,if_pos rfl]at hi
  have hd:=drop_tw (p:=(· != c)) (s:=s)
  have ht:=take_w (p:=(· != c)) (s:=s)
  generalize s.takeWhile (· != c)=a at *
  have hw:IntKind.i64.wrap ((a.length:Int)+1)=((a.length+1:Nat):Int):=iwrap (by omega) (by omega)
  push_cast[k282,hi,hw,ht]
  exact dn_eq (by omega) (by rw[List.take_length,show((a.length:Int)+1).toNat=a.length+1 by omega,hd])
 |false =>
  rw[h,if_neg (by simp)]at hi
  obtain⟨e1,e2⟩:=tw_none h
  rw[e1,e2]
  push_cast[k282,hi]
theorem k244 {s:List UInt8}{c:UInt8}(hl:s.length<140737488355328){st:St}:run Tryz.prog HL0 244 [.str s,.str [c]] st=some (.ret (.tup [.str (s.takeWhile (· != c)),.str ((s.dropWhile (· != c)).drop 1),.bool (s.contains c)]),st):=by
 have h:=fun(st:St)=>k264 (c:=c) (st:=st) hl
 rw[run_shut F244 rfl rfl rfl]
 push_cast[h]
theorem k248 {s t:List UInt8}(hl:s.length<140737488355328)(ht:t.length≤s.length+1000){st:St}:run Tryz.prog HL0 248 [.str s,.str t] st=some (.ret (.bool (t.isSuffixOf s)),st):=by
 have h:∀st,run Tryz.prog HL0 267 [.str s,.str t] st=some (.ret (.bool (t.isSuffixOf s)),st):=fun st=>by
  rw[run_shut F267 rfl rfl rfl]
  by_cases h:t.length≤s.length
  ·have h1:(t.length:Int)≤s.length:=by omega
   have hw:IntKind.i64.wrap ((s.length:Int)-t.length)=((s.length-t.length:Nat):Int):=by rw[iwrap (by omega) (by omega)];omega
   have e:t.isSuffixOf s=(s.drop (s.length-t.length) == t):=by
    rw[Bool.eq_iff_iff,List.isSuffixOf_iff_suffix,List.suffix_iff_eq_drop,beq_iff_eq]
    exact⟨fun h=>h.symm,fun h=>h.symm⟩
   have h2:((s.length-t.length:Nat):Int)≤s.length:=by omega
   generalize s.length-t.length=k at *
   push_cast[h1,hw,h2,List.take_length,e]
  ·have h1:¬(t.length:Int)≤s.length:=by omega
   have e:t.isSuffixOf s=false:=by
    rw[←Bool.not_eq_true,List.isSuffixOf_iff_suffix]
    exact fun h2=>h h2.length_le
   push_cast[h1,e]
 rw[run_shut F248 rfl rfl rfl]
 push_cast[h]
theorem oth_from (s:ByteArray):∀(f pos:Nat),s.size≤pos+f→(decide (Lib.idxFuncFrom othR true s f pos<0))=(s.data.toList.drop pos).all isD
 |0,pos,h=>by
  rw[List.drop_eq_nil_of_le (by rw[Array.length_toList];exact h)];rfl
 |f+1,pos,h=>by
  unfold Lib.idxFuncFrom
  by_cases hp:pos<s.size
  ·have hp':pos<s.data.toList.length:=by rw[Array.length_toList];exact hp
   have hb:s.data.toList[pos]'hp'=s[pos]'hp:=rfl
   rw[if_pos hp,List.drop_eq_getElem_cons hp',List.all_cons,hb]
   by_cases ha:(s[pos]'hp).toNat<128
   ·rw[decode_ascii s pos hp ha]
    have ih:=oth_from s f (pos+1) (by omega)
    cases hd:isD (s[pos]'hp) with
    |true =>
     have:¬othR (s[pos]'hp).toNat=true:=by
      simp only[isD,Bool.and_eq_true,decide_eq_true_eq]at hd
      simp only[othR,Bool.or_eq_true,decide_eq_true_eq];omega
     rw[if_neg this,ih];rfl
    |false =>
     have:othR (s[pos]'hp).toNat=true:=by
      simp only[isD,Bool.and_eq_false_iff,decide_eq_false_iff_not]at hd
      simp only[othR,Bool.or_eq_true,decide_eq_true_eq];omega
     rw[if_pos this]
     simp
   ·obtain⟨h1,h2⟩:=decode_high s pos hp (by omega)
    have:othR (Utf8.decode s pos).1=true:=by
     simp only[othR,Bool.or_eq_true,decide_eq_true_eq];omega
    have hd:isD (s[pos]'hp)=false:=by
     simp only[isD,Bool.and_eq_false_iff,decide_eq_false_iff_not];omega
    rw[if_pos this,hd]
    simp
  ·rw[if_neg hp,List.drop_eq_nil_of_le (by rw[Array.length_toList];exact Nat.le_of_not_lt hp)];rfl
theorem oth_idx (s:List UInt8):decide (Lib.idxFunc othR true ⟨s.toArray⟩<0)=s.all isD:=by
 have:=oth_from ⟨s.toArray⟩ s.length 0 (by simp[ByteArray.size])
 simpa [Lib.idxFunc,ByteArray.size] using this
theorem k265 {s:List UInt8}{st:St}:run Tryz.prog HL0 265 [.str s,.fn (.func 266) [] []] st=some (.ret (.bool (s.any (!isD ·))),st):=by
 have h:∀st,run Tryz.prog HL0 283 [.str s,.fn (.func 266) [] []] st=some (.ret (.int .i64 (Lib.idxFunc othR true ⟨s.toArray⟩)),st):=fun st=>by
  rw[run_shut F283 rfl rfl rfl]
  push_cast[k292]
 have e:decide (0≤Lib.idxFunc othR true ⟨s.toArray⟩)=s.any (!isD ·):=by
  have:=oth_idx s
  have h2:decide (0≤Lib.idxFunc othR true ⟨s.toArray⟩)=!(decide (Lib.idxFunc othR true ⟨s.toArray⟩<0)):=by
   rw[Bool.eq_iff_iff];simp
  rw[h2,this,List.not_all_eq_any_not]
 rw[run_shut F265 rfl rfl rfl]
 push_cast[h,e]
theorem setV_len:setV.length=256:=by simp[setV]
theorem setV_bd:V.bdL n setV=true:=by
 have:=bdL_map' (n:=n) (f:=fun k:Nat=>V.bool (nmW.contains k.toUInt8)) (l:=List.range 256)
 rw[setV,this];simp[V.bd]
theorem setV_get (b:UInt8):setV[b.toNat]?=some (.bool (nmW.contains b)):=by
 rw[setV,List.getElem?_map,List.getElem?_range b.toNat_lt];simp
theorem k256 {b:UInt8}{st:St}:run Tryz.prog HL0 256 [.ep (.agg setV) 0,.int .u8 b.toNat] st=some (.ret (.bool (nmW.contains b)),st):=by
 have hb:=b.toNat_lt
 have hg:=setV_get b
 have hl:=setV_len
 have hd:=fun n=>setV_bd (n:=n)
 rw[run_shut F256 rfl rfl (by simp[V.bdL,V.bd,hd])]
 generalize nmW.contains b=c at *
 generalize setV=z at *
 push_cast[hb,hg,hl,hd,Nat.mul_one]
 all_goals exact dn_eq hb rfl
theorem L236:∀{t:List UInt8},t.length<140737488355328→runL Tryz.prog HL0 [0,1] n B236_0 [(0,.str t),(1,.ep (.agg setV) 0)] (stN g n)=some (.exit 0,[(0,.str (t.dropWhile nmW.contains))],stN g n)
 |[],_=>by
  have hd:=fun n=>setV_bd (n:=n)
  rw[runL_of B236_0.eq_1]
  generalize setV=z at *
  push_cast[List.length_nil,List.dropWhile_nil,hd]
 |b::t,hl=>by
  rw[List.length_cons]at hl
  have ih:=L236 (t:=t) (by omega)
  have hd:=fun n=>setV_bd (n:=n)
  have h270:=fun st=>k256 (b:=b) (st:=st)
  rw[runL_of B236_0.eq_1,List.dropWhile_cons]
  generalize nmW.contains b=c at *
  generalize setV=z at *
  have h1:(0:Int)<t.length+1:=by omega
  cases c
  ·push_cast[List.length_cons,hd,h1,h270,List.getD_cons_zero]
  ·push_cast[List.length_cons,hd,h1,h270,List.getD_cons_zero,List.take_length,List.drop_one,List.tail_cons]at ih ⊢
   exact dn_eq (by omega) ih
theorem f236 {t:List UInt8}(hl:t.length<140737488355328){st:St}:run Tryz.prog HL0 236 [.str t,.ep (.agg setV) 0] st=some (.ret (.str (t.dropWhile nmW.contains)),st):=by
 have hd:=fun n=>setV_bd (n:=n)
 have h0:=fun n=>L236 (g:=st.x.gl) (n:=n) hl
 rw[run_shut F236 rfl rfl (by simp[V.bdL,V.bd,hd])]
 generalize setV=z at *
 push_cast at h0
 push_cast[hd,h0]
theorem L237:∀(k:Nat) {t:List UInt8},t.length=k→t.length<140737488355328→runL Tryz.prog HL0 [0,1] n B237_0 [(0,.str t),(1,.ep (.agg setV) 0)] (stN g n)=some (.exit 0,[(0,.str (t.reverse.dropWhile nmW.contains).reverse)],stN g n):=by
 intro k
 induction k with
 |zero =>
  intro t ht hl
  obtain rfl:=List.eq_nil_of_length_eq_zero ht
  have hd:=fun n=>setV_bd (n:=n)
  rw[runL_of B237_0.eq_1]
  generalize setV=z at *
  push_cast[List.length_nil,List.dropWhile_nil,List.reverse_nil,hd]
 |succ k ih =>
  intro t ht hl
  rcases List.eq_nil_or_concat t with rfl|⟨t',b,rfl⟩
  ·simp at ht
  ·rw[List.concat_eq_append]at *
   rw[List.length_append,List.length_singleton]at ht hl
   have ih:=ih (t:=t') (by omega) (by omega)
   have hd:=fun n=>setV_bd (n:=n)
   have h270:=fun st=>k256 (b:=b) (st:=st)
   have hw:IntKind.i64.wrap ((t'.length:Int)+1-1)=((t'.length:Nat):Int):=by rw[iwrap (by omega) (by omega)];omega
   have h1:(0:Int)<t'.length+1:=by omega
   have h2:(t'.length:Int)<t'.length+1:=by omega
   have h3:(t'.length:Int)≤t'.length+1:=by omega
   have h4:List.take t'.length (t'++[b])=t':=List.take_left
   rw[runL_of B237_0.eq_1,List.reverse_append,List.reverse_singleton,List.singleton_append,List.dropWhile_cons]
   generalize nmW.contains b=c at *
   generalize setV=z at *
   cases c
   ·push_cast[List.length_append,List.length_singleton,hd,h1,h2,h3,hw,h270,getD_app,List.reverse_cons,List.reverse_reverse]
   ·push_cast[List.length_append,List.length_singleton,hd,h1,h2,h3,h4,hw,h270,getD_app]at ih ⊢
    exact ih
theorem f237 {t:List UInt8}(hl:t.length<140737488355328){st:St}:run Tryz.prog HL0 237 [.str t,.ep (.agg setV) 0] st=some (.ret (.str (t.reverse.dropWhile nmW.contains).reverse),st):=by
 have hd:=fun n=>setV_bd (n:=n)
 have h0:=fun n=>L237 (g:=st.x.gl) (n:=n) _ rfl hl
 rw[run_shut F237 rfl rfl (by simp[V.bdL,V.bd,hd])]
 generalize setV=z at *
 push_cast at h0
 push_cast[hd,h0]
theorem trim_swap {p:UInt8→Bool}:∀{s:List UInt8},((s.reverse.dropWhile p).reverse).dropWhile p=((s.dropWhile p).reverse.dropWhile p).reverse
 |[]=>rfl
 |b::r=>by
  have ih:=trim_swap (p:=p) (s:=r)
  cases hb:p b with
  |true =>
   have e1:(b::r).dropWhile p=r.dropWhile p:=by simp[hb]
   rw[e1,←ih,List.reverse_cons,List.dropWhile_append]
   cases hx:r.reverse.dropWhile p with
   |nil=>simp[hb]
   |cons y l=>simp[hb,List.dropWhile_cons]
  |false =>
   have e1:(b::r).dropWhile p=b::r:=by simp[hb]
   rw[e1,List.reverse_cons,List.dropWhile_append]
   cases hx:r.reverse.dropWhile p with
   |nil=>simp[hb]
   |cons y l=>simp[hb,List.dropWhile_cons]
theorem k198 {s:List UInt8}(hl:s.length≤24){st:St}:run Tryz.prog HL0 198 [.str s,.str nmW] st=some (.ret (.str (trimB nmW s)),st):=by
 have hd:=fun n=>setV_bd (n:=n)
 have hz:=setV_len
 have h249:=fun st=>k235 (st:=st)
 have h251:=fun st=>f237 (t:=s) (st:=st) (by omega)
 have hle:=(List.dropWhile_sublist nmW.contains (l:=s.reverse)).length_le
 have h250:=fun st=>f236 (t:=(s.reverse.dropWhile nmW.contains).reverse) (st:=st) (by simp at hle ⊢;omega)
 rw[trim_swap]at h250
 rw[run_shut F198 rfl rfl rfl,trimB]
 generalize setV=z at *
 by_cases h0:s=[]
 ·subst h0
  push_cast[List.dropWhile_nil,List.reverse_nil]
 ·push_cast[h0,h249,h250,h251,hd,hz,List.length_replicate,List.drop_replicate,Nat.sub_self,List.replicate_zero,List.append_nil]
theorem callable282:Callable Tryz.prog 282:=⟨_,Tryz.func282,by kernel_rfl,by kernel_rfl⟩
theorem callable235:Callable Tryz.prog 235:=⟨_,Tryz.func235,by kernel_rfl,by kernel_rfl⟩
theorem callable292:Callable Tryz.prog 292:=⟨_,Tryz.func292,by kernel_rfl,by kernel_rfl⟩
theorem callable9:Callable Tryz.prog 9:=⟨_,Tryz.func9,by kernel_rfl,by kernel_rfl⟩
theorem v282 (s:List UInt8)(c:UInt8)(st:St):VRet Tryz.prog 282 [.str s,.str [c]] st (.int .i64 (Lib.indexByte s c)) st:=by
 refine VRet_of_below callable282 (fun w A vs hw ha=>?_)
 obtain⟨hl,ha⟩:=ha
 match vs,hl with
 |[u,v],_ =>
 have e1:=(ha 0 u _ rfl rfl).str_inv
 have e2:=(ha 1 v _ rfl rfl).str_inv
 subst e1;subst e2
 refine(Tryz.stringslite_Index_one ⟨s.toArray⟩ c w).mono fun e w' ⟨he,hb⟩=>?_
 subst he;subst hb
 exact⟨_,rfl,fun w' A'=>.int _ _,Below.refl _ _⟩
theorem nm_ascii:∀b∈nmW,b.toNat<128:=by decide
theorem v235 (st:St):VRet Tryz.prog 235 [.str nmW] st (.tup [.agg setV,.bool true]) st:=by
 refine VRet_of_below callable235 (fun w A vs hw ha=>?_)
 obtain⟨u,rfl,h1⟩:=ha.one
 have e1:=h1.str_inv
 subst e1
 refine(Tryz.strings_makeASCIISet Tryz.zeroValue298 ⟨nmW.toArray⟩ w (by decide) (fun j b hj=>nm_ascii b (List.mem_of_getElem? hj))).mono fun e w' ⟨he,hb⟩=>?_
 subst he;subst hb
 refine⟨_,rfl,fun w' A'=>?_,Below.alloc (Below.refl _ _) (Nat.le_refl _) _⟩
 have hcell:∀(i:Nat) (v:Value) (c:V),(Lib.setCells nmW).toList[i]?=some v→setV[i]?=some c→Rep w' A' v c∧v.oneCell'=true:=fun i v c hv hc=>by
  have hi:i<256:=by have:=(List.getElem?_eq_some_iff.1 hc).1;rw[setV_len]at this;exact this
  have e2:i.toUInt8.toNat=i:=by simp[Nat.toUInt8,UInt8.toNat_ofNat',Nat.mod_eq_of_lt hi]
  have g1:=Lib.setCells_at nmW i.toUInt8
  have g2:=setV_get i.toUInt8
  rw[e2]at g1 g2
  rw[Array.getElem?_toList,g1]at hv
  rw[g2]at hc
  cases hv;cases hc
  exact⟨.bool _,rfl⟩
 refine .tup [.agg (Lib.setCells nmW),.bool true] [.agg setV,.bool true] rfl (fun i v c h1 h2=>?_)
 match i,h1,h2 with
 |0,h1,h2 =>
  simp at h1 h2;subst h1 h2
  have:=Rep.agg (w:=w') (A:=A') (Lib.setCells nmW).toList setV (by rw[Array.length_toList,Lib.setCells_size,setV_len]) (fun v hv=>by
   obtain⟨i,hi⟩:=List.mem_iff_getElem?.1 hv
   have hlt:i<setV.length:=by rw[setV_len];have:=(List.getElem?_eq_some_iff.1 hi).1;rw[Array.length_toList,Lib.setCells_size]at this;exact this
   exact(hcell i v setV[i] hi (List.getElem?_eq_getElem hlt)).2) (fun i v c hv hc=>(hcell i v c hv hc).1)
  rwa [Array.toArray_toList]at this
 |1,h1,h2=>simp at h1 h2;subst h1 h2;exact .bool _
theorem pred280 (w:World):PredAt Tryz.prog 266 #[] encR othR w:=fun W r _=>by
 unfold FnGives
 by_cases h1:r<48<;>by_cases h2:57<r
 all_goals
  have z1:(r:Int)<48↔r<48:=by omega
  have z2:(57:Int)<(r:Int)↔57<r:=by omega
  go_enter Tryz.func266,Tryz.ntmps266
  go_wp2
  all_goals first|(exfalso;omega)|(go_ret;exact⟨by simp[othR,h1,h2],0,rfl⟩)
theorem v292 (s:List UInt8)(st:St):VRet Tryz.prog 292 [.str s,.fn (.func 266) [] [],.bool true] st (.int .i64 (Lib.idxFunc othR true ⟨s.toArray⟩)) st:=by
 refine VRet_of_below callable292 (fun w A vs hw ha=>?_)
 obtain⟨hl,ha⟩:=ha
 match vs,hl with
 |[v0,v1,v2],_ =>
 have e0:=(ha 0 v0 _ rfl rfl).str_inv
 have r1:=ha 1 v1 _ rfl rfl
 have e2:=(ha 2 v2 _ rfl rfl).bool_inv
 have e1:v1=.func (.func 266) #[] #[]:=by
  cases r1 with
  |fn _ vs us _ _ e1 e2 _ _ =>
   have h1:vs=[]:=List.eq_nil_of_length_eq_zero e1
   have h2:us=[]:=List.eq_nil_of_length_eq_zero e2
   rw[h1,h2]
 subst e0;subst e1;subst e2
 refine(Tryz.strings_indexFunc 266 #[] (enters_of Tryz.func266 (by kernel_rfl) rfl) othR true ⟨s.toArray⟩ w (pred280 w)).mono fun e w' ⟨he,hb⟩=>?_
 subst he
 exact⟨_,rfl,fun w' A'=>.int _ _,hb⟩
theorem HL0_ok:ESound Tryz.prog HL0:=fun f args st r s h=>by
 obtain⟨z,hz,e⟩:=Option.map_eq_some_iff.1 h
 cases e
 by_cases h1:f=282
 ·subst h1
  rw[show Nat.beq 282 282=true from rfl,cond_true]at hz
  unfold q282 at hz
  split at hz<;>cases hz
  exact v282 _ _ _
 rw[show Nat.beq f 282=false from Bool.eq_false_iff.2 fun e=>h1 (Nat.eq_of_beq_eq_true e),cond_false]at hz
 by_cases h2:f=235
 ·subst h2
  rw[show Nat.beq 235 235=true from rfl,cond_true]at hz
  unfold q235 at hz
  split at hz
  ·split at hz
   ·rename_i e;subst e;cases hz;exact v235 _
   ·cases hz
  ·cases hz
 rw[show Nat.beq f 235=false from Bool.eq_false_iff.2 fun e=>h2 (Nat.eq_of_beq_eq_true e),cond_false]at hz
 by_cases h3:f=292
 ·subst h3
  rw[show Nat.beq 292 292=true from rfl,cond_true]at hz
  unfold q292 at hz
  split at hz<;>cases hz
  exact v292 _ _
 rw[show Nat.beq f 292=false from Bool.eq_false_iff.2 fun e=>h3 (Nat.eq_of_beq_eq_true e),cond_false]at hz
 cases hz
end Go.Proofs.YtakiodkbjgdnoaaGreatDoor

namespace Go.Proofs.YtakiodkbjgdnoaaGreatDoor
open Go.Sha Go.RowKit
set_option maxRecDepth 100000
theorem parse_digs:∀(s:List UInt8) (acc:Nat),s.all isD=true→acc<18446744073709551616→Lib.parseUint10 acc s=if s.foldl (fun n b=>10*n+(b.toNat-48)) acc<18446744073709551616 then .ok (s.foldl (fun n b=>10*n+(b.toNat-48)) acc) else .range
 |[],acc,_,h=>by simp[Lib.parseUint10,h]
 |b::s,acc,h,ha=>by
  have mono:∀(s:List UInt8) (n:Nat),n≤s.foldl (fun n b=>10*n+(b.toNat-48)) n:=by
   intro s
   induction s with
   |nil=>intro n;exact Nat.le_refl _
   |cons c s ih=>intro n;rw[List.foldl_cons];refine Nat.le_trans ?_ (ih _);omega
  simp only[List.all_cons,Bool.and_eq_true]at h
  obtain⟨hb,hs⟩:=h
  have hb':48≤b.toNat∧b.toNat≤57:=by
   simp only[isD,Bool.and_eq_true,decide_eq_true_eq]at hb;omega
  rw[Lib.parseUint10,if_pos hb',List.foldl_cons]
  have hm:=mono s (10*acc+(b.toNat-48))
  by_cases h1:1844674407370955162≤acc
  ·rw[if_pos h1,if_neg (by omega)]
  ·rw[if_neg h1]
   by_cases h2:18446744073709551616≤acc*10+(b.toNat-48)
   ·rw[if_pos h2,if_neg (by omega)]
   ·rw[if_neg h2,parse_digs s _ hs (by omega),Nat.mul_comm]
theorem atoi_digs {s:List UInt8}(h0:s≠[])(h:s.all isD=true):Lib.atoiAll s=if natOf s<9223372036854775808 then .ok (natOf s:Int) else .range:=by
 cases s with
 |nil=>exact absurd rfl h0
 |cons b s =>
  have hb:isD b=true:=by simp only[List.all_cons,Bool.and_eq_true]at h;exact h.1
  have hb':48≤b.toNat∧b.toNat≤57:=by
   simp only[isD,Bool.and_eq_true,decide_eq_true_eq]at hb;omega
  rw[Lib.atoiAll_plain b s (by omega) (by omega),Lib.parseMag,if_neg (by simp),parse_digs (b::s) 0 h (by omega)]
  show Lib.signless (if natOf (b::s)<18446744073709551616 then .ok (natOf (b::s)) else .range)=_
  by_cases h1:natOf (b::s)<18446744073709551616
  ·rw[if_pos h1]
   unfold Lib.signless
   by_cases h2:natOf (b::s)<9223372036854775808
   ·rw[if_pos h2];simp only;rw[if_neg (by omega)]
   ·rw[if_neg h2];simp only;rw[if_pos (by omega)]
  ·rw[if_neg h1,if_neg (by omega)];rfl
theorem natOf_lt:∀{s:List UInt8}{n:Nat},s.all isD=true→s.foldl (fun n b=>10*n+(b.toNat-48)) n<(n+1)*10 ^ s.length
 |[],n,_=>by simp
 |b::s,n,h=>by
  simp only[List.all_cons,Bool.and_eq_true]at h
  have hb:b.toNat≤57:=by have:=h.1;simp only[isD,Bool.and_eq_true,decide_eq_true_eq]at this;omega
  have ih:=natOf_lt (s:=s) (n:=10*n+(b.toNat-48)) h.2
  rw[List.foldl_cons,List.length_cons,Nat.pow_succ]
  refine Nat.lt_of_lt_of_le ih ?_
  rw[show(n+1)*(10 ^ s.length*10)=((n+1)*10)*10 ^ s.length by rw[Nat.mul_comm (10 ^ s.length),Nat.mul_assoc]]
  exact Nat.mul_le_mul_right _ (by omega)
theorem v9 (s:List UInt8)(st:St)(h0:s≠[])(h:s.all isD=true)(hl:s.length≤18):VRet Tryz.prog 9 [.str s] st (.tup [.int .i64 (natOf s),.nili]) st:=by
 have hn:natOf s<9223372036854775808:=by
  have h1:=natOf_lt (n:=0) h
  have h2:10 ^ s.length≤10 ^ 18:=Nat.pow_le_pow_right (by omega) hl
  unfold natOf;omega
 refine VRet_of_below callable9 (fun w A vs hw ha=>?_)
 obtain⟨u,rfl,h1⟩:=ha.one
 have e1:=h1.str_inv
 subst e1
 have hat:=atoi_digs h0 h
 rw[if_pos hn]at hat
 refine(Tryz.strconv_Atoi_ok ⟨s.toArray⟩ (by simp[ByteArray.size];omega) (natOf s:Int) (by simpa using hat) w).mono fun e w' ⟨he,hb⟩=>?_
 subst he
 refine⟨_,rfl,fun w' A'=>?_,?_⟩
 ·refine .tup [.int .i64 (natOf s),.nilIface] [.int .i64 (natOf s),.nili] rfl (fun i v c h1 h2=>?_)
  match i,h1,h2 with
  |0,h1,h2=>simp at h1 h2;subst h1 h2;exact .int _ _
  |1,h1,h2=>simp at h1 h2;subst h1 h2;exact .nili
 ·rcases hb with rfl|⟨t,rfl⟩
  ·exact Below.refl _ _
  ·exact Lib.bytesWorld_below w 5 t
end Go.Proofs.YtakiodkbjgdnoaaGreatDoor

namespace Go.Proofs.YtakiodkbjgdnoaaGreatDoor
open Go.Sha Go.RowKit
open Go.Lib (below_grow)
set_option maxRecDepth 100000
variable {g:List (Nat×Obj)}{n:Nat}
theorem intsB_eq {k:IntKind}:∀{zs:List Int}{vs:List Value},intsB k zs vs=true→vs=zs.map fun z=>Value.int k z
 |[],[],_=>rfl
 |[],_::_,h=>by cases h
 |z::zs,v::vs,h=>by
  unfold intsB at h
  split at h
  ·rename_i h1 h2;cases h1
  ·rename_i z' zs' j n' r h1 h2
   cases h1;cases h2
   simp only[Bool.and_eq_true,decide_eq_true_eq]at h
   obtain⟨⟨h3,h4⟩,h5⟩:=h
   subst h3;subst h4
   rw[intsB_eq h5];rfl
  ·cases h
 |z::zs,[],h=>by unfold intsB at h;cases h
theorem tab_at {gl:List (Nat×Obj)}{v:Nat}{k:IntKind}{zs:List Int}(h:gl.any (tabB v k zs)=true):∃T fz,(v,Obj.cells (zs.map fun z=>Value.int k z).toArray T fz)∈gl:=by
 obtain⟨p,hp,hh⟩:=List.any_eq_true.1 h
 obtain⟨i,o⟩:=p
 simp only[tabB,Bool.and_eq_true,decide_eq_true_eq]at hh
 obtain⟨hi,hh⟩:=hh
 subst hi
 split at hh
 ·rename_i cs T fz
  have:=intsB_eq hh
  refine⟨T,fz,?_⟩
  rw[←this]
  exact hp
 ·cases hh
theorem tab_is {w:World}{A:Abs}{st:St}(hw:Sim w A st){v:Nat}{name:String}{k:IntKind}{zs:List Int}(hn:Tryz.prog.globalNamed name=some v)(h:st.x.gl.any (tabB v k zs)=true):Lib.TabIs Tryz.prog w name k zs:=by
 obtain⟨T,fz,hm⟩:=tab_at h
 have:=(hw.x.gl _ hm).1
 simp only[Lib.TabIs,World.var?,hn,Option.bind_some,this]
theorem callable62:Callable Tryz.prog 62:=⟨_,Tryz.func62,by kernel_rfl,by kernel_rfl⟩
theorem v62 {n:Int}(h0:-9223372036854775808≤n)(h1:n≤9223372036854775807){st:St}(hG:glB st.x.gl=true):VRet Tryz.prog 62 [.int .i64 n] st (.str (Lib.itoa n)) st:=by
 simp only[glB]at hG
 refine VRet_of_below callable62 (fun w A vs hw ha=>?_)
 obtain⟨u,rfl,h2⟩:=ha.one
 have e1:=h2.int_inv
 subst e1
 refine(Tryz.strconv_Itoa n h0 h1 w (tab_is hw (by kernel_rfl) hG)).mono fun e w' ⟨he,k,os,hw'⟩=>?_
 subst he
 exact⟨_,rfl,fun _ _=>.str _,by rw[hw'];exact below_grow _ w (Nat.le_refl _) k os⟩
end Go.Proofs.YtakiodkbjgdnoaaGreatDoor

namespace Go.Proofs.YtakiodkbjgdnoaaGreatDoor
open Go.Sha
set_option maxRecDepth 100000
theorem HH_ok:ESound Tryz.prog HH:=fun f args st r s h=>by
 simp only[HH]at h
 obtain⟨z,hz,e⟩:=Option.map_eq_some_iff.1 h
 cases e
 by_cases h1:f=244
 ·subst h1
  rw[show Nat.beq 244 244=true from rfl,cond_true]at hz
  unfold hCut at hz
  split at hz
  ·split at hz
   ·rename_i hl;cases hz;exact run_sound mixed HL0_ok _ _ _ _ _ (k244 hl)
   ·cases hz
  ·cases hz
 rw[show Nat.beq f 244=false from Bool.eq_false_iff.2 fun e=>h1 (Nat.eq_of_beq_eq_true e),cond_false]at hz
 by_cases h1:f=248
 ·subst h1
  rw[show Nat.beq 248 248=true from rfl,cond_true]at hz
  unfold hSuf at hz
  split at hz
  ·split at hz
   ·rename_i hl;cases hz;exact run_sound mixed HL0_ok _ _ _ _ _ (k248 hl.1 hl.2)
   ·cases hz
  ·cases hz
 rw[show Nat.beq f 248=false from Bool.eq_false_iff.2 fun e=>h1 (Nat.eq_of_beq_eq_true e),cond_false]at hz
 by_cases h1:f=265
 ·subst h1
  rw[show Nat.beq 265 265=true from rfl,cond_true]at hz
  unfold hAny at hz
  split at hz
  ·cases hz;exact run_sound mixed HL0_ok _ _ _ _ _ k265
  ·cases hz
 rw[show Nat.beq f 265=false from Bool.eq_false_iff.2 fun e=>h1 (Nat.eq_of_beq_eq_true e),cond_false]at hz
 by_cases h1:f=9
 ·subst h1
  rw[show Nat.beq 9 9=true from rfl,cond_true]at hz
  unfold hAtoi at hz
  split at hz
  ·split at hz
   ·rename_i hl;cases hz;exact v9 _ _ hl.1 hl.2.1 hl.2.2
   ·cases hz
  ·cases hz
 rw[show Nat.beq f 9=false from Bool.eq_false_iff.2 fun e=>h1 (Nat.eq_of_beq_eq_true e),cond_false]at hz
 by_cases h1:f=198
 ·subst h1
  rw[show Nat.beq 198 198=true from rfl,cond_true]at hz
  unfold hTrim at hz
  split at hz
  ·split at hz
   ·rename_i hl;obtain⟨e1,e2⟩:=hl;subst e1;cases hz;exact run_sound mixed HL0_ok _ _ _ _ _ (k198 e2)
   ·cases hz
  ·cases hz
 rw[show Nat.beq f 198=false from Bool.eq_false_iff.2 fun e=>h1 (Nat.eq_of_beq_eq_true e),cond_false]at hz
 by_cases h1:f=62
 ·subst h1
  rw[show Nat.beq 62 62=true from rfl,cond_true]at hz
  unfold hItoa at hz
  split at hz
  ·split at hz
   ·rename_i hl;simp only[Bool.and_eq_true,decide_eq_true_eq]at hl
    cases hz;exact v62 hl.1.1 hl.1.2 hl.2
   ·cases hz
  ·cases hz
 rw[show Nat.beq f 62=false from Bool.eq_false_iff.2 fun e=>h1 (Nat.eq_of_beq_eq_true e),cond_false]at hz
 cases hz
end Go.Proofs.YtakiodkbjgdnoaaGreatDoor

namespace Go.Proofs.YtakiodkbjgdnoaaGreatDoor
open Go.Sha
set_option maxRecDepth 100000
variable {g:List (Nat×Obj)}{n:Nat}
noncomputable def HD:EvF:=⟨[],fun f args st=>bif memL f [3,4] then none else bif memL f [7] then run Tryz.prog HE f args st else bif memL f [8,12] then run Tryz.prog HC f args st else run Tryz.prog HH f args st⟩
theorem up {k:FuncId}{args:List V}{st:St}{r:VRes×St}(h:run Tryz.prog HH k args st=some r)(h1:memL k [3,4]=false:=by rfl)(h2:memL k [7]=false:=by rfl)(h3:memL k [8,12]=false:=by rfl):run Tryz.prog HD k args st=some r:=run_H (by
 simp only[HD,h1,h2,h3,cond_false,h])
end Go.Proofs.YtakiodkbjgdnoaaGreatDoor

namespace Go.Proofs.YtakiodkbjgdnoaaGreatDoor
set_option maxRecDepth 100000
open Go.Sha Go.ChangeShapes Go.WideShapes Go.ChangeAt Go.RowKit
theorem laid_glK {laid:List (String×DataW Unit)}{W:World}(hn:(laid.all fun x=>x.2.handleName?.isNone)=true)(m3:("internal/strconv.uint64pow10",Rows.laid_internal_strconv_uint64pow10)∈laid)
  (h:laidMetH Tryz.prog laid W) (hs:W.ShapedOpen Tryz.prog):∃v,∀p∈glK v,W.heap[p.1]?=some p.2:=by
 rw[MakeChecks.laidMetH_plain _ _ _ hn]at h
 obtain⟨ps,hv,_⟩:=h
 obtain⟨g3,t3,cs3,T3,fz3,f3,p3,a3,b3,c3,d3⟩:=vars_read hv _ _ m3
 have q3:(Rows.laid_internal_strconv_uint64pow10:DataW Unit)=Lib.tabData .u64 Lib.pow10Tab:=by kernel_rfl
 rw[q3]at d3
 have k3:Tryz.prog.globalNamed "internal/strconv.uint64pow10"=some 2:=by kernel_rfl
 obtain rfl:=Option.some.inj (k3.symm.trans a3)
 have u3:(match(Tryz.prog.globals[2]?).map (·.type) with|some t=>(match Tryz.prog.underlying t with|some (.array m e)=>decide (m=20)&&(match Tryz.prog.underlying e with|some (.int k')=>decide (k'=.u64)|_=>false)&&decide (Tryz.prog.cellsOf e=1)&&decide (Tryz.prog.cellsOf t=20)|_=>false)|none=>false)=true:=by kernel_rfl
 rw[b3]at u3
 have e3:=tab_read u3 d3
 subst e3
 refine⟨⟨T3,fz3⟩,fun p hp=>?_⟩
 simp only[glK,List.mem_cons,List.not_mem_nil,or_false]at hp
 subst hp
 exact c3
end Go.Proofs.YtakiodkbjgdnoaaGreatDoor

namespace Go.Proofs.YtakiodkbjgdnoaaGreatDoor
open Go.Sha
set_option maxRecDepth 10000
def B4_0:Cd:=(.g [.b 65 .lss 64 63] (.join [1,5,7,9,10,62,63,64] (.i 65 .skip (.exit [5,7,9,10] 0)) (.join [1,5,7,9,10,62,63,64] (.block 1 (.g [.r 66 1 62 64,.l 67 66,.m 12 67] (.join [1,5,7,9,10,12,62,63,64] (.g [.m 68 12,.u 69 68,.v 70 .neq 69 6] (.i 70 (.g [.k 2 false] (.ret [2])) .skip)) (.g [.m 72 12,.s 73 (.iadr 1 (.t 72) (.i 4)),.l 74 73,.f 75 9 74,.m 71 75,.j 76 0 71,.j 77 1 71,.m 13 76,.m 14 77] (.join [1,5,7,9,10,12,13,62,63,64] (.join [1,5,7,9,10,12,13,62,63,64,87] (.reg [.m 78 14,.s 79 (.gen (.eqi true) [.t 78]),.m 80 79,.mx 81 13 80,.vx 82 .lss 81 1 80,.o 83 80 82,.m 84 83,.mx 85 13 84,.vx 86 .gtr 85 3 84,.o 87 84 86]) (.i 87 (.g [.k 2 false] (.ret [2])) .skip)) (.q (.dreg 6 [.d 88 9 1,.m 89 12,.s 90 (.iadr 1 (.t 89) (.i 1)),.l 91 90,.g' 92 16 88 91,.m 15 92]) (.g [.m 93 13,.v 94 .sub 93 1,.s 95 (.iadra 3 1 (.t 9) (.t 94)),.l 96 95,.m 97 15,.b 98 .add 96 97,.s 99 (.iadra 3 1 (.t 9) (.t 94)),.w 1 99 98] (.g [.m 100 12,.s 101 (.iadr 1 (.t 100) (.i 5)),.l 102 101,.s 103 (.bin .neq (.t 102) (.w []))] (.i 103 (.g [.m 104 10,.m 105 12,.s 106 (.iadr 1 (.t 105) (.i 5)),.l 107 106,.s 108 (.act (.look .s (.agg [.i 0,.i 0]) false) [.t 104,.t 107]),.s 16 (.alloc 40 [.i 0,.i 0]),.w 2 16 108] (.z [16] (.dreg 12 [.m 109 10,.m 110 12,.s 111 (.iadr 1 (.t 110) (.i 5)),.l 112 111,.s 113 (.iadra 2 1 (.t 16) (.i 0)),.l 114 113,.v 115 .add 114 1,.s 116 (.iadra 2 1 (.t 16) (.i 1)),.l 117 116,.m 118 15,.b 119 .add 117 118,.s 120 (.build [.i 0,.i 0] [(0,1,(.t 115)),(1,1,(.t 119))]),.n (.act (.mset .s) [.t 109,.t 112,.t 120])]))) .skip))))))))) (.reg [.v 121 .add 64 1,.m 64 121]))))
def B4_1:Cd:=(.g [.b 135 .lss 134 133] (.join [10,132,133,134] (.i 135 .skip (.exit [] 2)) (.join [10,132,133,134] (.block 3 (.g [.r 136 4 132 134,.d 137 4 136,.s 18 (.alloc 65 [(.str []),.i 0,.i 0,.i 0]),.w 4 18 137] (.z [18] (.g [.m 138 10,.a 139 0 18,.l 140 139,.s 141 (.act (.look .s (.agg [.i 0,.i 0]) false) [.t 138,.t 140]),.a 142 1 18,.l 143 142,.a 144 2 18,.l 145 144,.s 146 (.build [.i 0,.i 0] [(0,1,(.t 143)),(1,1,(.t 145))]),.s 147 (.eqs true [.i,.i] (.t 141) (.t 146))] (.i 147 (.g [.k 2 false] (.ret [2])) .skip))))) (.reg [.v 148 .add 134 1,.m 134 148]))))
theorem F4:compF Tryz.prog 4=some ⟨150,[.tmp 2],(.g [.q 1 31 0,.k 2 false] (.z [1] (.join [1] (.join [1,26] (.reg [.d 19 9 1,.f 20 5 19,.z 21 20,.m 22 21,.x 23 (.load (some 9) (.t 1)) 22,.x 24 (.f 6 [.t 23]) 22,.vx 25 .neq 24 0 22,.o 26 22 25]) (.i 26 (.g [.s 27 (.f 7 []),.m 2 27] (.ret [2])) .skip)) (.g [.d 29 9 1,.f 30 12 29,.m 28 30,.j 31 0 28,.j 32 1 28,.m 3 31,.m 4 32] (.g [.d 34 9 1,.f 35 14 34,.f 36 13 35,.m 33 36,.j 37 0 33,.j 38 1 33,.s 5 (.alloc 53 [.i 0,.i 0,.i 0]),.w 3 5 37,.m 6 38] (.z [5] (.g [.d 40 9 1,.f 41 14 40,.f 42 15 41,.m 39 42,.j 43 0 39,.j 44 1 39,.m 7 43,.m 8 44] (.join [1,3,5,7] (.join [1,3,5,7,59] (.reg [.m 45 4,.m 46 6,.b 47 .add 45 46,.m 48 8,.b 49 .add 47 48,.v 50 .neq 49 0,.m 51 50,.mx 52 3 51,.x 53 (.len (.t 52)) 51,.ax 54 3 1 51,.lx 55 54 51,.x 56 (.len (.t 55)) 51,.vx 57 .add 56 1 51,.bx 58 .neq 53 57 51,.o 59 51 58]) (.i 59 (.g [.k 2 false] (.ret [2])) .skip)) (.g [.s 9 (.alloc 53 [.i 0,.i 0,.i 0])] (.g [.s 60 (.act .mkmap []),.m 10 60] (.join [5,7,9,10] (.g [.m 61 3,.s 62 (.slice 1 (.t 61) (some (.i 1)) none none),.u 63 62,.c 64 0] (.block 0 (.loop [1,5,7,9,10,62,63,64] [] B4_0))) (.join [7,10] (.join [7,10,131] (.reg [.d 122 3 9,.d 123 3 5,.s 124 (.eqs true [.i,.i,.i] (.t 122) (.t 123)),.m 125 124,.mx 126 10 125,.x 127 (.act .mlen [.t 126]) 125,.mx 128 7 125,.x 129 (.len (.t 128)) 125,.bx 130 .neq 127 129 125,.o 131 125 130]) (.i 131 (.g [.k 2 false] (.ret [2])) .skip)) (.join [] (.g [.m 132 7,.u 133 132,.c 134 0] (.block 2 (.loop [10,132,133,134] [] B4_1))) (.g [.s 149 (.f 7 []),.m 2 149] (.ret [2])))))))))))))))⟩:=by kernel_rfl
theorem F13:compF Tryz.prog 13=some ⟨17,[.cell 2 (some 3),.tmp 3],(.g [.q 1 57 0,.s 2 (.alloc 53 [.i 0,.i 0,.i 0]),.c 3 0] (.z [1] (.g [.d 7 3 1,.f 8 42 7,.m 6 8,.j 9 0 6,.j 10 1 6,.s 4 (.alloc 102 [.nils,.nils,.nils]),.w 3 4 9,.m 5 10] (.z [4] (.join [2,4] (.g [.m 11 5,.v 12 .neq 11 0] (.i 12 (.g [.s 13 (.build [.i 0,.i 0,.i 0] []),.m 14 5,.w 3 2 13,.m 3 14] (.ret [2,3])) .skip)) (.g [.d 15 3 4,.f 16 43 15,.w 3 2 16,.c 3 0] (.ret [2,3])))))))⟩:=by kernel_rfl
theorem F15:compF Tryz.prog 15=some ⟨16,[.tmp 2,.tmp 3],(.g [.q 1 57 0,.s 2 (.mv (.c .nils)),.c 3 0] (.z [1] (.g [.d 7 3 1,.f 8 42 7,.m 6 8,.j 9 0 6,.j 10 1 6,.s 4 (.alloc 102 [.nils,.nils,.nils]),.w 3 4 9,.m 5 10] (.z [4] (.join [4] (.g [.m 11 5,.v 12 .neq 11 0] (.i 12 (.g [.m 13 5,.s 2 (.mv (.c .nils)),.m 3 13] (.ret [2,3])) .skip)) (.g [.d 14 3 4,.f 15 44 14,.m 2 15,.c 3 0] (.ret [2,3])))))))⟩:=by kernel_rfl
def B16_0:Cd:=(.g [.b 11 .lss 10 9] (.join [1,8,9,10] (.i 11 .skip (.exit [] 0)) (.join [1,8,9,10] (.block 1 (.g [.r 12 4 8 10,.d 13 4 12,.s 6 (.alloc 75 [(.str []),.i 0,.i 0,.nils]),.w 4 6 13] (.z [6] (.g [.a 14 0 6,.l 15 14,.m 16 1,.b 17 .eql 15 16] (.i 17 (.g [.a 18 2 6,.l 19 18,.m 4 19] (.ret [4])) .skip))))) (.reg [.v 20 .add 10 1,.m 10 20]))))
theorem F16:compF Tryz.prog 16=some ⟨21,[.tmp 4],(.g [.q 2 31 0,.c 4 0] (.z [2] (.join [] (.g [.a 7 2 2,.l 8 7,.u 9 8,.c 10 0] (.block 0 (.loop [1,8,9,10] [] B16_0))) (.g [.c 4 0] (.ret [4])))))⟩:=by kernel_rfl
theorem F42:compF Tryz.prog 42=some ⟨8,[.cell 2 (some 3),.tmp 3],(.g [.q 1 57 0,.s 2 (.alloc 102 [.nils,.nils,.nils]),.c 3 0] (.z [1] (.join [2,3] (.greg [] [] [[],[],[],[],[false,false,false,false],[]] [.d 4 3 1,.s 5 (.build [.nils,.nils,.nils] [(0,3,(.t 4))]),.d 6 3 1,.f 7 71 6,.w 3 2 5,.m 3 7]) (.ret [2,3]))))⟩:=by kernel_rfl
def B43_0:Cd:=(.g [.b 11 .lss 10 9] (.join [1,2,3,8,9,10] (.i 11 .skip (.exit [2,3] 0)) (.join [1,2,3,8,9,10] (.block 1 (.g [.r 12 7 8 10,.d 13 7 12,.s 5 (.alloc 50 [.i 0,.i 0,(.str []),.i 0,.i 0,.i 0,(.str [])]),.w 7 5 13] (.z [5] (.dreg 11 [.a 14 5 5,.l 15 14,.v 16 .sub 15 1,.s 17 (.iadra 3 1 (.t 3) (.t 16)),.l 18 17,.d 19 3 1,.d 20 7 5,.g' 21 72 19 20,.s 22 (.fld none 2 (.t 21)),.b 23 .add 18 22,.s 24 (.iadra 3 1 (.t 3) (.t 16)),.w 1 24 23])))) (.reg [.v 25 .add 10 1,.m 10 25]))))
theorem F43:compF Tryz.prog 43=some ⟨27,[.cell 2 (some 3)],(.g [.q 1 102 0,.s 2 (.alloc 53 [.i 0,.i 0,.i 0])] (.z [1] (.g [.s 3 (.alloc 53 [.i 0,.i 0,.i 0])] (.join [2,3] (.g [.a 6 0 1,.a 7 2 6,.l 8 7,.u 9 8,.c 10 0] (.block 0 (.loop [1,2,3,8,9,10] [] B43_0))) (.g [.d 26 3 3,.w 3 2 26] (.ret [2]))))))⟩:=by kernel_rfl
def B44_0:Cd:=(.g [.b 13 .lss 12 11] (.join [1,3,10,11,12] (.i 13 .skip (.exit [3] 0)) (.join [1,3,10,11,12] (.block 1 (.g [.r 14 1 10 12,.l 15 14,.m 5 15] (.g [.m 16 5,.s 17 (.iadr 7 (.t 16) (.i 0)),.a 18 6 17,.l 19 18,.m 6 19] (.g [.m 20 6,.s 21 (.bin .neq (.t 20) (.w []))] (.i 21 (.reg [.m 22 3,.m 23 6,.m 24 5,.u 25 24,.d 26 3 1,.m 27 5,.g' 28 75 26 27,.m 29 5,.f 30 76 29,.s 31 (.build [(.str []),.i 0,.i 0,.i 0] [(0,1,(.t 23)),(1,1,(.t 25)),(2,1,(.t 28)),(3,1,(.t 30))]),.s 32 (.bslice 65 4 [.t 31]),.s 33 (.append 65 4 40 (.t 22) (.t 32)),.m 3 33]) .skip))))) (.reg [.v 34 .add 12 1,.m 12 34]))))
theorem F44:compF Tryz.prog 44=some ⟨38,[.tmp 2],(.g [.q 1 102 0,.s 2 (.mv (.c .nils))] (.z [1] (.g [.s 3 (.mv (.c .nils))] (.join [3] (.g [.a 7 0 1,.a 8 2 7,.l 9 8,.s 10 (.f 73 [.t 9,(.c (.fn (.func 74) [] []))]),.u 11 10,.c 12 0] (.block 0 (.loop [1,3,10,11,12] [(3,(65,4))] B44_0))) (.g [.m 35 3,.s 36 (.f 77 [.t 35,(.c (.fn (.func 78) [] []))])] (.g [.m 37 3,.m 2 37] (.ret [2])))))))⟩:=by kernel_rfl
theorem F72:compF Tryz.prog 72=some ⟨20,[.cell 4 (some 4)],(.g [.q 2 102 0,.q 3 50 1,.s 4 (.alloc 75 [(.str []),.i 0,.i 0,.nils])] (.z [2,3] (.g [.a 6 0 2,.a 7 1 6,.l 8 7,.s 9 (.mkfn (.func 114) [] [.t 3]),.g' 10 113 8 9,.m 5 10] (.join [2,4,5] (.g [.m 11 5,.v 12 .lss 11 0] (.i 12 (.g [.s 13 (.build [(.str []),.i 0,.i 0,.nils] []),.w 4 4 13] (.ret [4])) .skip)) (.g [.a 14 0 2,.a 15 1 14,.l 16 15,.m 17 5,.r 18 4 16 17,.d 19 4 18,.w 4 4 19] (.ret [4]))))))⟩:=by kernel_rfl
def B73_0:Cd:=(.g [.b 16 .lss 15 14] (.join [1,5,6,13,14,15] (.i 16 .skip (.exit [6] 0)) (.join [1,5,6,13,14,15] (.block 1 (.g [.m 17 15,.r 18 7 13 15,.d 19 7 18,.s 8 (.alloc 50 [.i 0,.i 0,(.str []),.i 0,.i 0,.i 0,(.str [])]),.m 7 17,.w 7 8 19] (.z [8] (.g [.m 20 1,.m 21 7,.d 22 7 8,.s 23 (.call (.t 20) [.t 21,.t 22]),.m 9 23] (.g [.m 25 5,.m 26 9,.s 27 (.act (.look .s (.i 0) true) [.t 25,.t 26]),.m 24 27,.j 28 0 24,.j 29 1 24,.m 10 28,.m 11 29] (.join [1,5,6,8,10,13,14,15] (.g [.m 30 11,.z 31 30] (.i 31 (.g [.m 32 6,.u 33 32,.m 10 33] (.g [.m 34 5,.m 35 9,.m 36 10,.n (.act (.mset .s) [.t 34,.t 35,.t 36])] (.reg [.m 37 6,.s 38 (.bslice 24 1 [(.c .nils)]),.s 39 (.append 24 1 24 (.t 37) (.t 38)),.m 6 39]))) .skip)) (.greg [] [] [[],[],[],[],[],[],[],[false,true,true,true,true,true,true],[false,false,false,false,false,false,true,true],[],[false,false,false,false,false,false,false,false,false,false]] [.m 40 6,.m 41 10,.m 42 6,.m 43 10,.r 44 1 42 43,.l 45 44,.d 46 7 8,.s 47 (.bslice 50 7 [.t 46]),.s 48 (.append 50 7 72 (.t 45) (.t 47)),.r 49 1 40 41,.w 1 49 48]))))))) (.reg [.v 50 .add 15 1,.m 15 50]))))
theorem F73:compF Tryz.prog 73=some ⟨52,[.tmp 4],(.g [.s 4 (.mv (.c .nils))] (.g [.s 12 (.act .mkmap []),.m 5 12] (.g [.s 6 (.mv (.c .nils))] (.join [6] (.g [.m 13 0,.u 14 13,.c 15 0] (.block 0 (.loop [1,5,6,13,14,15] [(6,(24,4097))] B73_0))) (.g [.m 51 6,.m 4 51] (.ret [4]))))))⟩:=by kernel_rfl
theorem F74:compF Tryz.prog 74=some ⟨7,[.tmp 4],(.g [.q 3 50 1,.s 4 (.mv (.w []))] (.z [3] (.g [.a 5 6 3,.l 6 5,.m 4 6] (.ret [4]))))⟩:=by kernel_rfl
def B75_0:Cd:=(.g [.b 11 .lss 10 9] (.join [2,5,8,9,10] (.i 11 .skip (.exit [5] 0)) (.join [2,5,8,9,10] (.block 1 (.g [.r 12 7 8 10,.d 13 7 12,.s 7 (.alloc 50 [.i 0,.i 0,(.str []),.i 0,.i 0,.i 0,(.str [])]),.w 7 7 13] (.z [7] (.reg [.m 14 5,.d 15 3 2,.d 16 7 7,.g' 17 72 15 16,.s 18 (.fld none 2 (.t 17)),.b 19 .add 14 18,.m 5 19])))) (.reg [.v 20 .add 10 1,.m 10 20]))))
theorem F75:compF Tryz.prog 75=some ⟨22,[.tmp 4],(.g [.q 2 102 0,.c 4 0] (.z [2] (.g [.c 5 0] (.join [5] (.g [.m 8 1,.u 9 8,.c 10 0] (.block 0 (.loop [2,5,8,9,10] [] B75_0))) (.g [.m 21 5,.m 4 21] (.ret [4]))))))⟩:=by kernel_rfl
theorem F76:compF Tryz.prog 76=some ⟨10,[.tmp 2],(.g [.q 1 24 0,.c 2 0] (.z [1] (.join [1] (.g [.l 3 1,.s 4 (.mkfn (.func 116) [] [.t 1]),.g' 5 115 3 4] (.i 5 (.g [.c 2 0] (.ret [2])) .skip)) (.g [.l 6 1,.s 7 (.iadr 7 (.t 6) (.i 0)),.a 8 5 7,.l 9 8,.m 2 9] (.ret [2])))))⟩:=by kernel_rfl
theorem F78:compF Tryz.prog 78=some ⟨10,[.tmp 4],(.g [.q 2 65 0,.q 3 65 1,.c 4 0] (.z [2,3] (.g [.a 5 0 2,.l 6 5,.a 7 0 3,.l 8 7,.g' 9 79 6 8,.m 4 9] (.ret [4]))))⟩:=by kernel_rfl
theorem F79:compF Tryz.prog 79=some ⟨20,[.tmp 4],(.g [.c 4 0] (.g [.m 7 0,.f 8 119 7,.m 5 8] (.g [.m 9 1,.f 10 119 9,.m 6 10] (.join [0,1,6] (.g [.m 11 5] (.i 11 (.join [] (.g [.m 12 6] (.i 12 (.g [.c 4 0] (.ret [4])) .skip)) (.g [.c 4 (-1)] (.ret [4]))) .skip)) (.join [0,1] (.g [.m 13 6] (.i 13 (.g [.c 4 1] (.ret [4])) .skip)) (.join [0,1] (.g [.m 14 0,.m 15 1,.b 16 .lss 14 15] (.i 16 (.g [.c 4 (-1)] (.ret [4])) .skip)) (.join [] (.g [.m 17 0,.m 18 1,.b 19 .gtr 17 18] (.i 19 (.g [.c 4 1] (.ret [4])) .skip)) (.g [.c 4 0] (.ret [4])))))))))⟩:=by kernel_rfl
def B113_0:Cd:=(.g [.b 9 .lss 8 7] (.join [0,1,7,8] (.i 9 .skip (.exit [] 0)) (.join [0,1,7,8] (.block 1 (.g [.m 10 8,.m 5 10] (.g [.m 11 1,.m 12 0,.m 13 5,.r 14 4 12 13,.d 15 4 14,.s 16 (.call (.t 11) [.t 15])] (.i 16 (.g [.m 17 5,.m 4 17] (.ret [4])) .skip)))) (.reg [.v 18 .add 8 1,.m 8 18]))))
theorem F113:compF Tryz.prog 113=some ⟨19,[.tmp 4],(.g [.c 4 0] (.join [] (.g [.m 6 0,.u 7 6,.c 8 0] (.block 0 (.loop [0,1,7,8] [] B113_0))) (.g [.c 4 (-1)] (.ret [4]))))⟩:=by kernel_rfl
theorem F114:compF Tryz.prog 114=some ⟨9,[.tmp 3],(.g [.q 2 75 0,.k 3 false] (.z [2] (.g [.a 4 0 2,.l 5 4,.a 6 2 1,.l 7 6,.b 8 .eql 5 7,.m 3 8] (.ret [3]))))⟩:=by kernel_rfl
theorem F115:compF Tryz.prog 115=some ⟨9,[.tmp 4],(.g [.k 4 false] (.g [.m 5 0,.m 6 1,.g' 7 160 5 6,.v 8 .geq 7 0,.m 4 8] (.ret [4])))⟩:=by kernel_rfl
theorem F116:compF Tryz.prog 116=some ⟨11,[.tmp 3],(.g [.q 2 50 0,.k 3 false] (.z [2] (.q (.dreg 8 [.a 4 5 2,.l 5 4,.l 6 1,.s 7 (.iadr 7 (.t 6) (.i 0)),.a 8 5 7,.l 9 8,.b 10 .neq 5 9,.m 3 10]) (.ret [3]))))⟩:=by kernel_rfl
theorem F119:compF Tryz.prog 119=some ⟨6,[.tmp 2],(.g [.k 2 false] (.g [.m 3 0,.m 4 0,.b 5 .neq 3 4,.m 2 5] (.ret [2])))⟩:=by kernel_rfl
theorem F77:compF Tryz.prog 77=some ⟨14,[],(.g [.m 5 0,.u 6 5,.m 4 6] (.reg [.m 7 0,.m 8 4,.m 9 4,.s 10 (.cvi .u64 (.t 9)),.f 11 118 10,.m 12 1,.s 13 (.f 117 [.t 7,.i 0,.t 8,.t 11,.t 12])]))⟩:=by kernel_rfl
def B117_0:Cd:=(.block 1 (.g [.m 21 2,.m 22 1,.b 23 .sub 21 22,.m 12 23] (.join [0,1,2,3,4,10,11,12] (.g [.m 24 12,.v 25 .leq 24 12] (.i 25 (.g [.m 26 0,.m 27 1,.m 28 2,.m 29 4,.s 30 (.f 161 [.t 26,.t 27,.t 28,.t 29])] (.ret [])) .skip)) (.join [0,1,2,3,4,10,11,12] (.g [.m 31 3,.v 32 .eql 31 0] (.i 32 (.g [.m 33 0,.m 34 1,.m 35 2,.m 36 4,.s 37 (.f 162 [.t 33,.t 34,.t 35,.t 36])] (.ret [])) .skip)) (.join [0,1,2,3,4,10,11,12] (.g [.m 38 10,.z 39 38] (.i 39 (.g [.m 40 0,.m 41 1,.m 42 2,.m 43 4,.s 44 (.f 163 [.t 40,.t 41,.t 42,.t 43])] (.reg [.m 45 3,.v 46 .sub 45 1,.m 3 46])) .skip)) (.g [.m 48 0,.m 49 1,.m 50 2,.m 51 4,.s 52 (.f 164 [.t 48,.t 49,.t 50,.t 51]),.m 47 52,.j 53 0 47,.j 54 1 47,.m 13 53,.m 14 54] (.join [0,1,2,3,4,10,11,12,13,14] (.g [.m 55 14,.v 56 .eql 55 2] (.i 56 (.g [.m 57 0,.m 58 1,.m 59 2,.m 60 4,.s 61 (.f 165 [.t 57,.t 58,.t 59,.t 60])] (.g [.m 62 2,.v 63 .sub 62 1,.m 64 13,.m 65 1,.b 66 .sub 64 65,.b 67 .sub 63 66,.m 13 67] (.reg [.c 14 1]))) .skip)) (.join [0,1,2,3,4,10,11,12,13] (.join [0,1,2,3,4,10,11,12,13,75] (.reg [.m 68 10,.m 69 68,.my 70 11 69,.e 71 69 70,.m 72 71,.my 73 14 72,.vy 74 .eql 73 1 72,.e 75 72 74]) (.i 75 (.g [.m 76 0,.m 77 1,.m 78 2,.m 79 4,.s 80 (.f 166 [.t 76,.t 77,.t 78,.t 79])] (.i 80 (.ret []) .skip)) .skip)) (.join [0,1,2,3,4,12,13] (.join [0,1,2,3,4,10,11,12,13,97] (.dreg 17 [.m 81 1,.v 82 .gtr 81 0,.m 83 82,.my 84 4 83,.my 85 0 83,.my 86 1 83,.vy 87 .sub 86 1 83,.ry 88 4 85 87 83,.y 89 (.load (some 4) (.t 88)) 83,.my 90 0 83,.my 91 13 83,.ry 92 4 90 91 83,.y 93 (.load (some 4) (.t 92)) 83,.y 94 (.call (.t 84) [.t 89,.t 93]) 83,.vy 95 .lss 94 0 83,.y 96 (.un .not (.t 95)) 83,.e 97 83 96]) (.i 97 (.g [.m 98 0,.m 99 1,.m 100 2,.m 101 13,.m 102 4,.s 103 (.f 167 [.t 98,.t 99,.t 100,.t 101,.t 102]),.m 15 103] (.g [.m 104 15,.m 1 104] (.exit [0,1,2,3,4,10,11] 1))) .skip)) (.g [.m 106 0,.m 107 1,.m 108 2,.m 109 13,.m 110 4,.s 111 (.f 168 [.t 106,.t 107,.t 108,.t 109,.t 110]),.m 105 111,.j 112 0 105,.j 113 1 105,.m 16 112,.m 17 113] (.g [.m 114 17,.m 11 114] (.g [.m 115 16,.m 116 1,.b 117 .sub 115 116,.m 118 2,.m 119 16,.b 120 .sub 118 119,.m 18 117,.m 19 120] (.g [.m 121 12,.v 122 .quo 121 8,.m 20 122] (.g [.m 123 18,.m 124 19,.b 125 .lss 123 124] (.i 125 (.g [.m 126 18,.m 127 20,.b 128 .geq 126 127,.m 10 128] (.g [.m 129 0,.m 130 1,.m 131 16,.m 132 3,.m 133 4,.s 134 (.f 117 [.t 129,.t 130,.t 131,.t 132,.t 133])] (.reg [.m 135 16,.v 136 .add 135 1,.m 1 136]))) (.g [.m 137 19,.m 138 20,.b 139 .geq 137 138,.m 10 139] (.g [.m 140 0,.m 141 16,.v 142 .add 141 1,.m 143 2,.m 144 3,.m 145 4,.s 146 (.f 117 [.t 140,.t 142,.t 143,.t 144,.t 145])] (.reg [.m 147 16,.m 2 147]))))))))))))))))))
theorem F117:compF Tryz.prog 117=some ⟨148,[],(.g [.k 10 true] (.g [.k 11 true] (.block 0 (.loop [0,1,2,3,4,10,11] [] B117_0))))⟩:=by kernel_rfl
def B161_0:Cd:=(.join [0,1,2,3,8,9] (.join [0,1,2,3,8,9,34] (.dreg 17 [.m 18 9,.m 19 1,.b 20 .gtr 18 19,.m 21 20,.my 22 3 21,.my 23 0 21,.my 24 9 21,.ry 25 4 23 24 21,.y 26 (.load (some 4) (.t 25)) 21,.my 27 0 21,.my 28 9 21,.vy 29 .sub 28 1 21,.ry 30 4 27 29 21,.y 31 (.load (some 4) (.t 30)) 21,.y 32 (.call (.t 22) [.t 26,.t 31]) 21,.vy 33 .lss 32 0 21,.e 34 21 33]) (.i 34 .skip (.exit [0,1,2,3,8] 2))) (.join [0,1,2,3,8,9] (.block 3 (.greg [] [] [[],[],[],[],[],[],[],[],[],[],[],[],[],[],[],[false,false,false,false,false,false,false,false,false,false,true,true,true,false,false],[],[false,false,false,false,false,false,false,false,false,false,false,false,false,false,false,false,false]] [.m 37 0,.m 38 9,.m 39 0,.m 40 9,.v 41 .sub 40 1,.m 42 0,.m 43 9,.v 44 .sub 43 1,.r 45 4 42 44,.d 46 4 45,.m 47 0,.m 48 9,.r 49 4 47 48,.d 50 4 49,.r 51 4 37 38,.w 4 51 46,.r 52 4 39 41,.w 4 52 50])) (.reg [.m 35 9,.v 36 .sub 35 1,.m 9 36])))
def B161_1:Cd:=(.join [0,1,2,3,8] (.g [.m 12 8,.m 13 2,.b 14 .lss 12 13] (.i 14 .skip (.exit [] 0))) (.join [0,1,2,3,8] (.block 1 (.g [.m 17 8,.m 9 17] (.block 2 (.loop [0,1,2,3,8,9] [] B161_0)))) (.reg [.m 15 8,.v 16 .add 15 1,.m 8 16])))
theorem F161:compF Tryz.prog 161=some ⟨53,[],(.g [.m 10 1,.v 11 .add 10 1,.m 8 11] (.block 0 (.loop [0,1,2,3,8] [] B161_1)))⟩:=by kernel_rfl
end Go.Proofs.YtakiodkbjgdnoaaGreatDoor

namespace Go.Proofs.YtakiodkbjgdnoaaGreatDoor
open Go.Sha
set_option maxRecDepth 100000
variable {g:List (Nat×Obj)}{n:Nat}
theorem profsR_at {l:List Prof}{m:List (List Pt)}:∀{r:List Prof}{j:Nat},l.drop j=r→profsR l m r j=0→∀q∈r,profR q m=0
 |[],_,_,_,q,hq=>by cases hq
 |x::r,j,hd,h,q,hq=>by
  rw[profsR]at h
  split at h
  ·rename_i a;exact absurd h a
  ·rename_i a
   split at h
   ·cases h
   ·rcases List.mem_cons.1 hq with rfl|hq
    ·exact Classical.not_not.1 a
    ·exact profsR_at (j:=j+1) (by rw[←List.drop_drop,hd];rfl) h q hq
theorem watt_le {s:Sho}(hs:shoC s=0){p:Prof}(hp:p∈s.profs):0≤p.watts∧p.watts≤1048576:=by
 have h:=(shoC_parts hs).2.2.1
 unfold profsCR at h
 split at h
 ·cases h
 have h:=profsR_at (l:=s.profs) (j:=0) rfl h p hp
 unfold profR at h
 repeat' split at h
 all_goals first|(cases h;done)|omega|(rename_i a _;exact absurd h a)
def P0:Prof:=⟨[],0,0,[]⟩
def proS (ps:List Prof)(x:Fixt):Prof:=(pfx ps x.prof).getD P0
def wattS (ps:List Prof)(x:Fixt):Int:=(proS ps x).watts
theorem wattS_le {s:Sho}(hs:shoC s=0)(x:Fixt):0≤wattS s.profs x∧wattS s.profs x≤1048576:=by
 unfold wattS proS pfx
 cases h:s.profs.find? (fun p=>p.name == x.prof) with
 |none=>exact⟨by decide,by decide⟩
 |some p=>exact watt_le hs (List.mem_of_find?_eq_some h)
theorem f114 {p:Prof}{x:Fixt}{st:St}:run Tryz.prog HH 114 [p.v,.ep x.v 0] st=some (.ret (.bool (p.name == x.prof)),st):=by
 rw[run_shut F114 rfl rfl (by simp)]
 push_cast[Prof.v,Fixt.v]
 all_goals first|with_reducible rfl|exact dn_eq (by omega) (by with_reducible rfl)|((repeat' split)<;>(try simp_all)<;>(try (with_reducible refine dn_eq ?_ ?_<;>first|trivial|omega|rfl))<;>(try omega))
theorem f113 {l:List Prof}{x:Fixt}(hl:l.length<140737488355328){st:St}:run Tryz.prog HH 113 [.sl (l.map Prof.v),.fn (.func 114) [] [.ep x.v 0]] st=some (.ret (.int .i64 (ix (fun p=>p.name == x.prof) l 0)),st) :=
 IxF (f:=Prof.v) (n:=some 4) (fun _=>rfl) (fun _=>rfl) F113 rfl (by simp) hl (fun q _ _=>f114) (fun _ _=>rfl) (fun _=>rfl)
theorem ix_find2 {α:Type}{p:α→Bool}:∀{l:List α}{j:Nat},(ix p l j=-1∧l.find? p=none)∨∃i x,ix p l j=(j+i:Nat)∧l[i]?=some x∧l.find? p=some x
 |[],j=>.inl ⟨rfl,rfl⟩
 |x::r,j=>by
  unfold ix
  by_cases h:p x=true
  ·exact .inr ⟨0,x,by rw[if_pos h];rfl,rfl,by simp[h]⟩
  ·rw[if_neg h,List.find?_cons,Bool.eq_false_iff.2 h]
   rcases ix_find2 (p:=p) (l:=r) (j:=j+1) with⟨h1,h2⟩|⟨i,y,h1,h2,h3⟩
   ·exact .inl ⟨h1,h2⟩
   ·exact .inr ⟨i+1,y,by rw[h1];congr 1;omega,by simpa using h2,h3⟩
theorem f72 {c:List (List Pt)}{ps:List Prof}{fx:List Fixt}{x:Fixt}(hl:ps.length<140737488355328){st:St}:run Tryz.prog HH 72 [rigE c ps fx,x.v] st=some (.ret (proS ps x).v,st):=by
 have h1:=fun(st:St)=>f113 (x:=x) (st:=st) hl
 rw[run_shut F72 rfl rfl (by simp[V.bdL,rigE_bd,Fixt.bd])]
 unfold proS pfx
 rcases ix_find2 (p:=fun p:Prof=>p.name == x.prof) (l:=ps) (j:=0) with⟨e1,e2⟩|⟨i,y,e1,e2,e3⟩
 ·rw[e1]at h1
  rw[e2]
  push_cast[Fixt.v]at h1
  push_cast[rigE,Fixt.v,h1,P0,Prof.v]
 ·rw[e1,Nat.zero_add]at h1
  rw[e3]
  have hi:=(List.getElem?_eq_some_iff.1 e2).1
  have c1:¬(i:Int)<0:=by omega
  have c2:(i:Int)<ps.length:=by omega
  push_cast[Fixt.v]at h1
  have e4:∀d,ps.getD i d=y:=fun d=>by rw[List.getD_eq_getElem?_getD,e2];rfl
  push_cast[rigE,Fixt.v,h1,Prof.v,c1,c2,e2,e4]
theorem f16 {s:Sho}{m:List UInt8}(hl:s.profs.length<140737488355328){x:Fixt}(hm:x.prof=m){st:St}:run Tryz.prog HH 16 [s.v,.str m] st=some (.ret (.int .i64 (wattS s.profs x)),st):=by
 subst hm
 have h:∀r j,s.profs.drop j=r→runL Tryz.prog HH [1,8,9,10] 1 B16_0 [(1,.str x.prof),(8,.sl (s.profs.map Prof.v)),(9,.int .i64 s.profs.length),(10,.int .i64 j)] (stN st.x.gl 1)=match r.find? (fun p=>p.name == x.prof) with
   |some p=>some (.ret,[(4,.int .i64 p.watts)],stN st.x.gl 1)
   |none=>some (.exit 0,[],stN st.x.gl 1):=by
  refine drop_ind (fun j h=>?_) (fun q r j h hx hd ih=>?_)
  all_goals rw[runL_of B16_0.eq_1]
  ·have h1:¬(j:Int)<s.profs.length:=by omega
   push_cast[h1,List.find?_nil]
  ·have h1:(j:Int)<s.profs.length:=by omega
   have hw:=iw1 (j:=j) (by omega)
   rw[List.find?_cons]
   cases e:q.name == x.prof with
   |true =>
    have e':q.name=x.prof:=by simpa using e
    push_cast[h1,hw,hx,Prof.v,e,e']
   |false =>
    have e':¬q.name=x.prof:=by simpa using e
    push_cast[h1,hw,hx,Prof.v,e,e']at ih ⊢
    exact ih
 have h0:=h _ 0 rfl
 rw[List.drop_zero]at h0
 rw[run_shut F16 rfl rfl (by simp)]
 unfold wattS proS pfx
 cases e:s.profs.find? (fun p=>p.name == x.prof) with
 |none =>
  rw[e]at h0
  push_cast at h0
  push_cast[Sho.v,h0,P0,Option.getD_none]
 |some p =>
  rw[e]at h0
  push_cast at h0
  push_cast[Sho.v,h0,Option.getD_some]
def sumP (ps:List Prof)(k:Int):List Fixt→Int
 |[]=>0
 |x::r=>(if x.phase=k then wattS ps x else 0)+sumP ps k r
theorem sumP_app {ps:List Prof}{k:Int}{x:Fixt}:∀{l:List Fixt},sumP ps k (l++[x])=sumP ps k l+(if x.phase=k then wattS ps x else 0)
 |[]=>by rw[List.nil_append,sumP,sumP,sumP];omega
 |y::r=>by rw[List.cons_append,sumP,sumP,sumP_app];omega
theorem sumP_perm {ps:List Prof}{k:Int}{l m:List Fixt}(h:l.Perm m):sumP ps k l=sumP ps k m:=by
 induction h with
 |nil=>rfl
 |cons x _ ih=>rw[sumP,sumP,ih]
 |swap x y l=>rw[sumP,sumP,sumP,sumP];omega
 |trans _ _ h1 h2=>rw[h1,h2]
theorem sumP_le {s:Sho}(hs:shoC s=0){k:Int}:∀{l:List Fixt},0≤sumP s.profs k l∧sumP s.profs k l≤1048576*l.length
 |[]=>by simp[sumP]
 |x::r=>by
  have h1:=wattS_le hs x
  have h2:=sumP_le hs (k:=k) (l:=r)
  rw[sumP,List.length_cons]
  split<;>omega
def fulV (ps:List Prof)(l:List Fixt):List V:=[.int .i64 (sumP ps 1 l),.int .i64 (sumP ps 2 l),.int .i64 (sumP ps 3 l)]
def stFu (g:List (Nat×Obj))(ps:List Prof)(l:List Fixt):St:=⟨3,[(2,fulV ps l),(1,[.int .i64 0,.int .i64 0,.int .i64 0])],[],⟨[],g,[]⟩⟩
theorem L43 {s:Sho}(hs:shoC s=0)(hl:s.fixts.length<1000)(hp:s.profs.length<140737488355328):∀r j,s.fixts.drop j=r →
  runL Tryz.prog HH [1,2,3,8,9,10] 3 B43_0 [(1,.ep (rigE s.curves s.profs s.fixts) 0),(2,.ptr 1 0),(3,.ptr 2 0),(8,.sl (s.fixts.map Fixt.v)),(9,.int .i64 s.fixts.length),(10,.int .i64 j)] (stFu g s.profs (s.fixts.take j))
   = some (.exit 0,[(2,.ptr 1 0),(3,.ptr 2 0)],stFu g s.profs s.fixts):=by
 refine drop_ind (fun j h=>?_) (fun q r j h hx hd ih=>?_)
 all_goals rw[runL_of B43_0.eq_1]
 ·have h1:¬(j:Int)<s.fixts.length:=by omega
  rw[List.take_of_length_le h]
  push_cast[h1,rigE,stFu,fulV]
 ·have h1:(j:Int)<s.fixts.length:=by omega
  have hw:=iw1 (j:=j) (by omega)
  have hr:=(aloC_ok ((fix_ok (shoC_parts hs).2.2.2.1).2.2.2 q (mem_at hd))).1
  obtain⟨r1,r2,r3,r4,r5,r6,r7,r8,r9,r10⟩:=rng_ok hr
  have h72:=fun(st:St)=>f72 (c:=s.curves) (fx:=s.fixts) (x:=q) (st:=st) hp
  have b1:=sumP_le hs (k:=1) (l:=s.fixts.take j)
  have b2:=sumP_le hs (k:=2) (l:=s.fixts.take j)
  have b3:=sumP_le hs (k:=3) (l:=s.fixts.take j)
  have b4:(s.fixts.take j).length≤1000:=by rw[List.length_take];omega
  have b5:=wattS_le hs q
  rw[take_snoc hd]at ih
  simp only[stFu,fulV,sumP_app]at ih ⊢
  unfold wattS at b5 ih
  generalize s.fixts.take j=p at *
  generalize proS s.profs q=P at *
  have e:q.phase=1∨q.phase=2∨q.phase=3:=by omega
  rcases e with e|e|e
  ·have w:IntKind.i64.wrap (sumP s.profs 1 p+P.watts)=sumP s.profs 1 p+P.watts:=iwrap (by omega) (by omega)
   push_cast[rigE,Fixt.v,Prof.v,e,Int.add_zero]at ih h72
   push_cast[h1,hw,hx,h72,e,w,rigE,Fixt.v,Prof.v]
   exact ih
  ·have w:IntKind.i64.wrap (sumP s.profs 2 p+P.watts)=sumP s.profs 2 p+P.watts:=iwrap (by omega) (by omega)
   push_cast[rigE,Fixt.v,Prof.v,e,Int.add_zero]at ih h72
   push_cast[h1,hw,hx,h72,e,w,rigE,Fixt.v,Prof.v]
   exact ih
  ·have w:IntKind.i64.wrap (sumP s.profs 3 p+P.watts)=sumP s.profs 3 p+P.watts:=iwrap (by omega) (by omega)
   push_cast[rigE,Fixt.v,Prof.v,e,Int.add_zero]at ih h72
   push_cast[h1,hw,hx,h72,e,w,rigE,Fixt.v,Prof.v]
   exact ih
theorem f43 {s:Sho}(hs:shoC s=0)(hl:s.fixts.length<1000)(hp:s.profs.length<140737488355328){st:St}:run Tryz.prog HH 43 [rigE s.curves s.profs s.fixts] st=some (.ret (.agg (fulV s.profs s.fixts)),st):=by
 have h0:=L43 (g:=st.x.gl) hs hl hp _ 0 rfl
 rw[List.take_zero]at h0
 rw[run_shut F43 rfl rfl (by simp[V.bdL,rigE_bd])]
 push_cast[rigE,stFu,fulV,sumP]at h0
 push_cast[rigE,h0,stFu,fulV]
theorem f42 {s:Sho}(h:s.ok){st:St}:run Tryz.prog HH 42 [rigE s.curves s.profs s.fixts] st=some (.ret (.tup [rigE s.curves s.profs s.fixts,.int .i64 (uniC s.curves s.profs s.fixts)]),st):=by
 have h2:=fun(st:St)=>f71 (st:=st) h.c h.p h.f
 rw[run_shut F42 rfl rfl (by simp[V.bdL,rigE_bd])]
 push_cast[rigE]at h2
 push_cast[rigE,h2]
theorem f14 {s:Sho}{st:St}:run Tryz.prog HH 14 [s.v] st=some (.ret (rigE s.curves s.profs s.fixts),st):=by
 rw[run_shut F14 rfl rfl (by simp)]
 push_cast[Sho.v,rigE]
theorem uniC_0 {s:Sho}(hs:shoC s=0):uniC s.curves s.profs s.fixts=0:=by
 have:=shoC_parts hs
 unfold uniC
 rw[this.2.1,this.2.2.1,this.2.2.2.1];rfl
theorem f13 {s:Sho}(h:s.ok)(hs:shoC s=0)(hl:s.fixts.length<1000){st:St}:run Tryz.prog HH 13 [rigE s.curves s.profs s.fixts] st=some (.ret (.tup [.agg (fulV s.profs s.fixts),.int .i64 0]),st):=by
 have h1:=fun(st:St)=>f42 (st:=st) h
 have h2:=fun(st:St)=>f43 (st:=st) hs hl h.p.1
 rw[uniC_0 hs]at h1
 rw[run_shut F13 rfl rfl (by simp[V.bdL,rigE_bd])]
 push_cast[rigE,fulV]at h1 h2
 push_cast[rigE,h1,h2,fulV]
end Go.Proofs.YtakiodkbjgdnoaaGreatDoor

namespace Go.Proofs.YtakiodkbjgdnoaaGreatDoor
open Go.Sha Go.RowKit
set_option maxRecDepth 100000
variable {g:List (Nat×Obj)}{n:Nat}
def addK (ks:List (List UInt8))(x:Fixt):List (List UInt8):=if x.cable∈ks then ks else ks++[x.cable]
def keysF (l:List Fixt):List (List UInt8):=l.foldl addK []
theorem keysF_snoc {l:List Fixt}{x:Fixt}:keysF (l++[x])=addK (keysF l) x:=by simp[keysF]
def grpK (p:List Fixt)(k:List UInt8):List Fixt:=p.filter fun x=>x.cable == k
theorem grpK_snoc {p:List Fixt}{x:Fixt}{k:List UInt8}:grpK (p++[x]) k=if x.cable=k then grpK p k++[x] else grpK p k:=by
 unfold grpK
 rw[List.filter_append]
 by_cases h:x.cable=k<;>simp[h]
theorem snoc_ind {α:Type}{M:List α→Prop}(h0:M [])(h1:∀l x,M l→M (l++[x]))(l:List α):M l:=by
 rw[←l.reverse_reverse]
 induction l.reverse with
 |nil=>exact h0
 |cons x r ih=>rw[List.reverse_cons];exact h1 _ _ ih
theorem keysF_mem {k:List UInt8}(l:List Fixt):k∈keysF l↔∃x∈l,x.cable=k:=by
 refine snoc_ind (M:=fun l=>k∈keysF l↔∃x∈l,x.cable=k) (by simp[keysF]) (fun l x ih=>?_) l
 rw[keysF_snoc,addK]
 split
 ·rename_i h
  rw[ih]
  refine⟨fun⟨y,h1,h2⟩=>⟨y,by simp[h1],h2⟩,fun⟨y,h1,h2⟩=>?_⟩
  rcases List.mem_append.1 h1 with h1|h1
  ·exact⟨y,h1,h2⟩
  ·rw[List.mem_singleton.1 h1]at h2
   rw[←h2]at ih ⊢
   exact ih.1 h
 ·rw[List.mem_append,List.mem_singleton,ih]
  refine⟨fun h=>?_,fun⟨y,h1,h2⟩=>?_⟩
  ·rcases h with⟨y,h1,h2⟩|h
   ·exact⟨y,by simp[h1],h2⟩
   ·exact⟨x,by simp,h.symm⟩
  ·rcases List.mem_append.1 h1 with h1|h1
   ·exact .inl ⟨y,h1,h2⟩
   ·rw[List.mem_singleton.1 h1]at h2;exact .inr h2.symm
theorem keysF_nodup (l:List Fixt):(keysF l).Nodup:=by
 refine snoc_ind (M:=fun l=>(keysF l).Nodup) (by simp[keysF]) (fun l x ih=>?_) l
 rw[keysF_snoc,addK]
 split
 ·exact ih
 ·rename_i h
  refine List.nodup_append.2 ⟨ih,by simp,fun a ha b hb=>?_⟩
  rw[List.mem_singleton.1 hb]
  intro e;rw[e]at ha;exact h ha
theorem keysF_len (l:List Fixt):(keysF l).length≤l.length:=by
 refine snoc_ind (M:=fun l=>(keysF l).length≤l.length) (by simp[keysF]) (fun l x ih=>?_) l
 rw[keysF_snoc,addK,List.length_append,List.length_singleton]
 split
 ·omega
 ·rw[List.length_append,List.length_singleton];omega
def plE:List (List UInt8)→Nat→List (V×V)
 |[],_=>[]
 |k::r,i=>(.str k,.int .i64 i)::plE r (i+1)
theorem plE_app {s:List UInt8}:∀{ks:List (List UInt8)}{i:Nat},plE (ks++[s]) i=plE ks i++[(.str s,.int .i64 ((i+ks.length:Nat):Int))]
 |[],i=>by simp[plE]
 |k::r,i=>by
  rw[List.cons_append,plE,plE,plE_app,List.cons_append,List.length_cons]
  rw[show i+1+r.length=i+(r.length+1) by omega]
theorem find_plE {s:List UInt8}:∀{ks:List (List UInt8)}{i j:Nat},(s ∉ ks∧findV (.str s) (plE ks i) j=some none)∨∃m,ks[m]?=some s∧findV (.str s) (plE ks i) j=some (some (j+m,.int .i64 ((i+m:Nat):Int)))
 |[],i,j=>.inl ⟨by simp,rfl⟩
 |k::r,i,j=>by
  by_cases h:s=k
  ·refine .inr ⟨0,by simp[h],?_⟩
   simp[plE,findV,sameV,h]
  ·have e:findV (.str s) (plE (k::r) i) j=findV (.str s) (plE r (i+1)) (j+1):=by
    simp[plE,findV,sameV,beq_eq_false_iff_ne.2 h]
   rw[e]
   rcases find_plE (s:=s) (ks:=r) (i:=i+1) (j:=j+1) with⟨h1,h2⟩|⟨m,h1,h2⟩
   ·exact .inl ⟨by simp[h,h1],h2⟩
   ·refine .inr ⟨m+1,by simpa using h1,?_⟩
    rw[h2,show j+1+m=j+(m+1) by omega,show i+1+m=i+(m+1) by omega]
theorem plE_all:∀{ks:List (List UInt8)}{i:Nat},((plE ks i).all fun p=>p.1.bd n&&p.2.bd n)=true
 |[],_=>rfl
 |k::r,i=>by
  have:=plE_all (ks:=r) (i:=i+1)
  simp[plE,V.bd,this]
attribute [push_cast] plE_all
theorem f74 {x:Fixt}{j:Int}{st:St}:run Tryz.prog HH 74 [.int .i64 j,x.v] st=some (.ret (.str x.cable),st):=by
 rw[run_shut F74 rfl rfl (by simp)]
 push_cast[Fixt.v]
 all_goals first|with_reducible rfl|exact dn_eq (by omega) (by with_reducible rfl)|((repeat' split)<;>(try simp_all)<;>(try (with_reducible refine dn_eq ?_ ?_<;>first|trivial|omega|rfl))<;>(try omega))
def refsG (p:List Fixt):List Nat→List (List UInt8)→List V
 |r::R,k::ks=>.osl r (grpK p k).length::refsG p R ks
 |_,_=>[]
abbrev rowA' (p:List Fixt)(k:List UInt8):Arr:=⟨50,7,(grpK p k).map Fixt.v,false,false⟩
def rowsG (p:List Fixt):List Nat→List (List UInt8)→List (Nat×Arr)
 |r::R,k::ks=>(r,rowA' p k)::rowsG p R ks
 |_,_=>[]
theorem refsG_at {p:List Fixt}:∀{R:List Nat}{ks:List (List UInt8)}{i r:Nat}{k:List UInt8},R[i]?=some r→ks[i]?=some k→(refsG p R ks)[i]?=some (.osl r (grpK p k).length)
 |[],_,i,_,_,h,_=>by simp at h
 |_::_,[],i,_,_,_,h=>by simp at h
 |r'::R,k'::ks,i,r,k,h1,h2=>by
  cases i with
  |zero=>simp at h1 h2;subst h1 h2;rfl
  |succ i=>simp at h1 h2;simpa [refsG] using refsG_at h1 h2
theorem refsG_len {p:List Fixt}:∀{R:List Nat}{ks:List (List UInt8)},R.length=ks.length→(refsG p R ks).length=ks.length
 |[],[],_=>rfl
 |_::_,[],h=>by simp at h
 |[],_::_,h=>by simp at h
 |r::R,k::ks,h=>by simp at h;simp[refsG,refsG_len h]
theorem refsG_app {p:List Fixt}{r:Nat}{k:List UInt8}:∀{R:List Nat}{ks:List (List UInt8)},R.length=ks.length→refsG p (R++[r]) (ks++[k])=refsG p R ks++[.osl r (grpK p k).length]
 |[],[],_=>rfl
 |_::_,[],h=>by simp at h
 |[],_::_,h=>by simp at h
 |r::R,k::ks,h=>by simp at h;simp[refsG,refsG_app h]
theorem refsG_set {p:List Fixt}{x:Fixt}:∀{R:List Nat}{ks:List (List UInt8)}{i r:Nat},ks.Nodup→R[i]?=some r→ks[i]?=some x.cable→refsG (p++[x]) R ks=(refsG p R ks).set i (.osl r ((grpK p x.cable).length+1))
 |[],_,i,_,_,h,_=>by simp at h
 |_::_,[],i,_,_,_,h=>by simp at h
 |r'::R,k'::ks,i,r,hn,h1,h2=>by
  obtain⟨n1,n2⟩:=List.nodup_cons.1 hn
  cases i with
  |zero =>
   simp at h1 h2;subst h1 h2
   have:∀{R:List Nat}{ks:List (List UInt8)},x.cable ∉ ks→refsG (p++[x]) R ks=refsG p R ks:=by
    intro R ks
    induction ks generalizing R with
    |nil=>intro _;cases R<;>rfl
    |cons k ks ih =>
     intro h
     cases R with
     |nil=>rfl
     |cons r R =>
      simp at h
      rw[refsG,refsG,ih (R:=R) h.2,grpK_snoc,if_neg h.1]
   rw[refsG,refsG,this n1,grpK_snoc,if_pos rfl]
   simp
  |succ i =>
   simp at h1 h2
   have hne:¬x.cable=k':=fun e=>by rw[←e]at n1;exact n1 (List.mem_of_getElem? h2)
   rw[refsG,refsG,refsG_set n2 h1 h2,grpK_snoc,if_neg hne]
   rfl
theorem refsG_no {p:List Fixt}{x:Fixt}:∀{R:List Nat}{ks:List (List UInt8)},x.cable ∉ ks→refsG (p++[x]) R ks=refsG p R ks
 |[],_,_=>rfl
 |_::_,[],_=>rfl
 |r::R,k::ks,h=>by
  simp at h
  rw[refsG,refsG,refsG_no h.2,grpK_snoc,if_neg h.1]
theorem look_rows {p:List Fixt}:∀{R:List Nat}{ks:List (List UInt8)}{i r:Nat}{k:List UInt8},R.Nodup→R[i]?=some r→ks[i]?=some k→Sha.look (rowsG p R ks) r=some (rowA' p k)
 |[],_,i,_,_,_,h,_=>by simp at h
 |_::_,[],i,_,_,_,_,h=>by simp at h
 |r'::R,k'::ks,i,r,k,hn,h1,h2=>by
  obtain⟨n1,n2⟩:=List.nodup_cons.1 hn
  cases i with
  |zero=>simp at h1 h2;subst h1 h2;simp[rowsG,Sha.look]
  |succ i =>
   simp at h1 h2
   have hne:¬r'=r:=fun e=>by rw[e]at n1;exact n1 (List.mem_of_getElem? h1)
   rw[rowsG,Sha.look,if_neg hne]
   exact look_rows n2 h1 h2
theorem look_rows_inv {p:List Fixt}:∀{R:List Nat}{ks:List (List UInt8)}{r:Nat}{a:Arr},Sha.look (rowsG p R ks) r=some a→∃(i:Nat) (k:List UInt8),R[i]?=some r∧ks[i]?=some k∧a=rowA' p k
 |[],_,_,_,h=>by simp[rowsG,Sha.look]at h
 |_::_,[],_,_,h=>by simp[rowsG,Sha.look]at h
 |r'::R,k'::ks,r,a,h=>by
  rw[rowsG,Sha.look]at h
  split at h
  ·rename_i e;subst e;cases h;exact⟨0,k',rfl,rfl,rfl⟩
  ·obtain⟨i,k,h1,h2,h3⟩:=look_rows_inv h
   exact⟨i+1,k,by simpa using h1,by simpa using h2,h3⟩
abbrev outA (p:List Fixt)(R:List Nat)(ks:List (List UInt8)):Arr:=⟨24,1,refsG p R ks,true,false⟩
def stGr (g:List (Nat×Obj))(N:Nat)(R:List Nat)(p:List Fixt):St:=⟨N,[],(1,outA p R (keysF p))::rowsG p R (keysF p),⟨[(0,.map (plE (keysF p) 0))],g,[]⟩⟩
structure GoodR (N:Nat) (R:List Nat) (ks:List (List UInt8)):Prop where
 gt:1<N
 len:R.length=ks.length
 nd:R.Nodup
 lt:∀r∈R,1<r∧r<N
theorem refsG_bd {p:List Fixt}{N:Nat}:∀{R:List Nat}{ks:List (List UInt8)},(∀r∈R,r<N)→V.bdL N (refsG p R ks)=true
 |[],_,_=>rfl
 |_::_,[],_=>rfl
 |r::R,k::ks,h=>by
  simp only[refsG,V.bdL,V.bd,Bool.and_eq_true,decide_eq_true_eq]
  exact⟨h r (by simp),refsG_bd fun r' hr=>h r' (by simp[hr])⟩
theorem fix_bd {l:List Fixt}:V.bdL n (l.map Fixt.v)=true:=by rw[bdL_map'];simp[V.bd,V.bdL]
theorem weakGr {N:Nat}{M:List (Nat×List V)}{A:List (Nat×Arr)}{R:List Nat}{p:List Fixt}(hG:GoodR N R (keysF p))(h1:Sha.look A 1=some (outA p R (keysF p)))(h2:∀(i r:Nat) (k:List UInt8),R[i]?=some r→(keysF p)[i]?=some k→Sha.look A r=some (rowA' p k)) :
  Weak N ⟨N,M,A,⟨[(0,.map (plE (keysF p) 0))],g,[]⟩⟩ (stGr g N R p) where
 nx:=rfl
 le:=Nat.le_refl _
 mem id cs h:=by cases h
 arr id ar h:=by
  simp only[stGr,Sha.look]at h
  split at h
  ·rename_i e;subst e;cases h;exact⟨hG.gt,h1⟩
  ·obtain⟨i,k,a1,a2,rfl⟩:=look_rows_inv h
   exact⟨(hG.lt id (List.mem_of_getElem? a1)).2,h2 i id k a1 a2⟩
 bdm id cs h:=by cases h
 bda id ar h:=by
  simp only[stGr,Sha.look]at h
  split at h
  ·cases h;exact refsG_bd fun r hr=>(hG.lt r hr).2
  ·obtain⟨i,k,a1,a2,rfl⟩:=look_rows_inv h
   exact fix_bd
 x:=by
  refine⟨fun id o h=>?_,rfl,fun id T h=>by cases h⟩
  simp only[stGr,Sha.look]at h
  split at h
  ·rename_i e;subst e;cases h;exact⟨by have:=hG.gt;show 0<N;omega,rfl⟩
  ·cases h
 bdx id o h:=by
  simp only[stGr,Sha.look]at h
  split at h
  ·cases h;exact plE_all
  ·cases h
end Go.Proofs.YtakiodkbjgdnoaaGreatDoor

namespace Go.Proofs.YtakiodkbjgdnoaaGreatDoor
open Go.Sha Go.RowKit
set_option maxRecDepth 100000
variable {g:List (Nat×Obj)}{n:Nat}
def l73:List Ins:=[.m 40 6,.m 41 10,.m 42 6,.m 43 10,.r 44 1 42 43,.l 45 44,.d 46 7 8,.s 47 (.bslice 50 7 [.t 46]),.s 48 (.append 50 7 72 (.t 45) (.t 47)),.r 49 1 40 41,.w 1 49 48]
def f73s:List (List Bool):=[[],[],[],[],[],[],[],[false,true,true,true,true,true,true],[false,false,false,false,false,false,true,true],[],[false,false,false,false,false,false,false,false,false,false]]
abbrev G73:Cd:=.greg [] [] f73s l73
abbrev eG (l:List Fixt)(x:Fixt)(k i j:Nat):Env:=[(1,.fn (.func 74) [] []),(5,.mp 0),(6,.osl 1 k),(8,.ep x.v 0),(10,.int .i64 i),(13,.sl (l.map Fixt.v)),(14,.int .i64 l.length),(15,.int .i64 j)]
abbrev LG:List Nat:=[1,5,6,13,14,15]
theorem greg_old {F:Fr}{l:List Fixt}{x:Fixt}{k i j N r m:Nat}{A:List (Nat×Arr)}{X:Ex}{xs ys:List V}{Q:Post}(hi:i<k)(hl:xs.length=k)(hx:xs[i]?=some (.osl r m))(h1:Sha.look A 1=some ⟨24,1,xs,true,false⟩)(hr:Sha.look A r=some ⟨50,7,ys,false,false⟩)(hm:ys.length=m)(hm2:m<1000)(hr1:1<r)(hrN:r<N)
  (hq:∀e A',(∀s∈LG,Sha.look e s=Sha.look (eG l x k i j) s)→Sha.look A' 1=some ⟨24,1,xs.set i (.osl r (m+1)),true,false⟩→Sha.look A' r=some ⟨50,7,ys++[x.v],false,false⟩→(∀s,s≠1→s≠r→s<N→Sha.look A' s=Sha.look A s)→Q .normal e ⟨N+1,[],A',X⟩) :
  WD Tryz.prog F G73 (eG l x k i j) ⟨N,[],A,X⟩ Q:=by
 refine WD.gregG mixed ?_
 have hN1:¬N=1:=by omega
 have hNr:¬N=r:=by omega
 have h1r:¬1=r:=by omega
 have hr1':¬r=1:=by omega
 have hroom:roomV (m+1) 72=true:=roomV_lit (by omega) (by omega)
 rw[l73,f73s]
 refine vcG_q rfl rfl rfl (v:=.osl 1 k) rfl ?_
 refine vcG_q rfl rfl rfl (v:=.int .i64 i) rfl ?_
 refine vcG_q rfl rfl rfl (v:=.osl 1 k) rfl ?_
 refine vcG_q rfl rfl rfl (v:=.int .i64 i) rfl ?_
 refine vcG_q rfl rfl rfl (v:=.op 1 k i 1 0) (by simp[evq,evs,Opd.get,setD,Sha.look,iadrV,natV,hi,h1,hl,hN1,look_updA,h1r]) ?_
 refine vcG_q rfl rfl rfl (v:=.osl r m) (by simp[evq,evs,Opd.get,setD,Sha.look,loadV,iadrV,natV,V.cells,h1,hl,hx,rd]) ?_
 refine vcG_q rfl rfl rfl (v:=x.v) rfl ?_
 refine vcG_s rfl (v:=.osl N 1) (st':=⟨N+1,[],(N,⟨50,7,[x.v],false,false⟩)::A,X⟩) (.inl ⟨rfl,?_⟩) ?_
 ·rfl
 refine reQ_c rfl (by simp[evq,evs,valD,Opd.get,setD,Sha.look,loadV,iadrV,natV,V.cells,h1,hl,hx,rd,hN1]) ?_
 refine reQ_c rfl (by simp[evq,evs,valD,Opd.get,setD,Sha.look,iadrV,natV,hi,h1,hl,hN1,look_updA,h1r]) ?_
 refine reQ_c rfl rfl ?_
 refine reQ_c rfl rfl ?_
 refine reQ_c rfl rfl ?_
 refine reQ_c rfl rfl ?_
 refine reQ_n ?_
 refine vcG_s rfl (v:=.osl r (m+1)) (st':=⟨N+1,[],(N,⟨50,7,[x.v],false,false⟩)::updA A r ⟨50,7,ys++[x.v],false,false⟩,X⟩) (.inl ⟨rfl,?_⟩) ?_
 ·have e1:∀st:St,mapO (snapA st) [x.v]=some [x.v]:=fun _=>rfl
  have e2:x.v.cells.length=7:=rfl
  simp[stv,appendV,elemsV,appG,appA,Opd.get,setD,Sha.look,e1,e2,hNr,hr,hm,hroom,updA]
 refine reQ_c rfl rfl ?_
 refine reQ_c rfl rfl ?_
 refine reQ_n ?_
 refine vcG_q rfl rfl rfl (v:=.op 1 k i 1 0) (by simp[evq,evs,Opd.get,setD,Sha.look,iadrV,natV,hi,h1,hl,hN1,look_updA,h1r]) ?_
 refine vcG_s rfl (v:=.und) (st':=⟨N+1,[],(N,⟨50,7,[x.v],false,false⟩)::updA (updA A r ⟨50,7,ys++[x.v],false,false⟩) 1 ⟨24,1,xs.set i (.osl r (m+1)),true,false⟩,X⟩) (.inr (.inr ⟨rfl,true,?_⟩)) ?_
 ·simp[Sha.stR,storeR,Opd.get,setD,Sha.look,partOk,V.cells,V.recell,V.isAgg,iadrV,hN1,hNr,hr,hm,look_updA,h1r,h1,hl,hx,updA]
 refine reQ_n ?_
 refine hq _ _ (fun s hs=>?_) ?_ ?_ (fun s a1 a2 a3=>?_)
 ·simp only[List.mem_cons,List.not_mem_nil,or_false]at hs
  rcases hs with rfl|rfl|rfl|rfl|rfl|rfl<;>rfl
 ·simp[Sha.look,hN1,look_updA,h1r,h1]
 ·simp[Sha.look,hNr,look_updA,hr1',hr]
 ·have a4:¬N=s:=by omega
  simp[Sha.look,a4,look_updA,a1,a2]
theorem greg_new {F:Fr}{l:List Fixt}{x:Fixt}{k i j N:Nat}{A:List (Nat×Arr)}{X:Ex}{xs:List V}{Q:Post}(hi:i<k)(hl:xs.length=k)(hx:xs[i]?=some .nils)(h1:Sha.look A 1=some ⟨24,1,xs,true,false⟩)(hN:1<N)
  (hq:∀e A',(∀s∈LG,Sha.look e s=Sha.look (eG l x k i j) s)→Sha.look A' 1=some ⟨24,1,xs.set i (.osl (N+1) 1),true,false⟩→Sha.look A' (N+1)=some ⟨50,7,[x.v],false,false⟩→(∀s,s≠1→s<N→Sha.look A' s=Sha.look A s)→Q .normal e ⟨N+2,[],A',X⟩) :
  WD Tryz.prog F G73 (eG l x k i j) ⟨N,[],A,X⟩ Q:=by
 refine WD.gregG mixed ?_
 have hN1:¬N=1:=by omega
 have hNs:¬N+1=N:=by omega
 have hN1s:¬N+1=1:=by omega
 have hN0:¬N=0:=by omega
 have hroom:roomV 1 72=true:=by decide
 rw[l73,f73s]
 refine vcG_q rfl rfl rfl (v:=.osl 1 k) rfl ?_
 refine vcG_q rfl rfl rfl (v:=.int .i64 i) rfl ?_
 refine vcG_q rfl rfl rfl (v:=.osl 1 k) rfl ?_
 refine vcG_q rfl rfl rfl (v:=.int .i64 i) rfl ?_
 refine vcG_q rfl rfl rfl (v:=.op 1 k i 1 0) (by simp[evq,evs,Opd.get,setD,Sha.look,iadrV,natV,hi,h1,hl,hN1,hN1s,hN0,look_updA]) ?_
 refine vcG_q rfl rfl rfl (v:=.nils) (by simp[evq,evs,Opd.get,setD,Sha.look,loadV,iadrV,natV,V.cells,h1,hl,hx,rd]) ?_
 refine vcG_q rfl rfl rfl (v:=x.v) rfl ?_
 refine vcG_s rfl (v:=.osl N 1) (st':=⟨N+1,[],(N,⟨50,7,[x.v],false,false⟩)::A,X⟩) (.inl ⟨rfl,?_⟩) ?_
 ·rfl
 refine reQ_c rfl (by simp[evq,evs,valD,Opd.get,setD,Sha.look,loadV,iadrV,natV,V.cells,h1,hl,hx,rd,hN1]) ?_
 refine reQ_c rfl (by simp[evq,evs,valD,Opd.get,setD,Sha.look,iadrV,natV,hi,h1,hl,hN1,hN1s,hN0,look_updA]) ?_
 refine reQ_c rfl rfl ?_
 refine reQ_c rfl rfl ?_
 refine reQ_c rfl rfl ?_
 refine reQ_c rfl rfl ?_
 refine reQ_n ?_
 refine vcG_s rfl (v:=.osl (N+1) 1) (st':=⟨N+2,[],(N+1,⟨50,7,[x.v],false,false⟩)::(N,⟨50,7,[x.v],false,false⟩)::A,X⟩) (.inl ⟨rfl,?_⟩) ?_
 ·have e1:∀st:St,mapO (snapA st) [x.v]=some [x.v]:=fun _=>rfl
  have e2:x.v.cells.length=7:=rfl
  simp[stv,appendV,elemsV,appG,appA,Opd.get,setD,Sha.look,e1,e2,hroom,updA]
 refine reQ_c rfl rfl ?_
 refine reQ_c rfl rfl ?_
 refine reQ_n ?_
 refine vcG_q rfl rfl rfl (v:=.op 1 k i 1 0) (by simp[evq,evs,Opd.get,setD,Sha.look,iadrV,natV,hi,h1,hl,hN1,hN1s,hN0,look_updA]) ?_
 refine vcG_s rfl (v:=.und) (st':=⟨N+2,[],(N+1,⟨50,7,[x.v],false,false⟩)::(N,⟨50,7,[x.v],false,false⟩)::updA A 1 ⟨24,1,xs.set i (.osl (N+1) 1),true,false⟩,X⟩) (.inr (.inr ⟨rfl,true,?_⟩)) ?_
 ·simp[Sha.stR,storeR,Opd.get,setD,Sha.look,partOk,V.cells,V.recell,V.isAgg,iadrV,hN1,hN1s,hN0,look_updA,h1,hl,hx,updA]
 refine reQ_n ?_
 refine hq _ _ (fun s hs=>?_) ?_ ?_ (fun s a1 a3=>?_)
 ·simp only[List.mem_cons,List.not_mem_nil,or_false]at hs
  rcases hs with rfl|rfl|rfl|rfl|rfl|rfl<;>rfl
 ·simp[Sha.look,hN1,hN0,look_updA,h1]
 ·simp[Sha.look]
 ·have a4:¬N=s:=by omega
  have a5:¬N+1=s:=by omega
  simp[Sha.look,a4,a5,look_updA,a1]
end Go.Proofs.YtakiodkbjgdnoaaGreatDoor

namespace Go.Proofs.YtakiodkbjgdnoaaGreatDoor
open Go.Sha Go.RowKit
set_option maxRecDepth 100000
variable {g:List (Nat×Obj)}{n:Nat}
def pre73:Cd:=(.g [.m 17 15,.r 18 7 13 15,.d 19 7 18,.s 8 (.alloc 50 [.i 0,.i 0,(.str []),.i 0,.i 0,.i 0,(.str [])]),.m 7 17,.w 7 8 19]  (.z [8] (.g [.m 20 1,.m 21 7,.d 22 7 8,.s 23 (.call (.t 20) [.t 21,.t 22]),.m 9 23]  (.g [.m 25 5,.m 26 9,.s 27 (.act (.look .s (.i 0) true) [.t 25,.t 26]),.m 24 27,.j 28 0 24,.j 29 1 24,.m 10 28,.m 11 29]  (.join [1,5,6,8,10,13,14,15] (.g [.m 30 11,.z 31 30]  (.i 31 (.g [.m 32 6,.u 33 32,.m 10 33]  (.g [.m 34 5,.m 35 9,.m 36 10,.n (.act (.mset .s) [.t 34,.t 35,.t 36])]  (.reg [.m 37 6,.s 38 (.bslice 24 1 [(.c .nils)]),.s 39 (.append 24 1 24 (.t 37) (.t 38)),.m 6 39])))  .skip))  .skip)))))
def inc73:Cd:=(.reg [.v 50 .add 15 1,.m 15 50])
theorem B73_eq:B73_0=.g [.b 16 .lss 15 14] (.join LG (.i 16 .skip (.exit [6] 0)) (.join LG (.block 1 (pre73.put G73)) inc73)):=rfl
abbrev eK (l:List Fixt)(k j:Nat):Env:=[(1,.fn (.func 74) [] []),(5,.mp 0),(6,.osl 1 k),(13,.sl (l.map Fixt.v)),(14,.int .i64 l.length),(15,.int .i64 j)]
theorem run_pre_old {l p:List Fixt}{x:Fixt}{i j N:Nat}{R:List Nat}(hj:j<l.length)(hx:∀d,l.getD j d=x)(hi:(keysF p)[i]?=some x.cable) :
  runC Tryz.prog HH pre73 (eK l (keysF p).length j) (stGr g N R p)=some (.normal,eG l x (keysF p).length i j,⟨N+1,[],(1,outA p R (keysF p))::rowsG p R (keysF p),⟨[(0,.map (plE (keysF p) 0))],g,[]⟩⟩):=by
 have hjl:(j:Int)<l.length:=by omega
 have hm:∀st:St,lookB st (.int .i64 0) true (findV (.str x.cable) (plE (keysF p) 0) 0)=some (.tup [.int .i64 i,.bool true],st):=fun st=>by
  rcases find_plE (s:=x.cable) (ks:=keysF p) (i:=0) (j:=0) with⟨h1,h2⟩|⟨m,h1,h2⟩
  ·exact absurd (List.mem_of_getElem? hi) h1
  ·have:m=i:=by
    have hlt:=(List.getElem?_eq_some_iff.1 h1).1
    exact(List.getElem?_inj hlt (keysF_nodup p)).1 (h1.trans hi.symm)
   subst this
   rw[h2];simp[lookB]
 have h74:=fun(st:St)=>f74 (x:=x) (j:=j) (st:=st)
 unfold stGr pre73
 push_cast[Fixt.v]at h74
 push_cast[hjl,hx,Fixt.v,h74,hm]
def pre1:Cd:=(.g [.m 17 15,.r 18 7 13 15,.d 19 7 18,.s 8 (.alloc 50 [.i 0,.i 0,(.str []),.i 0,.i 0,.i 0,(.str [])]),.m 7 17,.w 7 8 19]  (.z [8] (.g [.m 20 1,.m 21 7,.d 22 7 8,.s 23 (.call (.t 20) [.t 21,.t 22]),.m 9 23]  (.g [.m 25 5,.m 26 9,.s 27 (.act (.look .s (.i 0) true) [.t 25,.t 26]),.m 24 27,.j 28 0 24,.j 29 1 24,.m 10 28,.m 11 29] .skip))))
def new1:Cd:=(.g [.m 32 6,.u 33 32,.m 10 33]  (.g [.m 34 5,.m 35 9,.m 36 10,.n (.act (.mset .s) [.t 34,.t 35,.t 36])] .skip))
abbrev regN:Cd:=.reg [.m 37 6,.s 38 (.bslice 24 1 [(.c .nils)]),.s 39 (.append 24 1 24 (.t 37) (.t 38)),.m 6 39]
def J73:Cd:=.g [.m 30 11,.z 31 30] (.i 31 (new1.put regN) .skip)
theorem X73_eq:pre73.put G73=pre1.put (.join [1,5,6,8,10,13,14,15] J73 G73):=rfl
theorem run_pre1 {l p:List Fixt}{x:Fixt}{j N:Nat}{R:List Nat}(hj:j<l.length)(hx:∀d,l.getD j d=x)(hi:x.cable ∉ keysF p) :
  ∃e,runC Tryz.prog HH pre1 (eK l (keysF p).length j) (stGr g N R p)=some (.normal,e,⟨N+1,[],(1,outA p R (keysF p))::rowsG p R (keysF p),⟨[(0,.map (plE (keysF p) 0))],g,[]⟩⟩) ∧
   (∀s∈LG,Sha.look e s=Sha.look (eK l (keysF p).length j) s)∧Sha.look e 8=some (.ep x.v 0)∧Sha.look e 9=some (.str x.cable)∧Sha.look e 11=some (.bool false):=by
 have hjl:(j:Int)<l.length:=by omega
 have hf:findV (.str x.cable) (plE (keysF p) 0) 0=some none:=by
  rcases find_plE (s:=x.cable) (ks:=keysF p) (i:=0) (j:=0) with⟨h1,h2⟩|⟨m,h1,h2⟩
  ·exact h2
  ·exact absurd (List.mem_of_getElem? h1) hi
 have hm:∀st:St,lookB st (.int .i64 0) true (findV (.str x.cable) (plE (keysF p) 0) 0)=some (.tup [.int .i64 0,.bool false],st):=fun st=>by rw[hf];simp[lookB]
 have h74:=fun(st:St)=>f74 (x:=x) (j:=j) (st:=st)
 generalize hz:runC Tryz.prog HH pre1 _ (stGr g N R p)=z
 unfold stGr pre1 at hz
 push_cast[Fixt.v]at h74
 push_cast[hjl,hx,Fixt.v,h74,hm]at hz
 subst hz
 refine⟨_,rfl,fun s hs=>?_,rfl,rfl,rfl⟩
 simp only[List.mem_cons,List.not_mem_nil,or_false]at hs
 rcases hs with rfl|rfl|rfl|rfl|rfl|rfl<;>rfl
abbrev eM (l:List Fixt)(x:Fixt)(k j:Nat):Env:=[(1,.fn (.func 74) [] []),(5,.mp 0),(6,.osl 1 k),(8,.ep x.v 0),(9,.str x.cable),(11,.bool false),(13,.sl (l.map Fixt.v)),(14,.int .i64 l.length),(15,.int .i64 j)]
theorem WD_new {F:Fr}{l p:List Fixt}{x:Fixt}{e:Env}{j N:Nat}{R:List Nat}{Q:Post}(hi:x.cable ∉ keysF p)(hG:GoodR N R (keysF p))(hk:(keysF p).length<1000)(h1:∀s∈LG,Sha.look e s=Sha.look (eK l (keysF p).length j) s)(h8:Sha.look e 8=some (.ep x.v 0))(h9:Sha.look e 9=some (.str x.cable))(h11:Sha.look e 11=some (.bool false))
  (hq:∀e A',(∀s∈LG,Sha.look e s=Sha.look (eK l ((keysF p).length+1) j) s)→Sha.look A' 1=some ⟨24,1,refsG p R (keysF p)++[.osl (N+3) 1],true,false⟩→Sha.look A' (N+3)=some ⟨50,7,[x.v],false,false⟩→(∀s,s≠1→s<N→Sha.look A' s=Sha.look (rowsG p R (keysF p)) s)→Q .normal e ⟨N+4,[],A',⟨[(0,.map (plE (keysF p++[x.cable]) 0))],g,[]⟩⟩) :
  WD Tryz.prog F (.join [1,5,6,8,10,13,14,15] J73 G73) e ⟨N+1,[],(1,outA p R (keysF p))::rowsG p R (keysF p),⟨[(0,.map (plE (keysF p) 0))],g,[]⟩⟩ Q:=by
 refine WD.sub (env':=eM l x (keysF p).length j) (fun i v hv=>?_) ?_
 ·simp only[Sha.look]at hv
  (repeat' split at hv)<;>first
   |(cases hv;done)
   |(rename_i e;subst e;cases hv;first|exact h8|exact h9|exact h11|exact(h1 _ (by simp)).trans rfl)
 have hlen:=refsG_len (p:=p) hG.len
 have hroom:roomV ((keysF p).length+1) 24=true:=roomV_lit (by omega) (by omega)
 have hf:findV (.str x.cable) (plE (keysF p) 0) 0=some none:=by
  rcases find_plE (s:=x.cable) (ks:=keysF p) (i:=0) (j:=0) with⟨h1,h2⟩|⟨m,h1,h2⟩
  ·exact h2
  ·exact absurd (List.mem_of_getElem? h1) hi
 have hs:∀(st:St) (i:Nat),msetB st i (plE (keysF p) 0) (.str x.cable) (.int .i64 (keysF p).length) (findV (.str x.cable) (plE (keysF p) 0) 0)=some (.und,⟨st.nx,st.mem,st.arr,⟨updO st.x.obj i (.map (plE (keysF p++[x.cable]) 0)),st.x.gl,st.x.ty⟩⟩):=fun st i=>by
  rw[hf,plE_app,Nat.zero_add];simp[msetB,putM]
 have hN1:¬N+1=1:=by have:=hG.gt;omega
 refine WD.join (WD.seq (WD.ev mixed HH_ok (x:=.normal) (e:=(31,.bool true)::(30,.bool false)::eM l x (keysF p).length j) (s:=⟨N+1,[],(1,outA p R (keysF p))::rowsG p R (keysF p),⟨[(0,.map (plE (keysF p) 0))],g,[]⟩⟩) (by push_cast) ?_))
 show WD _ _ (.i 31 (new1.put regN) .skip) _ _ _
 refine WD.cond (t:=true) rfl (fun _=>?_) (fun h=>by cases h)
 refine WD.run mixed HH_ok (x:=.normal) (e:=(36,.int .i64 (keysF p).length)::(35,.str x.cable)::(34,.mp 0)::(10,.int .i64 (keysF p).length)::(33,.int .i64 (keysF p).length)::(32,.osl 1 (keysF p).length)::(31,.bool true)::(30,.bool false)::eM l x (keysF p).length j) (s:=⟨N+1,[],(1,outA p R (keysF p))::rowsG p R (keysF p),⟨[(0,.map (plE (keysF p++[x.cable]) 0))],g,[]⟩⟩) (by unfold new1;push_cast[hs,hlen]) ?_
 show WD _ _ regN _ _ _
 refine WD.regR [none,some false,some true,none] ?_
 have hN0:¬N=0:=by have:=hG.gt;omega
 refine vcR_op rfl (v:=.osl 1 (keysF p).length) rfl ?_
 refine vcR_raw false (v:=.osl (N+1) 1) (st':=⟨N+2,[],(N+1,⟨24,1,[.nils],false,false⟩)::(1,outA p R (keysF p))::rowsG p R (keysF p),⟨[(0,.map (plE (keysF p++[x.cable]) 0))],g,[]⟩⟩) rfl ?_
 refine vcR_raw true (v:=.osl 1 ((keysF p).length+1)) (st':=⟨N+2,[],(N+1,⟨24,1,[.nils],false,false⟩)::(1,⟨24,1,refsG p R (keysF p)++[.nils],true,false⟩)::rowsG p R (keysF p),⟨[(0,.map (plE (keysF p++[x.cable]) 0))],g,[]⟩⟩) ?_ ?_
 ·simp[Sha.stR,appR,Opd.get,setD,Sha.look,V.cells,elemsV,appG,appA,hN0,hN1,updA,hroom,hlen]
 refine vcR_op rfl (v:=.osl 1 ((keysF p).length+1)) rfl ?_
 show WD _ _ G73 (eG l x ((keysF p).length+1) (keysF p).length j) _ _
 refine greg_new (xs:=refsG p R (keysF p)++[.nils]) (by omega) (by simp[hlen]) (by rw[List.getElem?_append_right (by omega),hlen];simp) (by simp[Sha.look,hN1,hN0]) (by have:=hG.gt;omega) (fun e A' a1 a2 a3 a4=>?_)
 refine hq e A' (fun s hs=>?_) ?_ a3 (fun s b1 b2=>?_)
 ·rw[a1 s hs]
  simp only[List.mem_cons,List.not_mem_nil,or_false]at hs
  rcases hs with rfl|rfl|rfl|rfl|rfl|rfl<;>rfl
 ·rw[a2,List.set_append_right _ _ (by omega),hlen];simp
 ·rw[a4 s b1 (by omega)]
  have c1:¬N+1=s:=by omega
  have c2:¬1=s:=fun e=>b1 e.symm
  simp[Sha.look,c1,c2,hN0]
end Go.Proofs.YtakiodkbjgdnoaaGreatDoor

namespace Go.Proofs.YtakiodkbjgdnoaaGreatDoor
open Go.Sha Go.RowKit
set_option maxRecDepth 100000
variable {g:List (Nat×Obj)}{n:Nat}
theorem restr_LG {e:Env}{l:List Fixt}{k j:Nat}(h:∀s∈LG,Sha.look e s=Sha.look (eK l k j) s):restr LG e=eK l k j:=by
 have h1:=h 1 (by simp)
 have h2:=h 5 (by simp)
 have h3:=h 6 (by simp)
 have h4:=h 13 (by simp)
 have h5:=h 14 (by simp)
 have h6:=h 15 (by simp)
 simp only[restr,LG,List.map_cons,List.map_nil,h1,h2,h3,h4,h5,h6]
 rfl
theorem round73 {F : Fr}{l p : List Fixt}{x : Fixt}{j N : Nat}{R : List Nat}{Q : Post}(hl : l.length < 1000)(hj : j < l.length)(hx : ∀ d, l.getD j d = x)(hp : p.length = j)(hG : GoodR N R (keysF p))
    (hq : ∀ e st' N' R', st'.nx = N' → GoodR N' R' (keysF (p ++ [x])) → (∀ s ∈ LG, Sha.look e s = Sha.look (eK l (keysF (p ++ [x])).length (j + 1)) s) → Weak N' st' (stGr g N' R' (p ++ [x])) → Q .normal e st') :
    WD Tryz.prog F B73_0 (eK l (keysF p).length j) (stGr g N R p) Q := by
  rw [B73_eq]
  have hjl : (j : Int) < l.length := by omega
  have hkl := keysF_len p
  have hN1 := hG.gt
  have hrun : runC Tryz.prog HH (.g [.b 16 .lss 15 14] (.join LG (.i 16 .skip (.exit [6] 0)) .skip)) (eK l (keysF p).length j) (stGr g N R p) = some (.normal, eK l (keysF p).length j, stGr g N R p) := by
    push_cast [hjl]
  show WD _ _ (Cd.put (.g [.b 16 .lss 15 14] (.join LG (.i 16 .skip (.exit [6] 0)) .skip)) (.join LG (.block 1 (pre73.put G73)) inc73)) _ _ _
  refine WD.run mixed HH_ok hrun (WD.join (WD.block ?_))
  have hinc : ∀ (k : Nat) (e : Env) (st' : St), (∀ s ∈ LG, Sha.look e s = Sha.look (eK l k j) s) → (∀ e', (∀ s ∈ LG, Sha.look e' s = Sha.look (eK l k (j + 1)) s) → Q .normal e' st') → WD Tryz.prog F inc73 (restr LG e) st' Q := fun k e st' he hk => by
    rw [restr_LG he]
    have hw := iw1 (j := j) (by omega)
    refine WD.ev mixed HH_ok (x := .normal) (e := (15, .int .i64 (j + 1 : Nat)) :: (50, .int .i64 (j + 1 : Nat)) :: eK l k j) (s := st') (by unfold inc73; push_cast [hw]) ?_
    refine hk _ fun s hs => ?_
    simp only [List.mem_cons, List.not_mem_nil, or_false] at hs
    rcases hs with rfl | rfl | rfl | rfl | rfl | rfl <;> rfl
  by_cases hc : x.cable ∈ keysF p
  · obtain ⟨i, hi⟩ := List.getElem?_of_mem hc
    have hil := (List.getElem?_eq_some_iff.1 hi).1
    have hks : keysF (p ++ [x]) = keysF p := by rw [keysF_snoc, addK, if_pos hc]
    obtain ⟨r, hr⟩ : ∃ r, R[i]? = some r := ⟨R[i]'(by rw [hG.len]; exact hil), List.getElem?_eq_getElem _⟩
    obtain ⟨hr1, hrN⟩ := hG.lt r (List.mem_of_getElem? hr)
    have hr1' : ¬ 1 = r := by omega
    refine WD.run mixed HH_ok (run_pre_old hj hx hi) ?_
    have hgl : (grpK p x.cable).length ≤ p.length := List.length_filter_le _ _
    refine greg_old (r := r) (m := (grpK p x.cable).length) (ys := (grpK p x.cable).map Fixt.v) hil (refsG_len hG.len) (refsG_at hr hi) rfl (by rw [Sha.look, if_neg hr1']; exact look_rows hG.nd hr hi) (by simp) (by omega) hr1 (by omega) (fun e A' a1 a2 a3 a4 => ?_)
    refine hinc (keysF p).length e _ (fun s hs => ?_) (fun e' he' => ?_)
    · rw [a1 s hs]
      simp only [List.mem_cons, List.not_mem_nil, or_false] at hs
      rcases hs with rfl | rfl | rfl | rfl | rfl | rfl <;> rfl
    · have hG' : GoodR (N + 1 + 1) R (keysF (p ++ [x])) := by rw [hks]; exact ⟨by omega, hG.len, hG.nd, fun r hr => ⟨(hG.lt r hr).1, by have := (hG.lt r hr).2; omega⟩⟩
      refine hq e' _ (N + 1 + 1) R rfl hG' (by rw [hks]; exact he') ?_
      have hW : Weak (N + 1 + 1) ⟨N + 1 + 1, [], A', ⟨[(0, .map (plE (keysF (p ++ [x])) 0))], g, []⟩⟩ (stGr g (N + 1 + 1) R (p ++ [x])) := by
       refine weakGr hG' ?_ (fun i' r' k' b1 b2 => ?_)
       · rw [a2]
         rw [outA, refsG_set (keysF_nodup _) hr (by rw [hks]; exact hi), hks]
       · by_cases hii : i' = i
         · subst hii
           obtain rfl := Option.some.inj (b1.symm.trans hr)
           rw [hks] at b2
           obtain rfl := Option.some.inj (b2.symm.trans hi)
           rw [a3]
           simp only [rowA', grpK_snoc, if_pos, List.map_append, List.map_cons, List.map_nil]
         · have b3 := hG.lt r' (List.mem_of_getElem? b1)
           have b4 : r' ≠ r := fun e => hii ((List.getElem?_inj (List.getElem?_eq_some_iff.1 b1).1 hG.nd).1 (by rw [b1, hr, e]))
           rw [a4 r' (by omega) b4 (by omega), Sha.look, if_neg (by omega)]
           rw [hks] at b2
           rw [look_rows hG.nd b1 b2]
           have b5 : ¬ x.cable = k' := fun e => hii ((List.getElem?_inj (List.getElem?_eq_some_iff.1 b2).1 (keysF_nodup p)).1 (by rw [b2, hi, e]))
           simp only [rowA', grpK_snoc, if_neg b5]
      rw [hks] at hW
      exact hW
  · have hks : keysF (p ++ [x]) = keysF p ++ [x.cable] := by rw [keysF_snoc, addK, if_neg hc]
    obtain ⟨e1, hr1, h1, h8, h9, h11⟩ := run_pre1 (g := g) (N := N) (R := R) hj hx hc
    have hgr : grpK (p ++ [x]) x.cable = [x] := by
      rw [grpK_snoc, if_pos rfl, show grpK p x.cable = [] from List.filter_eq_nil_iff.2 fun y hy => by
        simp only [beq_iff_eq]; exact fun e => hc ((keysF_mem p).2 ⟨y, hy, e⟩)]
      rfl
    rw [X73_eq]
    refine WD.run mixed HH_ok hr1 ?_
    refine WD_new hc hG (by omega) h1 h8 h9 h11 (fun e A' a1 a2 a3 a4 => ?_)
    refine hinc ((keysF p).length + 1) e _ a1 (fun e' he' => ?_)
    have hG' : GoodR (N + 4) (R ++ [N + 3]) (keysF (p ++ [x])) := by
      rw [hks]
      refine ⟨by omega, by simp [hG.len], List.nodup_append.2 ⟨hG.nd, by simp, fun a ha b hb => ?_⟩, fun r hr => ?_⟩
      · rw [List.mem_singleton.1 hb]
        have := (hG.lt a ha).2
        omega
      · rcases List.mem_append.1 hr with hr | hr
        · have := hG.lt r hr; omega
        · rw [List.mem_singleton.1 hr]; omega
    refine hq e' _ (N + 4) (R ++ [N + 3]) rfl hG' (by rw [hks, List.length_append]; exact he') ?_
    rw [← hks]
    refine weakGr hG' ?_ (fun i' r' k' b1 b2 => ?_)
    · rw [a2, outA, hks, refsG_app hG.len, refsG_no hc, hgr]; rfl
    · rw [hks] at b2
      rcases Nat.lt_or_ge i' R.length with hi' | hi'
      · rw [List.getElem?_append_left hi'] at b1
        rw [List.getElem?_append_left (by rw [← hG.len]; exact hi')] at b2
        have b3 := hG.lt r' (List.mem_of_getElem? b1)
        rw [a4 r' (by omega) b3.2, look_rows hG.nd b1 b2]
        have b5 : ¬ x.cable = k' := fun e => hc (by rw [e]; exact List.mem_of_getElem? b2)
        simp only [rowA', grpK_snoc, if_neg b5]
      · rw [List.getElem?_append_right hi'] at b1
        rw [List.getElem?_append_right (by rw [← hG.len]; exact hi')] at b2
        have c1 : i' - R.length = 0 := by
          have := (List.getElem?_eq_some_iff.1 b1).1
          simpa using this
        rw [c1] at b1
        rw [← hG.len, c1] at b2
        simp at b1 b2
        subst b1 b2
        rw [a3, rowA', hgr]; rfl
end Go.Proofs.YtakiodkbjgdnoaaGreatDoor

namespace Go.Proofs.YtakiodkbjgdnoaaGreatDoor
open Go.Sha Go.RowKit
set_option maxRecDepth 100000
variable {g:List (Nat×Obj)}{n:Nat}
def grpV (p:List Fixt)(ks:List (List UInt8)):List V:=ks.map fun k=>.sl ((grpK p k).map Fixt.v)
theorem closeR {F:Fr}{c:Cd}{e:Env}{N:Nat}{X:Ex}{p:List Fixt}{R:List Nat}{ks:List (List UInt8)}{Q:Post}(hlen:R.length=ks.length)(hR1:∀r∈R,1<r)(k:∀A',Sha.look A' 1=some ⟨24,1,grpV p ks,true,false⟩→WD Tryz.prog F c e ⟨N,[],A',X⟩ Q) :
  ∀m i A,i+m=ks.length→Sha.look A 1=some ⟨24,1,(grpV p ks).take i++(refsG p R ks).drop i,true,false⟩→(∀(i r:Nat) (k:List UInt8),R[i]?=some r→ks[i]?=some k→Sha.look A r=some (rowA' p k))→WD Tryz.prog F c e ⟨N,[],A,X⟩ Q
 |0,i,A,hi,h1,h2=>by
  refine k A ?_
  rw[h1,List.take_of_length_le (by simp[grpV];omega),List.drop_of_length_le (by rw[refsG_len hlen];omega),List.append_nil]
 |m+1,i,A,hi,h1,h2=>by
  have hil:i<ks.length:=by omega
  have hk:=List.getElem?_eq_getElem hil
  have hr:R[i]?=some (R[i]'(by omega)):=List.getElem?_eq_getElem _
  have hrf:=refsG_at (p:=p) hr hk
  have hl:=h2 i _ _ hr hk
  have hr1:=hR1 _ (List.mem_of_getElem? hr)
  generalize R[i]'(by omega)=r at *
  generalize ks[i]=kk at *
  have htl:((grpV p ks).take i).length=i:=by simp[grpV];omega
  have hd:(refsG p R ks).drop i=.osl r (grpK p kk).length::(refsG p R ks).drop (i+1):=by
   have:=(List.getElem?_eq_some_iff.1 hrf)
   rw[List.drop_eq_getElem_cons this.1,this.2]
  have ht:(grpV p ks).take (i+1)=(grpV p ks).take i++[.sl ((grpK p kk).map Fixt.v)]:=by
   rw[List.take_add_one]
   congr 1
   simp[grpV,hk]
  refine WD.snapEl (o:=1) (j:=i) (x:=.osl r (grpK p kk).length) (y:=.sl ((grpK p kk).map Fixt.v)) (ro:=⟨24,1,(grpV p ks).take i++(refsG p R ks).drop i,true,false⟩) h1 ?_ ?_ ?_
  ·rw[List.getElem?_append_right (by omega),htl,hd];simp
  ·simp only[snapA_osl,hl]
   simp[snapO]
  ·refine closeR hlen hR1 k m (i+1) _ (by omega) ?_ (fun i' r' k' b1 b2=>?_)
   ·simp only[look_updA,if_pos,h1,Option.map_some]
    rw[hd,List.set_append_right _ _ (by omega),htl,ht]
    simp
   ·have:=hR1 _ (List.mem_of_getElem? b1)
    simp only[look_updA]
    rw[if_neg (by omega)]
    exact h2 i' r' k' b1 b2
theorem grpV_bd {p:List Fixt}{ks:List (List UInt8)}:V.bdL n (grpV p ks)=true:=by
 unfold grpV
 rw[bdL_map']
 simp[V.bd,fix_bd]
def InvG (l:List Fixt)(g:List (Nat×Obj))(m:Nat)(e:Env)(s:St):Prop:=∃j N R,m+j=l.length∧e=eK l (keysF (l.take j)).length j∧s=stGr g N R (l.take j)∧GoodR N R (keysF (l.take j))
theorem weK {e:Env}{l:List Fixt}{k j N:Nat}(hN:1<N)(h:∀s∈LG,Sha.look e s=Sha.look (eK l k j) s):WeakEnv N e (eK l k j):=by
 intro i v hv
 have hi:i∈LG:=by
  simp only[Sha.look]at hv
  (repeat' split at hv)<;>first|(cases hv;done)|(rename_i e;rw[←e];simp)
 refine⟨?_,(h i hi).trans hv⟩
 simp only[Sha.look]at hv
 (repeat' split at hv)<;>first
  |(cases hv;done)
  |(cases hv;first|(show V.bdL N (l.map Fixt.v)=true;exact fix_bd)|(simp[V.bd,V.bdL];done)|(simp[V.bd];omega))
def pre0:Cd:=.g [.s 4 (.mv (.c .nils))] (.g [.s 12 (.act .mkmap []),.m 5 12] (.g [.s 6 (.mv (.c .nils))] .skip))
def post0:Cd:=.g [.m 51 6,.m 4 51] (.ret [4])
theorem F73':compF Tryz.prog 73=some ⟨52,[.tmp 4],pre0.put (.join [6] (.g [.m 13 0,.u 14 13,.c 15 0] (.block 0 (.loop LG [(6,(24,4097))] B73_0))) post0)⟩:=F73
theorem v73 {l:List Fixt}(hl:l.length<1000){st:St}:VCalls Tryz.prog 73 [.sl (l.map Fixt.v),.fn (.func 74) [] []] st fun x y=>x=.ret (.sl (grpV l (keysF l)))∧y=st:=by
 refine VCalls_shutW (by simp[V.bdL,V.bd,fix_bd]) (VCalls_WD F73' (Nat.le_of_ble_eq_true rfl) fun N=>?_)
 show WD _ ⟨N,[]⟩ (pre0.put (.join [6] (.g [.m 13 0,.u 14 13,.c 15 0] (.block 0 (.loop LG [(6,(24,4097))] B73_0))) post0)) (argEnv 0 [.sl (l.map Fixt.v),.fn (.func 74) [] []]) (stN st.x.gl 0) _
 generalize hg:st.x.gl=g at *
 refine WD.run mixed HH_ok (x:=.normal) (e:=[(6,.nils),(5,.mp 0),(12,.mp 0),(4,.nils),(0,.sl (l.map Fixt.v)),(1,.fn (.func 74) [] [])]) (s:=⟨1,[],[],⟨[(0,.map [])],g,[]⟩⟩) (by unfold pre0;push_cast) ?_
 refine WD.join (WD.seq (WD.ev mixed HH_ok (x:=.normal) (e:=[(15,.int .i64 0),(14,.int .i64 l.length),(13,.sl (l.map Fixt.v)),(6,.nils),(5,.mp 0),(12,.mp 0),(4,.nils),(0,.sl (l.map Fixt.v)),(1,.fn (.func 74) [] [])]) (s:=⟨1,[],[],⟨[(0,.map [])],g,[]⟩⟩) (by push_cast) ?_))
 show WD _ _ (.block 0 (.loop LG [(6,(24,4097))] B73_0)) _ _ _
 refine WD.block (WD.ownW (lv:=LG) (r:=[]) (t:=6) (e:=24) (es:=1) rfl (WD.loopG (InvG l g) (fun m e z ⟨j,N,R,_,_,hz,hG⟩=>by subst hz;have:=hG.gt;show 2≤N;omega) ?_ ?_))
 ·refine⟨l.length,eK l 0 0,stGr g 2 [] [],⟨0,2,[],rfl,rfl,rfl,⟨by omega,rfl,List.nodup_nil,fun r hr=>by cases hr⟩⟩,?_,?_⟩
  ·refine weK (N:=(stGr g 2 [] []).nx) (by show 1<2;omega) (fun i hi=>?_)
   simp only[List.mem_cons,List.not_mem_nil,or_false]at hi
   rcases hi with rfl|rfl|rfl|rfl|rfl|rfl<;>rfl
  ·exact weakGr (N:=2) (p:=[]) (R:=[]) ⟨by omega,rfl,List.nodup_nil,fun r hr=>by cases hr⟩ rfl (fun i r k h=>by simp at h)
 ·rintro m e z ⟨j,N',R,hm,rfl,rfl,hG⟩
  by_cases hj:j<l.length
  ·have hx:∀d,l.getD j d=l[j]:=fun d=>by rw[List.getD_eq_getElem?_getD,List.getElem?_eq_getElem hj];rfl
   refine round73 hl hj hx (by rw[List.length_take];omega) hG (fun e' st' N2 R2 hn hG2 he hw=>?_)
   rw[←List.take_succ_eq_append_getElem hj]at he hG2 hw
   exact⟨m-1,_,_,by omega,⟨j+1,N2,R2,by omega,rfl,rfl,hG2⟩,weK hG2.gt he,hw⟩
  ·have hjl:¬(j:Int)<l.length:=by omega
   have htk:l.take j=l:=List.take_of_length_le (by omega)
   rw[htk]at hG ⊢
   have hrun:runC Tryz.prog HH B73_0 (eK l (keysF l).length j) (stGr g N' R l)=some (.exit 0,[(6,.osl 1 (keysF l).length)],stGr g N' R l):=by
    rw[B73_eq]
    push_cast[hjl]
   refine WD.ev mixed HH_ok hrun ?_
   refine(show ∀(K:Env→St→Prop) (Q1:Post) e s,Q1 .normal e s→seqPost K (blockPost 0 Q1) (.exit 0) e s from fun K Q1 e s h=>by simp only[seqPost,blockPost,if_true];exact h) _ _ _ _ ?_
   show WD _ _ post0 (restr [6] [(6,.osl 1 (keysF l).length)]) _ _
   have hlen:(grpV l (keysF l)).length=(keysF l).length:=by simp[grpV]
   refine closeR (p:=l) (R:=R) (ks:=keysF l) hG.len (fun r hr=>(hG.lt r hr).1) (fun A' hA=>?_) (keysF l).length 0 _ (by omega) rfl (fun i r k b1 b2=>?_)
   ·refine WD.ev mixed HH_ok (x:=.ret) (e:=[(4,.osl 1 (keysF l).length)]) (s:=⟨N',[],A',⟨[(0,.map (plE (keysF l) 0))],g,[]⟩⟩) (by rw[post0];push_cast) ?_
    refine⟨.ret (.osl 1 (keysF l).length),_,rfl,?_⟩
    push_cast[hA,hlen,grpV_bd]
   ·have:=(hG.lt r (List.mem_of_getElem? b1)).1
    rw[Sha.look,if_neg (by omega)]
    exact look_rows hG.nd b1 b2
end Go.Proofs.YtakiodkbjgdnoaaGreatDoor

namespace Go.Proofs.YtakiodkbjgdnoaaGreatDoor
open Go.Sha
set_option maxRecDepth 10000
end Go.Proofs.YtakiodkbjgdnoaaGreatDoor

namespace Go.Proofs.YtakiodkbjgdnoaaGreatDoor
open Go.Sha
def Pt.sh:List CSh:=[.int .i64,.int .i64]
structure Pt.Dk (z:Pt):Prop where
 x:-9223372036854775808≤z.x∧z.x≤9223372036854775807
 y:-9223372036854775808≤z.y∧z.y≤9223372036854775807
theorem Pt.rd {vs:List V}(h:OkCs Pt.sh vs):∃x:Pt,V.agg vs=x.v∧x.Dk:=by
 obtain⟨v0,r0,rfl,h0,t0⟩:=h.cons_inv
 obtain⟨v1,r1,rfl,h1,t1⟩:=t0.cons_inv
 obtain rfl:=t1.nil_inv
 obtain⟨y0,rfl,b0⟩:=h0.i64_inv
 obtain⟨y1,rfl,b1⟩:=h1.i64_inv
 exact⟨⟨y0,y1⟩,rfl,⟨b0,b1⟩⟩
def Slt.sh:List CSh:=[.str,.int .i64,.int .i64]
structure Slt.Dk (z:Slt):Prop where
 name:z.name.length≤140737488351232
 fr:-9223372036854775808≤z.fr∧z.fr≤9223372036854775807
 to_:-9223372036854775808≤z.to_∧z.to_≤9223372036854775807
theorem Slt.rd {vs:List V}(h:OkCs Slt.sh vs):∃x:Slt,V.agg vs=x.v∧x.Dk:=by
 obtain⟨v0,r0,rfl,h0,t0⟩:=h.cons_inv
 obtain⟨v1,r1,rfl,h1,t1⟩:=t0.cons_inv
 obtain⟨v2,r2,rfl,h2,t2⟩:=t1.cons_inv
 obtain rfl:=t2.nil_inv
 obtain⟨y0,rfl,b0⟩:=h0.str_inv
 obtain⟨y1,rfl,b1⟩:=h1.i64_inv
 obtain⟨y2,rfl,b2⟩:=h2.i64_inv
 exact⟨⟨y0,y1,y2⟩,rfl,⟨b0,b1,b2⟩⟩
def Ftr.sh:List CSh:=[.int .i64,.int .i64,.int .i64,.int .i64,.int .i64,.int .i64,.int .i64,.int .i64,.bool,.sl true 32 Slt.sh]
structure Ftr.Dk (z:Ftr):Prop where
 attr:-9223372036854775808≤z.attr∧z.attr≤9223372036854775807
 bits:-9223372036854775808≤z.bits∧z.bits≤9223372036854775807
 coarse:-9223372036854775808≤z.coarse∧z.coarse≤9223372036854775807
 fine:-9223372036854775808≤z.fine∧z.fine≤9223372036854775807
 curve:-9223372036854775808≤z.curve∧z.curve≤9223372036854775807
 home:-9223372036854775808≤z.home∧z.home≤9223372036854775807
 low:-9223372036854775808≤z.low∧z.low≤9223372036854775807
 high:-9223372036854775808≤z.high∧z.high≤9223372036854775807
 snap:True
 wheel:z.wheel.length≤140737488351232∧∀q∈z.wheel,q.Dk
theorem Ftr.rd {vs:List V}(h:OkCs Ftr.sh vs):∃x:Ftr,V.agg vs=x.v∧x.Dk:=by
 obtain⟨v0,r0,rfl,h0,t0⟩:=h.cons_inv
 obtain⟨v1,r1,rfl,h1,t1⟩:=t0.cons_inv
 obtain⟨v2,r2,rfl,h2,t2⟩:=t1.cons_inv
 obtain⟨v3,r3,rfl,h3,t3⟩:=t2.cons_inv
 obtain⟨v4,r4,rfl,h4,t4⟩:=t3.cons_inv
 obtain⟨v5,r5,rfl,h5,t5⟩:=t4.cons_inv
 obtain⟨v6,r6,rfl,h6,t6⟩:=t5.cons_inv
 obtain⟨v7,r7,rfl,h7,t7⟩:=t6.cons_inv
 obtain⟨v8,r8,rfl,h8,t8⟩:=t7.cons_inv
 obtain⟨v9,r9,rfl,h9,t9⟩:=t8.cons_inv
 obtain rfl:=t9.nil_inv
 obtain⟨y0,rfl,b0⟩:=h0.i64_inv
 obtain⟨y1,rfl,b1⟩:=h1.i64_inv
 obtain⟨y2,rfl,b2⟩:=h2.i64_inv
 obtain⟨y3,rfl,b3⟩:=h3.i64_inv
 obtain⟨y4,rfl,b4⟩:=h4.i64_inv
 obtain⟨y5,rfl,b5⟩:=h5.i64_inv
 obtain⟨y6,rfl,b6⟩:=h6.i64_inv
 obtain⟨y7,rfl,b7⟩:=h7.i64_inv
 obtain⟨y8,rfl⟩:=h8.bool_inv
 have b8:=trivial
 obtain⟨y9,rfl,b9⟩:=h9.agg_inv (f:=Slt.v) (by decide) (fun _=>Slt.rd)
 exact⟨⟨y0,y1,y2,y3,y4,y5,y6,y7,y8,y9⟩,rfl,⟨b0,b1,b2,b3,b4,b5,b6,b7,b8,b9⟩⟩
def Prof.sh:List CSh:=[.str,.int .i64,.int .i64,.sl true 96 Ftr.sh]
structure Prof.Dk (z:Prof):Prop where
 name:z.name.length≤140737488351232
 foot:-9223372036854775808≤z.foot∧z.foot≤9223372036854775807
 watts:-9223372036854775808≤z.watts∧z.watts≤9223372036854775807
 feats:z.feats.length≤140737488351232∧∀q∈z.feats,q.Dk
theorem Prof.rd {vs:List V}(h:OkCs Prof.sh vs):∃x:Prof,V.agg vs=x.v∧x.Dk:=by
 obtain⟨v0,r0,rfl,h0,t0⟩:=h.cons_inv
 obtain⟨v1,r1,rfl,h1,t1⟩:=t0.cons_inv
 obtain⟨v2,r2,rfl,h2,t2⟩:=t1.cons_inv
 obtain⟨v3,r3,rfl,h3,t3⟩:=t2.cons_inv
 obtain rfl:=t3.nil_inv
 obtain⟨y0,rfl,b0⟩:=h0.str_inv
 obtain⟨y1,rfl,b1⟩:=h1.i64_inv
 obtain⟨y2,rfl,b2⟩:=h2.i64_inv
 obtain⟨y3,rfl,b3⟩:=h3.agg_inv (f:=Ftr.v) (by decide) (fun _=>Ftr.rd)
 exact⟨⟨y0,y1,y2,y3⟩,rfl,⟨b0,b1,b2,b3⟩⟩
def Fixt.sh:List CSh:=[.int .i64,.int .i64,.str,.int .i64,.int .i64,.int .i64,.str]
structure Fixt.Dk (z:Fixt):Prop where
 chan:-9223372036854775808≤z.chan∧z.chan≤9223372036854775807
 part:-9223372036854775808≤z.part∧z.part≤9223372036854775807
 prof:z.prof.length≤140737488351232
 univ:-9223372036854775808≤z.univ∧z.univ≤9223372036854775807
 addr:-9223372036854775808≤z.addr∧z.addr≤9223372036854775807
 phase:-9223372036854775808≤z.phase∧z.phase≤9223372036854775807
 cable:z.cable.length≤140737488351232
theorem Fixt.rd {vs:List V}(h:OkCs Fixt.sh vs):∃x:Fixt,V.agg vs=x.v∧x.Dk:=by
 obtain⟨v0,r0,rfl,h0,t0⟩:=h.cons_inv
 obtain⟨v1,r1,rfl,h1,t1⟩:=t0.cons_inv
 obtain⟨v2,r2,rfl,h2,t2⟩:=t1.cons_inv
 obtain⟨v3,r3,rfl,h3,t3⟩:=t2.cons_inv
 obtain⟨v4,r4,rfl,h4,t4⟩:=t3.cons_inv
 obtain⟨v5,r5,rfl,h5,t5⟩:=t4.cons_inv
 obtain⟨v6,r6,rfl,h6,t6⟩:=t5.cons_inv
 obtain rfl:=t6.nil_inv
 obtain⟨y0,rfl,b0⟩:=h0.i64_inv
 obtain⟨y1,rfl,b1⟩:=h1.i64_inv
 obtain⟨y2,rfl,b2⟩:=h2.str_inv
 obtain⟨y3,rfl,b3⟩:=h3.i64_inv
 obtain⟨y4,rfl,b4⟩:=h4.i64_inv
 obtain⟨y5,rfl,b5⟩:=h5.i64_inv
 obtain⟨y6,rfl,b6⟩:=h6.str_inv
 exact⟨⟨y0,y1,y2,y3,y4,y5,y6⟩,rfl,⟨b0,b1,b2,b3,b4,b5,b6⟩⟩
def Prm.sh:List CSh:=[.int .i64,.int .i64]
structure Prm.Dk (z:Prm):Prop where
 chan:-9223372036854775808≤z.chan∧z.chan≤9223372036854775807
 attr:-9223372036854775808≤z.attr∧z.attr≤9223372036854775807
theorem Prm.rd {vs:List V}(h:OkCs Prm.sh vs):∃x:Prm,V.agg vs=x.v∧x.Dk:=by
 obtain⟨v0,r0,rfl,h0,t0⟩:=h.cons_inv
 obtain⟨v1,r1,rfl,h1,t1⟩:=t0.cons_inv
 obtain rfl:=t1.nil_inv
 obtain⟨y0,rfl,b0⟩:=h0.i64_inv
 obtain⟨y1,rfl,b1⟩:=h1.i64_inv
 exact⟨⟨y0,y1⟩,rfl,⟨b0,b1⟩⟩
def Val.sh:List CSh:=[.int .i64,.int .i64]
structure Val.Dk (z:Val):Prop where
 pal:-9223372036854775808≤z.pal∧z.pal≤9223372036854775807
 lev:-9223372036854775808≤z.lev∧z.lev≤9223372036854775807
theorem Val.rd {vs:List V}(h:OkCs Val.sh vs):∃x:Val,V.agg vs=x.v∧x.Dk:=by
 obtain⟨v0,r0,rfl,h0,t0⟩:=h.cons_inv
 obtain⟨v1,r1,rfl,h1,t1⟩:=t0.cons_inv
 obtain rfl:=t1.nil_inv
 obtain⟨y0,rfl,b0⟩:=h0.i64_inv
 obtain⟨y1,rfl,b1⟩:=h1.i64_inv
 exact⟨⟨y0,y1⟩,rfl,⟨b0,b1⟩⟩
def Grp.sh:List CSh:=[.int .i64,.sl false 8 [.int .i64]]
structure Grp.Dk (z:Grp):Prop where
 num:-9223372036854775808≤z.num∧z.num≤9223372036854775807
 chans:z.chans.length≤140737488351232∧∀q∈z.chans,-9223372036854775808≤q∧q≤9223372036854775807
theorem Grp.rd {vs:List V}(h:OkCs Grp.sh vs):∃x:Grp,V.agg vs=x.v∧x.Dk:=by
 obtain⟨v0,r0,rfl,h0,t0⟩:=h.cons_inv
 obtain⟨v1,r1,rfl,h1,t1⟩:=t0.cons_inv
 obtain rfl:=t1.nil_inv
 obtain⟨y0,rfl,b0⟩:=h0.i64_inv
 obtain⟨y1,rfl,b1⟩:=h1.one_inv (f:=V.int .i64) (by decide) (fun v h=>h.i64_inv)
 exact⟨⟨y0,y1⟩,rfl,⟨b0,b1⟩⟩
def Hue.sh:List CSh:=[.int .i64,.int .i64,.int .i64]
structure Hue.Dk (z:Hue):Prop where
 chan:-9223372036854775808≤z.chan∧z.chan≤9223372036854775807
 attr:-9223372036854775808≤z.attr∧z.attr≤9223372036854775807
 lev:-9223372036854775808≤z.lev∧z.lev≤9223372036854775807
theorem Hue.rd {vs:List V}(h:OkCs Hue.sh vs):∃x:Hue,V.agg vs=x.v∧x.Dk:=by
 obtain⟨v0,r0,rfl,h0,t0⟩:=h.cons_inv
 obtain⟨v1,r1,rfl,h1,t1⟩:=t0.cons_inv
 obtain⟨v2,r2,rfl,h2,t2⟩:=t1.cons_inv
 obtain rfl:=t2.nil_inv
 obtain⟨y0,rfl,b0⟩:=h0.i64_inv
 obtain⟨y1,rfl,b1⟩:=h1.i64_inv
 obtain⟨y2,rfl,b2⟩:=h2.i64_inv
 exact⟨⟨y0,y1,y2⟩,rfl,⟨b0,b1,b2⟩⟩
def Pal.sh:List CSh:=[.int .i64,.sl true 24 Hue.sh]
structure Pal.Dk (z:Pal):Prop where
 num:-9223372036854775808≤z.num∧z.num≤9223372036854775807
 hues:z.hues.length≤140737488351232∧∀q∈z.hues,q.Dk
theorem Pal.rd {vs:List V}(h:OkCs Pal.sh vs):∃x:Pal,V.agg vs=x.v∧x.Dk:=by
 obtain⟨v0,r0,rfl,h0,t0⟩:=h.cons_inv
 obtain⟨v1,r1,rfl,h1,t1⟩:=t0.cons_inv
 obtain rfl:=t1.nil_inv
 obtain⟨y0,rfl,b0⟩:=h0.i64_inv
 obtain⟨y1,rfl,b1⟩:=h1.agg_inv (f:=Hue.v) (by decide) (fun _=>Hue.rd)
 exact⟨⟨y0,y1⟩,rfl,⟨b0,b1⟩⟩
def Tim.sh:List CSh:=[.int .i64,.int .i64,.int .i64,.int .i64,.int .i64,.int .i64]
structure Tim.Dk (z:Tim):Prop where
 up:-9223372036854775808≤z.up∧z.up≤9223372036854775807
 down:-9223372036854775808≤z.down∧z.down≤9223372036854775807
 posi:-9223372036854775808≤z.posi∧z.posi≤9223372036854775807
 colour:-9223372036854775808≤z.colour∧z.colour≤9223372036854775807
 beam:-9223372036854775808≤z.beam∧z.beam≤9223372036854775807
 delay:-9223372036854775808≤z.delay∧z.delay≤9223372036854775807
theorem Tim.rd {vs:List V}(h:OkCs Tim.sh vs):∃x:Tim,V.agg vs=x.v∧x.Dk:=by
 obtain⟨v0,r0,rfl,h0,t0⟩:=h.cons_inv
 obtain⟨v1,r1,rfl,h1,t1⟩:=t0.cons_inv
 obtain⟨v2,r2,rfl,h2,t2⟩:=t1.cons_inv
 obtain⟨v3,r3,rfl,h3,t3⟩:=t2.cons_inv
 obtain⟨v4,r4,rfl,h4,t4⟩:=t3.cons_inv
 obtain⟨v5,r5,rfl,h5,t5⟩:=t4.cons_inv
 obtain rfl:=t5.nil_inv
 obtain⟨y0,rfl,b0⟩:=h0.i64_inv
 obtain⟨y1,rfl,b1⟩:=h1.i64_inv
 obtain⟨y2,rfl,b2⟩:=h2.i64_inv
 obtain⟨y3,rfl,b3⟩:=h3.i64_inv
 obtain⟨y4,rfl,b4⟩:=h4.i64_inv
 obtain⟨y5,rfl,b5⟩:=h5.i64_inv
 exact⟨⟨y0,y1,y2,y3,y4,y5⟩,rfl,⟨b0,b1,b2,b3,b4,b5⟩⟩
def Mov.sh:List CSh:=[.int .i64,.int .i64,.int .i64,.int .i64,.int .i64]
structure Mov.Dk (z:Mov):Prop where
 prm:z.prm.Dk
 val:z.val.Dk
 part:-9223372036854775808≤z.part∧z.part≤9223372036854775807
theorem Mov.rd {vs:List V}(h:OkCs Mov.sh vs):∃x:Mov,V.agg vs=x.v∧x.Dk:=by
 obtain⟨v0,r0,rfl,h0,t0⟩:=h.cons_inv
 obtain⟨v1,r1,rfl,h1,t1⟩:=t0.cons_inv
 obtain⟨v2,r2,rfl,h2,t2⟩:=t1.cons_inv
 obtain⟨v3,r3,rfl,h3,t3⟩:=t2.cons_inv
 obtain⟨v4,r4,rfl,h4,t4⟩:=t3.cons_inv
 obtain rfl:=t4.nil_inv
 obtain⟨y0,rfl,b0⟩:=h0.i64_inv
 obtain⟨y1,rfl,b1⟩:=h1.i64_inv
 obtain⟨y2,rfl,b2⟩:=h2.i64_inv
 obtain⟨y3,rfl,b3⟩:=h3.i64_inv
 obtain⟨y4,rfl,b4⟩:=h4.i64_inv
 exact⟨⟨⟨y0,y1⟩,⟨y2,y3⟩,y4⟩,rfl,⟨⟨b0,b1⟩,⟨b2,b3⟩,b4⟩⟩
def Cu.sh:List CSh:=[.str,.str,.sl true 40 Mov.sh,.sl true 48 Tim.sh,.bool,.bool,.int .i64,.str,.int .i64]
structure Cu.Dk (z:Cu):Prop where
 num:z.num.length≤140737488351232
 label:z.label.length≤140737488351232
 moves:z.moves.length≤140737488351232∧∀q∈z.moves,q.Dk
 parts:z.parts.length≤140737488351232∧∀q∈z.parts,q.Dk
 block:True
 mark:True
 follow:-9223372036854775808≤z.follow∧z.follow≤9223372036854775807
 link:z.link.length≤140737488351232
 loops:-9223372036854775808≤z.loops∧z.loops≤9223372036854775807
theorem Cu.rd {vs:List V}(h:OkCs Cu.sh vs):∃x:Cu,V.agg vs=x.v∧x.Dk:=by
 obtain⟨v0,r0,rfl,h0,t0⟩:=h.cons_inv
 obtain⟨v1,r1,rfl,h1,t1⟩:=t0.cons_inv
 obtain⟨v2,r2,rfl,h2,t2⟩:=t1.cons_inv
 obtain⟨v3,r3,rfl,h3,t3⟩:=t2.cons_inv
 obtain⟨v4,r4,rfl,h4,t4⟩:=t3.cons_inv
 obtain⟨v5,r5,rfl,h5,t5⟩:=t4.cons_inv
 obtain⟨v6,r6,rfl,h6,t6⟩:=t5.cons_inv
 obtain⟨v7,r7,rfl,h7,t7⟩:=t6.cons_inv
 obtain⟨v8,r8,rfl,h8,t8⟩:=t7.cons_inv
 obtain rfl:=t8.nil_inv
 obtain⟨y0,rfl,b0⟩:=h0.str_inv
 obtain⟨y1,rfl,b1⟩:=h1.str_inv
 obtain⟨y2,rfl,b2⟩:=h2.agg_inv (f:=Mov.v) (by decide) (fun _=>Mov.rd)
 obtain⟨y3,rfl,b3⟩:=h3.agg_inv (f:=Tim.v) (by decide) (fun _=>Tim.rd)
 obtain⟨y4,rfl⟩:=h4.bool_inv
 have b4:=trivial
 obtain⟨y5,rfl⟩:=h5.bool_inv
 have b5:=trivial
 obtain⟨y6,rfl,b6⟩:=h6.i64_inv
 obtain⟨y7,rfl,b7⟩:=h7.str_inv
 obtain⟨y8,rfl,b8⟩:=h8.i64_inv
 exact⟨⟨y0,y1,y2,y3,y4,y5,y6,y7,y8⟩,rfl,⟨b0,b1,b2,b3,b4,b5,b6,b7,b8⟩⟩
def Lst.sh:List CSh:=[.int .i64,.int .i64,.sl true 120 Cu.sh]
structure Lst.Dk (z:Lst):Prop where
 num:-9223372036854775808≤z.num∧z.num≤9223372036854775807
 prio:-9223372036854775808≤z.prio∧z.prio≤9223372036854775807
 cues:z.cues.length≤140737488351232∧∀q∈z.cues,q.Dk
theorem Lst.rd {vs:List V}(h:OkCs Lst.sh vs):∃x:Lst,V.agg vs=x.v∧x.Dk:=by
 obtain⟨v0,r0,rfl,h0,t0⟩:=h.cons_inv
 obtain⟨v1,r1,rfl,h1,t1⟩:=t0.cons_inv
 obtain⟨v2,r2,rfl,h2,t2⟩:=t1.cons_inv
 obtain rfl:=t2.nil_inv
 obtain⟨y0,rfl,b0⟩:=h0.i64_inv
 obtain⟨y1,rfl,b1⟩:=h1.i64_inv
 obtain⟨y2,rfl,b2⟩:=h2.agg_inv (f:=Cu.v) (by decide) (fun _=>Cu.rd)
 exact⟨⟨y0,y1,y2⟩,rfl,⟨b0,b1,b2⟩⟩
def Gan.sh:List CSh:=[.int .i64,.int .i64,.int .i64]
structure Gan.Dk (z:Gan):Prop where
 prm:z.prm.Dk
 lev:-9223372036854775808≤z.lev∧z.lev≤9223372036854775807
theorem Gan.rd {vs:List V}(h:OkCs Gan.sh vs):∃x:Gan,V.agg vs=x.v∧x.Dk:=by
 obtain⟨v0,r0,rfl,h0,t0⟩:=h.cons_inv
 obtain⟨v1,r1,rfl,h1,t1⟩:=t0.cons_inv
 obtain⟨v2,r2,rfl,h2,t2⟩:=t1.cons_inv
 obtain rfl:=t2.nil_inv
 obtain⟨y0,rfl,b0⟩:=h0.i64_inv
 obtain⟨y1,rfl,b1⟩:=h1.i64_inv
 obtain⟨y2,rfl,b2⟩:=h2.i64_inv
 exact⟨⟨⟨y0,y1⟩,y2⟩,rfl,⟨⟨b0,b1⟩,b2⟩⟩
def Sb.sh:List CSh:=[.int .i64,.int .i64,.bool,.sl true 24 Gan.sh]
structure Sb.Dk (z:Sb):Prop where
 num:-9223372036854775808≤z.num∧z.num≤9223372036854775807
 prio:-9223372036854775808≤z.prio∧z.prio≤9223372036854775807
 inh:True
 gains:z.gains.length≤140737488351232∧∀q∈z.gains,q.Dk
theorem Sb.rd {vs:List V}(h:OkCs Sb.sh vs):∃x:Sb,V.agg vs=x.v∧x.Dk:=by
 obtain⟨v0,r0,rfl,h0,t0⟩:=h.cons_inv
 obtain⟨v1,r1,rfl,h1,t1⟩:=t0.cons_inv
 obtain⟨v2,r2,rfl,h2,t2⟩:=t1.cons_inv
 obtain⟨v3,r3,rfl,h3,t3⟩:=t2.cons_inv
 obtain rfl:=t3.nil_inv
 obtain⟨y0,rfl,b0⟩:=h0.i64_inv
 obtain⟨y1,rfl,b1⟩:=h1.i64_inv
 obtain⟨y2,rfl⟩:=h2.bool_inv
 have b2:=trivial
 obtain⟨y3,rfl,b3⟩:=h3.agg_inv (f:=Gan.v) (by decide) (fun _=>Gan.rd)
 exact⟨⟨y0,y1,y2,y3⟩,rfl,⟨b0,b1,b2,b3⟩⟩
def Eff.sh:List CSh:=[.int .i64,.int .i64,.sl true 16 Pt.sh,.int .i64,.int .i64,.int .i64]
structure Eff.Dk (z:Eff):Prop where
 num:-9223372036854775808≤z.num∧z.num≤9223372036854775807
 attr:-9223372036854775808≤z.attr∧z.attr≤9223372036854775807
 wave:z.wave.length≤140737488351232∧∀q∈z.wave,q.Dk
 period:-9223372036854775808≤z.period∧z.period≤9223372036854775807
 spread:-9223372036854775808≤z.spread∧z.spread≤9223372036854775807
 size:-9223372036854775808≤z.size∧z.size≤9223372036854775807
theorem Eff.rd {vs:List V}(h:OkCs Eff.sh vs):∃x:Eff,V.agg vs=x.v∧x.Dk:=by
 obtain⟨v0,r0,rfl,h0,t0⟩:=h.cons_inv
 obtain⟨v1,r1,rfl,h1,t1⟩:=t0.cons_inv
 obtain⟨v2,r2,rfl,h2,t2⟩:=t1.cons_inv
 obtain⟨v3,r3,rfl,h3,t3⟩:=t2.cons_inv
 obtain⟨v4,r4,rfl,h4,t4⟩:=t3.cons_inv
 obtain⟨v5,r5,rfl,h5,t5⟩:=t4.cons_inv
 obtain rfl:=t5.nil_inv
 obtain⟨y0,rfl,b0⟩:=h0.i64_inv
 obtain⟨y1,rfl,b1⟩:=h1.i64_inv
 obtain⟨y2,rfl,b2⟩:=h2.agg_inv (f:=Pt.v) (by decide) (fun _=>Pt.rd)
 obtain⟨y3,rfl,b3⟩:=h3.i64_inv
 obtain⟨y4,rfl,b4⟩:=h4.i64_inv
 obtain⟨y5,rfl,b5⟩:=h5.i64_inv
 exact⟨⟨y0,y1,y2,y3,y4,y5⟩,rfl,⟨b0,b1,b2,b3,b4,b5⟩⟩
def Sho.sh:List CSh:=[.str,.sl false 24 [.sl true 16 Pt.sh],.sl true 56 Prof.sh,.sl true 72 Fixt.sh,.sl true 32 Grp.sh,.sl true 32 Pal.sh,.sl true 40 Lst.sh,.sl true 48 Sb.sh,.sl true 64 Eff.sh]
structure Sho.Dk (z:Sho):Prop where
 title:z.title.length≤140737488351232
 curves:z.curves.length≤140737488351232∧∀l∈z.curves,l.length≤140737488351232∧∀q∈l,q.Dk
 profs:z.profs.length≤140737488351232∧∀q∈z.profs,q.Dk
 fixts:z.fixts.length≤140737488351232∧∀q∈z.fixts,q.Dk
 grps:z.grps.length≤140737488351232∧∀q∈z.grps,q.Dk
 pals:z.pals.length≤140737488351232∧∀q∈z.pals,q.Dk
 lsts:z.lsts.length≤140737488351232∧∀q∈z.lsts,q.Dk
 subs:z.subs.length≤140737488351232∧∀q∈z.subs,q.Dk
 effs:z.effs.length≤140737488351232∧∀q∈z.effs,q.Dk
theorem Sho.rd {vs:List V}(h:OkCs Sho.sh vs):∃x:Sho,V.agg vs=x.v∧x.Dk:=by
 obtain⟨v0,r0,rfl,h0,t0⟩:=h.cons_inv
 obtain⟨v1,r1,rfl,h1,t1⟩:=t0.cons_inv
 obtain⟨v2,r2,rfl,h2,t2⟩:=t1.cons_inv
 obtain⟨v3,r3,rfl,h3,t3⟩:=t2.cons_inv
 obtain⟨v4,r4,rfl,h4,t4⟩:=t3.cons_inv
 obtain⟨v5,r5,rfl,h5,t5⟩:=t4.cons_inv
 obtain⟨v6,r6,rfl,h6,t6⟩:=t5.cons_inv
 obtain⟨v7,r7,rfl,h7,t7⟩:=t6.cons_inv
 obtain⟨v8,r8,rfl,h8,t8⟩:=t7.cons_inv
 obtain rfl:=t8.nil_inv
 obtain⟨y0,rfl,b0⟩:=h0.str_inv
 obtain⟨y1,rfl,b1⟩:=h1.one_inv (f:=Pt.vs) (by decide) (fun v h=>h.agg_inv (f:=Pt.v) (by decide) (fun _=>Pt.rd))
 obtain⟨y2,rfl,b2⟩:=h2.agg_inv (f:=Prof.v) (by decide) (fun _=>Prof.rd)
 obtain⟨y3,rfl,b3⟩:=h3.agg_inv (f:=Fixt.v) (by decide) (fun _=>Fixt.rd)
 obtain⟨y4,rfl,b4⟩:=h4.agg_inv (f:=Grp.v) (by decide) (fun _=>Grp.rd)
 obtain⟨y5,rfl,b5⟩:=h5.agg_inv (f:=Pal.v) (by decide) (fun _=>Pal.rd)
 obtain⟨y6,rfl,b6⟩:=h6.agg_inv (f:=Lst.v) (by decide) (fun _=>Lst.rd)
 obtain⟨y7,rfl,b7⟩:=h7.agg_inv (f:=Sb.v) (by decide) (fun _=>Sb.rd)
 obtain⟨y8,rfl,b8⟩:=h8.agg_inv (f:=Eff.v) (by decide) (fun _=>Eff.rd)
 exact⟨⟨y0,y1,y2,y3,y4,y5,y6,y7,y8⟩,rfl,⟨b0,b1,b2,b3,b4,b5,b6,b7,b8⟩⟩
theorem Pt.inj {x y:Pt}(h:x.v=y.v):x=y:=by
 obtain⟨x0,x1⟩:=x;obtain⟨y0,y1⟩:=y
 simp only[Pt.v,V.agg.injEq,List.cons.injEq,V.int.injEq,V.str.injEq,V.bool.injEq,V.sl.injEq,true_and,and_true]at h
 obtain⟨h0,h1⟩:=h
 cases h0
 cases h1
 rfl
theorem Slt.inj {x y:Slt}(h:x.v=y.v):x=y:=by
 obtain⟨x0,x1,x2⟩:=x;obtain⟨y0,y1,y2⟩:=y
 simp only[Slt.v,V.agg.injEq,List.cons.injEq,V.int.injEq,V.str.injEq,V.bool.injEq,V.sl.injEq,true_and,and_true]at h
 obtain⟨h0,h1,h2⟩:=h
 cases h0
 cases h1
 cases h2
 rfl
theorem Ftr.inj {x y:Ftr}(h:x.v=y.v):x=y:=by
 obtain⟨x0,x1,x2,x3,x4,x5,x6,x7,x8,x9⟩:=x;obtain⟨y0,y1,y2,y3,y4,y5,y6,y7,y8,y9⟩:=y
 simp only[Ftr.v,V.agg.injEq,List.cons.injEq,V.int.injEq,V.str.injEq,V.bool.injEq,V.sl.injEq,true_and,and_true]at h
 obtain⟨h0,h1,h2,h3,h4,h5,h6,h7,h8,h9⟩:=h
 cases h0
 cases h1
 cases h2
 cases h3
 cases h4
 cases h5
 cases h6
 cases h7
 cases h8
 cases map_inj Slt.inj h9
 rfl
theorem Prof.inj {x y:Prof}(h:x.v=y.v):x=y:=by
 obtain⟨x0,x1,x2,x3⟩:=x;obtain⟨y0,y1,y2,y3⟩:=y
 simp only[Prof.v,V.agg.injEq,List.cons.injEq,V.int.injEq,V.str.injEq,V.bool.injEq,V.sl.injEq,true_and,and_true]at h
 obtain⟨h0,h1,h2,h3⟩:=h
 cases h0
 cases h1
 cases h2
 cases map_inj Ftr.inj h3
 rfl
theorem Fixt.inj {x y:Fixt}(h:x.v=y.v):x=y:=by
 obtain⟨x0,x1,x2,x3,x4,x5,x6⟩:=x;obtain⟨y0,y1,y2,y3,y4,y5,y6⟩:=y
 simp only[Fixt.v,V.agg.injEq,List.cons.injEq,V.int.injEq,V.str.injEq,V.bool.injEq,V.sl.injEq,true_and,and_true]at h
 obtain⟨h0,h1,h2,h3,h4,h5,h6⟩:=h
 cases h0
 cases h1
 cases h2
 cases h3
 cases h4
 cases h5
 cases h6
 rfl
theorem Prm.inj {x y:Prm}(h:x.v=y.v):x=y:=by
 obtain⟨x0,x1⟩:=x;obtain⟨y0,y1⟩:=y
 simp only[Prm.v,V.agg.injEq,List.cons.injEq,V.int.injEq,V.str.injEq,V.bool.injEq,V.sl.injEq,true_and,and_true]at h
 obtain⟨h0,h1⟩:=h
 cases h0
 cases h1
 rfl
theorem Val.inj {x y:Val}(h:x.v=y.v):x=y:=by
 obtain⟨x0,x1⟩:=x;obtain⟨y0,y1⟩:=y
 simp only[Val.v,V.agg.injEq,List.cons.injEq,V.int.injEq,V.str.injEq,V.bool.injEq,V.sl.injEq,true_and,and_true]at h
 obtain⟨h0,h1⟩:=h
 cases h0
 cases h1
 rfl
theorem Grp.inj {x y:Grp}(h:x.v=y.v):x=y:=by
 obtain⟨x0,x1⟩:=x;obtain⟨y0,y1⟩:=y
 simp only[Grp.v,V.agg.injEq,List.cons.injEq,V.int.injEq,V.str.injEq,V.bool.injEq,V.sl.injEq,true_and,and_true]at h
 obtain⟨h0,h1⟩:=h
 cases h0
 cases map_inj (f:=V.int .i64) (fun h=>(V.int.inj h).2) h1
 rfl
theorem Hue.inj {x y:Hue}(h:x.v=y.v):x=y:=by
 obtain⟨x0,x1,x2⟩:=x;obtain⟨y0,y1,y2⟩:=y
 simp only[Hue.v,V.agg.injEq,List.cons.injEq,V.int.injEq,V.str.injEq,V.bool.injEq,V.sl.injEq,true_and,and_true]at h
 obtain⟨h0,h1,h2⟩:=h
 cases h0
 cases h1
 cases h2
 rfl
theorem Pal.inj {x y:Pal}(h:x.v=y.v):x=y:=by
 obtain⟨x0,x1⟩:=x;obtain⟨y0,y1⟩:=y
 simp only[Pal.v,V.agg.injEq,List.cons.injEq,V.int.injEq,V.str.injEq,V.bool.injEq,V.sl.injEq,true_and,and_true]at h
 obtain⟨h0,h1⟩:=h
 cases h0
 cases map_inj Hue.inj h1
 rfl
theorem Tim.inj {x y:Tim}(h:x.v=y.v):x=y:=by
 obtain⟨x0,x1,x2,x3,x4,x5⟩:=x;obtain⟨y0,y1,y2,y3,y4,y5⟩:=y
 simp only[Tim.v,V.agg.injEq,List.cons.injEq,V.int.injEq,V.str.injEq,V.bool.injEq,V.sl.injEq,true_and,and_true]at h
 obtain⟨h0,h1,h2,h3,h4,h5⟩:=h
 cases h0
 cases h1
 cases h2
 cases h3
 cases h4
 cases h5
 rfl
theorem Mov.inj {x y:Mov}(h:x.v=y.v):x=y:=by
 obtain⟨⟨x0,x1⟩,⟨x2,x3⟩,x4⟩:=x;obtain⟨⟨y0,y1⟩,⟨y2,y3⟩,y4⟩:=y
 simp only[Mov.v,V.agg.injEq,List.cons.injEq,V.int.injEq,V.str.injEq,V.bool.injEq,V.sl.injEq,true_and,and_true]at h
 obtain⟨h0,h1,h2,h3,h4⟩:=h
 cases h0
 cases h1
 cases h2
 cases h3
 cases h4
 rfl
theorem Cu.inj {x y:Cu}(h:x.v=y.v):x=y:=by
 obtain⟨x0,x1,x2,x3,x4,x5,x6,x7,x8⟩:=x;obtain⟨y0,y1,y2,y3,y4,y5,y6,y7,y8⟩:=y
 simp only[Cu.v,V.agg.injEq,List.cons.injEq,V.int.injEq,V.str.injEq,V.bool.injEq,V.sl.injEq,true_and,and_true]at h
 obtain⟨h0,h1,h2,h3,h4,h5,h6,h7,h8⟩:=h
 cases h0
 cases h1
 cases map_inj Mov.inj h2
 cases map_inj Tim.inj h3
 cases h4
 cases h5
 cases h6
 cases h7
 cases h8
 rfl
theorem Lst.inj {x y:Lst}(h:x.v=y.v):x=y:=by
 obtain⟨x0,x1,x2⟩:=x;obtain⟨y0,y1,y2⟩:=y
 simp only[Lst.v,V.agg.injEq,List.cons.injEq,V.int.injEq,V.str.injEq,V.bool.injEq,V.sl.injEq,true_and,and_true]at h
 obtain⟨h0,h1,h2⟩:=h
 cases h0
 cases h1
 cases map_inj Cu.inj h2
 rfl
theorem Gan.inj {x y:Gan}(h:x.v=y.v):x=y:=by
 obtain⟨⟨x0,x1⟩,x2⟩:=x;obtain⟨⟨y0,y1⟩,y2⟩:=y
 simp only[Gan.v,V.agg.injEq,List.cons.injEq,V.int.injEq,V.str.injEq,V.bool.injEq,V.sl.injEq,true_and,and_true]at h
 obtain⟨h0,h1,h2⟩:=h
 cases h0
 cases h1
 cases h2
 rfl
theorem Sb.inj {x y:Sb}(h:x.v=y.v):x=y:=by
 obtain⟨x0,x1,x2,x3⟩:=x;obtain⟨y0,y1,y2,y3⟩:=y
 simp only[Sb.v,V.agg.injEq,List.cons.injEq,V.int.injEq,V.str.injEq,V.bool.injEq,V.sl.injEq,true_and,and_true]at h
 obtain⟨h0,h1,h2,h3⟩:=h
 cases h0
 cases h1
 cases h2
 cases map_inj Gan.inj h3
 rfl
theorem Eff.inj {x y:Eff}(h:x.v=y.v):x=y:=by
 obtain⟨x0,x1,x2,x3,x4,x5⟩:=x;obtain⟨y0,y1,y2,y3,y4,y5⟩:=y
 simp only[Eff.v,V.agg.injEq,List.cons.injEq,V.int.injEq,V.str.injEq,V.bool.injEq,V.sl.injEq,true_and,and_true]at h
 obtain⟨h0,h1,h2,h3,h4,h5⟩:=h
 cases h0
 cases h1
 cases map_inj Pt.inj h2
 cases h3
 cases h4
 cases h5
 rfl
theorem Sho.inj {x y:Sho}(h:x.v=y.v):x=y:=by
 obtain⟨x0,x1,x2,x3,x4,x5,x6,x7,x8⟩:=x;obtain⟨y0,y1,y2,y3,y4,y5,y6,y7,y8⟩:=y
 simp only[Sho.v,V.agg.injEq,List.cons.injEq,V.int.injEq,V.str.injEq,V.bool.injEq,V.sl.injEq,true_and,and_true]at h
 obtain⟨h0,h1,h2,h3,h4,h5,h6,h7,h8⟩:=h
 cases h0
 cases map_inj (f:=Pt.vs) (fun h=>map_inj Pt.inj (V.sl.inj h)) h1
 cases map_inj Prof.inj h2
 cases map_inj Fixt.inj h3
 cases map_inj Grp.inj h4
 cases map_inj Pal.inj h5
 cases map_inj Lst.inj h6
 cases map_inj Sb.inj h7
 cases map_inj Eff.inj h8
 rfl
end Go.Proofs.YtakiodkbjgdnoaaGreatDoor

namespace Go.Proofs.YtakiodkbjgdnoaaGreatDoor
open Go.Sha
set_option maxRecDepth 100000
variable {g:List (Nat×Obj)}{n:Nat}
def wSum (ps:List Prof):List Fixt→Int
 |[]=>0
 |x::r=>wattS ps x+wSum ps r
theorem wSum_app {ps:List Prof}{x:Fixt}:∀{l:List Fixt},wSum ps (l++[x])=wSum ps l+wattS ps x
 |[]=>by rw[List.nil_append,wSum,wSum,wSum];omega
 |y::r=>by rw[List.cons_append,wSum,wSum,wSum_app];omega
theorem wSum_perm {ps:List Prof}{l m:List Fixt}(h:l.Perm m):wSum ps l=wSum ps m:=by
 induction h with
 |nil=>rfl
 |cons x _ ih=>rw[wSum,wSum,ih]
 |swap x y l=>rw[wSum,wSum,wSum,wSum];omega
 |trans _ _ h1 h2=>rw[h1,h2]
theorem wSum_le {s:Sho}(hs:shoC s=0):∀{l:List Fixt},0≤wSum s.profs l∧wSum s.profs l≤1048576*l.length
 |[]=>by simp[wSum]
 |x::r=>by
  have h1:=wattS_le hs x
  have h2:=wSum_le hs (l:=r)
  rw[wSum,List.length_cons]
  omega
theorem f75 {s:Sho}(hs:shoC s=0){l:List Fixt}(hl:l.length<1000)(hp:s.profs.length<140737488355328){st:St}:run Tryz.prog HH 75 [rigE s.curves s.profs s.fixts,.sl (l.map Fixt.v)] st=some (.ret (.int .i64 (wSum s.profs l)),st):=by
 have h:∀r j,l.drop j=r→runL Tryz.prog HH [2,5,8,9,10] 1 B75_0 [(2,.ep (rigE s.curves s.profs s.fixts) 0),(5,.int .i64 (wSum s.profs (l.take j))),(8,.sl (l.map Fixt.v)),(9,.int .i64 l.length),(10,.int .i64 j)] (stN st.x.gl 1)=some (.exit 0,[(5,.int .i64 (wSum s.profs l))],stN st.x.gl 1):=by
  refine drop_ind (fun j h=>?_) (fun q r j h hx hd ih=>?_)
  all_goals rw[runL_of B75_0.eq_1]
  ·have h1:¬(j:Int)<l.length:=by omega
   rw[List.take_of_length_le h]
   push_cast[h1,rigE]
  ·have h1:(j:Int)<l.length:=by omega
   have hw:=iw1 (j:=j) (by omega)
   have h72:=fun(st:St)=>f72 (c:=s.curves) (fx:=s.fixts) (x:=q) (st:=st) hp
   have b1:=wSum_le hs (l:=l.take j)
   have b2:(l.take j).length≤1000:=by rw[List.length_take];omega
   have b3:=wattS_le hs q
   have w:IntKind.i64.wrap (wSum s.profs (l.take j)+wattS s.profs q)=wSum s.profs (l.take j)+wattS s.profs q:=iwrap (by omega) (by omega)
   rw[take_snoc hd,wSum_app]at ih
   unfold wattS at w ih
   generalize wSum s.profs (l.take j)=z at *
   push_cast[rigE,Fixt.v,Prof.v]at h72 ih
   push_cast[h1,hw,hx,h72,w,rigE,Fixt.v,Prof.v]
   exact ih
 have h0:=h _ 0 rfl
 rw[List.take_zero]at h0
 rw[run_shut F75 rfl rfl (by simp[V.bdL,rigE_bd,V.bd,fix_bd])]
 push_cast[rigE,wSum]at h0
 push_cast[rigE,h0]
theorem f116 {l:List Fixt}{x y:Fixt}(hy:l[0]?=some y){st:St}:run Tryz.prog HH 116 [x.v,.ep (.agg [.sl (l.map Fixt.v)]) 0] st=some (.ret (.bool (x.phase != y.phase)),st):=by
 have h0:=(List.getElem?_eq_some_iff.1 hy).1
 have h0':(0:Int)<l.length:=by omega
 have hd:∀d,l.getD 0 d=y:=fun d=>by rw[List.getD_eq_getElem?_getD,hy];rfl
 rw[run_shut F116 rfl rfl (by simp[V.bdL,V.bd,fix_bd,Fixt.v])]
 push_cast[Fixt.v,h0,h0',hy,hd]
theorem f160p {l m:List Fixt}{y:Fixt}(hl:l.length<140737488355328)(hy:m[0]?=some y){st:St}:run Tryz.prog HH 160 [.sl (l.map Fixt.v),.fn (.func 116) [] [.ep (.agg [.sl (m.map Fixt.v)]) 0]] st=some (.ret (.int .i64 (ix (fun x=>x.phase != y.phase) l 0)),st) :=
 IxF (f:=Fixt.v) (n:=some 7) (fun _=>rfl) (fun _=>rfl) F160 rfl (by simp[V.bdL,V.bd,fix_bd]) hl (fun q _ _=>f116 hy) (fun _ _=>rfl) (fun _=>rfl)
theorem f115 {l m:List Fixt}{y:Fixt}(hl:l.length<140737488355328)(hy:m[0]?=some y){st:St}:run Tryz.prog HH 115 [.sl (l.map Fixt.v),.fn (.func 116) [] [.ep (.agg [.sl (m.map Fixt.v)]) 0]] st=some (.ret (.bool (l.any fun x=>x.phase != y.phase)),st):=by
 have h:=fun(st:St)=>f160p (st:=st) hl hy
 rw[run_shut F115 rfl rfl (by simp[V.bdL,V.bd,fix_bd])]
 push_cast[h,ix_ge]
def phaS (l:List Fixt)(y:Fixt):Int:=if(l.any fun x=>x.phase != y.phase)=true then 0 else y.phase
theorem f76 {l:List Fixt}{y:Fixt}(hl:l.length<140737488355328)(hy:l[0]?=some y){st:St}:run Tryz.prog HH 76 [.sl (l.map Fixt.v)] st=some (.ret (.int .i64 (phaS l y)),st):=by
 have h:=fun(st:St)=>f115 (st:=st) hl hy
 have h0:=(List.getElem?_eq_some_iff.1 hy).1
 have h0':(0:Int)<l.length:=by omega
 have hd:∀d,l.getD 0 d=y:=fun d=>by rw[List.getD_eq_getElem?_getD,hy];rfl
 rw[run_shut F76 rfl rfl (by simp[V.bdL,V.bd,fix_bd])]
 unfold phaS
 by_cases c:(l.any fun x=>x.phase != y.phase)=true
 ·push_cast[h,c,h0,h0',hy,hd,Fixt.v]
 ·push_cast[h,c,h0,h0',hy,hd,Fixt.v]
structure Cab where
 name:List UInt8
 num:Int
 watts:Int
 pha:Int
 deriving Inhabited
@[reducible] def Cab.v (x:Cab):V:=.agg [.str x.name,.int .i64 x.num,.int .i64 x.watts,.int .i64 x.pha]
@[simp] theorem Cab.bd (x:Cab):V.bd n x.v=true:=by simp[Cab.v,V.bd,V.bdL]
theorem f119 {s:List UInt8}{st:St}:run Tryz.prog HH 119 [.str s] st=some (.ret (.bool false),st):=by
 rw[run_shut F119 rfl rfl (by simp)]
 push_cast
 all_goals first|with_reducible rfl|exact dn_eq (by omega) (by with_reducible rfl)|((repeat' split)<;>(try simp_all)<;>(try (with_reducible refine dn_eq ?_ ?_<;>first|trivial|omega|rfl))<;>(try omega))
def cmpS (a b:List UInt8):Int:=if Op.bytesLess a b=true then -1 else if a=b then 0 else 1
theorem f79 {a b:List UInt8}{st:St}:run Tryz.prog HH 79 [.str a,.str b] st=some (.ret (.int .i64 (cmpS a b)),st):=by
 have h:=fun(s:List UInt8) (st:St)=>f119 (s:=s) (st:=st)
 rw[run_shut F79 rfl rfl (by simp)]
 unfold cmpS
 cases h1:Op.bytesLess a b with
 |true=>push_cast[h,h1]
 |false =>
  by_cases h2:a=b
  ·subst h2;push_cast[h,h1]
  ·push_cast[h,h1,h2]
theorem f78 {x y:Cab}{st:St}:run Tryz.prog HH 78 [x.v,y.v] st=some (.ret (.int .i64 (cmpS x.name y.name)),st):=by
 have h:=fun(st:St)=>f79 (a:=x.name) (b:=y.name) (st:=st)
 rw[run_shut F78 rfl rfl (by simp[V.bdL])]
 push_cast[Cab.v,h]
theorem at_glT {T:EvF}{f:FuncId}{args:List V}{st:St}{r:VRes}(h:run Tryz.prog T f args (stG st.x.gl)=some (r,stG st.x.gl))(hF:(compF Tryz.prog f).isSome=true)(hH:∀s:St,T f args s=none)(hb:V.bdL 0 args=true):run Tryz.prog T f args st=some (r,st):=by
 obtain⟨F,hF⟩:=Option.isSome_iff_exists.1 hF
 rw[run_eq (hH _) hF]at h ⊢
 unfold endF at h ⊢
 split at h
 ·rename_i hl
  rw[if_pos hl,if_pos hb]
  change shutR (stG st.x.gl) (rawE F.res (runC Tryz.prog T F.c (argEnv 0 args) (stG st.x.gl)))=_ at h
  change shutR st (rawE F.res (runC Tryz.prog T F.c (argEnv 0 args) (stG st.x.gl)))=_
  generalize rawE F.res (runC Tryz.prog T F.c (argEnv 0 args) (stG st.x.gl))=X at h ⊢
  match X,h with
  |some (.ret v,s),h =>
   simp only[shutR]at h ⊢
   cases hg:(shutV s v).bd 0 with
   |true=>rw[hg]at h;simp only[guardT]at h ⊢;cases h;rfl
   |false=>rw[hg]at h;cases h
  |some (.pan v,s),h =>
   simp only[shutR]at h ⊢
   cases hg:(shutV s v).bd 0 with
   |true=>rw[hg]at h;simp only[guardT]at h ⊢;cases h;rfl
   |false=>rw[hg]at h;cases h
 ·cases h
theorem len_ok:∀{m:Nat},m<13→∃k,∀st,run Tryz.prog HH 118 [.int .u64 m] st=some (.ret (.int .i64 k),st):=fun {m} h=>by
 match m,h with
 |0,_=>exact⟨0,fun st=>at_glT (evK_run (by kernel_rfl:evK Tryz.prog HH 40 40 118 [.int .u64 0] (stG st.x.gl)=some (.ret (.int .i64 0),stG st.x.gl))) (by kernel_rfl) (fun _=>rfl) rfl⟩
 |1,_=>exact⟨1,fun st=>at_glT (evK_run (by kernel_rfl:evK Tryz.prog HH 40 40 118 [.int .u64 1] (stG st.x.gl)=some (.ret (.int .i64 1),stG st.x.gl))) (by kernel_rfl) (fun _=>rfl) rfl⟩
 |2,_=>exact⟨2,fun st=>at_glT (evK_run (by kernel_rfl:evK Tryz.prog HH 40 40 118 [.int .u64 2] (stG st.x.gl)=some (.ret (.int .i64 2),stG st.x.gl))) (by kernel_rfl) (fun _=>rfl) rfl⟩
 |3,_=>exact⟨2,fun st=>at_glT (evK_run (by kernel_rfl:evK Tryz.prog HH 40 40 118 [.int .u64 3] (stG st.x.gl)=some (.ret (.int .i64 2),stG st.x.gl))) (by kernel_rfl) (fun _=>rfl) rfl⟩
 |4,_=>exact⟨3,fun st=>at_glT (evK_run (by kernel_rfl:evK Tryz.prog HH 40 40 118 [.int .u64 4] (stG st.x.gl)=some (.ret (.int .i64 3),stG st.x.gl))) (by kernel_rfl) (fun _=>rfl) rfl⟩
 |5,_=>exact⟨3,fun st=>at_glT (evK_run (by kernel_rfl:evK Tryz.prog HH 40 40 118 [.int .u64 5] (stG st.x.gl)=some (.ret (.int .i64 3),stG st.x.gl))) (by kernel_rfl) (fun _=>rfl) rfl⟩
 |6,_=>exact⟨3,fun st=>at_glT (evK_run (by kernel_rfl:evK Tryz.prog HH 40 40 118 [.int .u64 6] (stG st.x.gl)=some (.ret (.int .i64 3),stG st.x.gl))) (by kernel_rfl) (fun _=>rfl) rfl⟩
 |7,_=>exact⟨3,fun st=>at_glT (evK_run (by kernel_rfl:evK Tryz.prog HH 40 40 118 [.int .u64 7] (stG st.x.gl)=some (.ret (.int .i64 3),stG st.x.gl))) (by kernel_rfl) (fun _=>rfl) rfl⟩
 |8,_=>exact⟨4,fun st=>at_glT (evK_run (by kernel_rfl:evK Tryz.prog HH 40 40 118 [.int .u64 8] (stG st.x.gl)=some (.ret (.int .i64 4),stG st.x.gl))) (by kernel_rfl) (fun _=>rfl) rfl⟩
 |9,_=>exact⟨4,fun st=>at_glT (evK_run (by kernel_rfl:evK Tryz.prog HH 40 40 118 [.int .u64 9] (stG st.x.gl)=some (.ret (.int .i64 4),stG st.x.gl))) (by kernel_rfl) (fun _=>rfl) rfl⟩
 |10,_=>exact⟨4,fun st=>at_glT (evK_run (by kernel_rfl:evK Tryz.prog HH 40 40 118 [.int .u64 10] (stG st.x.gl)=some (.ret (.int .i64 4),stG st.x.gl))) (by kernel_rfl) (fun _=>rfl) rfl⟩
 |11,_=>exact⟨4,fun st=>at_glT (evK_run (by kernel_rfl:evK Tryz.prog HH 40 40 118 [.int .u64 11] (stG st.x.gl)=some (.ret (.int .i64 4),stG st.x.gl))) (by kernel_rfl) (fun _=>rfl) rfl⟩
 |12,_=>exact⟨4,fun st=>at_glT (evK_run (by kernel_rfl:evK Tryz.prog HH 40 40 118 [.int .u64 12] (stG st.x.gl)=some (.ret (.int .i64 4),stG st.x.gl))) (by kernel_rfl) (fun _=>rfl) rfl⟩
 |m+13,h=>exact absurd h (by omega)
end Go.Proofs.YtakiodkbjgdnoaaGreatDoor

namespace Go.Proofs.YtakiodkbjgdnoaaGreatDoor
open Go.Sha
set_option maxRecDepth 100000
variable {g:List (Nat×Obj)}{n:Nat}
def grpP (xs:List V)(r:VRes):Prop:=∃l:List Fixt,l.length<1000∧xs=l.map Fixt.v∧r=.ret (.sl (grpV l (keysF l)))
open Classical in
noncomputable def hGrp:List V→Option VRes
 |[.sl xs,.fn (.func 74) [] []]=>if h:∃r,grpP xs r then some (Classical.choose h) else none
 |_=>none
noncomputable def HG:EvF:=⟨[77,117,161],fun f args st=>bif Nat.beq f 73 then(hGrp args).map fun r=>(r,st) else bif memL f [72,75,76,78,118] then run Tryz.prog HH f args st else none⟩
@[push_cast]theorem HG_raw:HG.raw=[77,117,161]:=idq rfl
theorem HG_ok:ESound Tryz.prog HG:=fun f args st r s h=>by
 replace h:(bif Nat.beq f 73 then(hGrp args).map fun r=>(r,st) else bif memL f [72,75,76,78,118] then run Tryz.prog HH f args st else none)=some (r,s):=h
 by_cases h1:f=73
 ·subst h1
  rw[show Nat.beq 73 73=true from rfl,cond_true]at h
  obtain⟨z,hz,e⟩:=Option.map_eq_some_iff.1 h
  cases e
  unfold hGrp at hz
  split at hz
  ·split at hz
   ·rename_i hc
    cases hz
    obtain⟨l,hl,hx,hr⟩:=Classical.choose_spec hc
    rw[hr,hx]
    exact v73 hl
   ·cases hz
  ·cases hz
 rw[show Nat.beq f 73=false from Bool.eq_false_iff.2 fun e=>h1 (Nat.eq_of_beq_eq_true e),cond_false]at h
 cases h2:memL f [72,75,76,78,118] with
 |true=>rw[h2,cond_true]at h;exact run_sound mixed HH_ok _ _ _ _ _ h
 |false=>rw[h2,cond_false]at h;cases h
theorem upG {k:FuncId}{args:List V}{st:St}{r:VRes×St}(h:run Tryz.prog HH k args st=some r)(h1:Nat.beq k 73=false:=by rfl)(h2:memL k [72,75,76,78,118]=true:=by rfl):run Tryz.prog HG k args st=some r:=run_H (by
 show(bif Nat.beq k 73 then _ else bif memL k [72,75,76,78,118] then run Tryz.prog HH k args st else none)=_
 rw[h1,h2,cond_false,cond_true];exact h)
theorem mapF_inj:∀{l k:List Fixt},l.map Fixt.v=k.map Fixt.v→l=k
 |[],[],_=>rfl
 |[],_::_,h=>by cases h
 |_::_,[],h=>by cases h
 |x::l,y::k,h=>by
  simp only[List.map_cons,List.cons.injEq]at h
  rw[Fixt.inj h.1,mapF_inj h.2]
theorem e73 {l:List Fixt}(hl:l.length<1000){st:St}:run Tryz.prog HG 73 [.sl (l.map Fixt.v),.fn (.func 74) [] []] st=some (.ret (.sl (grpV l (keysF l))),st):=run_H (by
 have hex:∃r,grpP (l.map Fixt.v) r:=⟨_,l,hl,rfl,rfl⟩
 show(hGrp [.sl (l.map Fixt.v),.fn (.func 74) [] []]).map (fun r=>(r,st))=_
 rw[hGrp,dif_pos hex]
 obtain⟨l',_,h2,h3⟩:=Classical.choose_spec hex
 rw[h3,←mapF_inj h2];rfl)
theorem e78 {x y:Cab}{st:St}:run Tryz.prog HG 78 [x.v,y.v] st=some (.ret (.int .i64 (cmpS x.name y.name)),st):=upG f78
abbrev cmpC:V:=.fn (.func 78) [] []
def ltN (x y:Cab):Prop:=cmpS x.name y.name<0
instance {x y:Cab}:Decidable (ltN x y):=by unfold ltN;exact inferInstance
def stC (g:List (Nat×Obj))(xs:List Cab):St:=⟨2,[],[(1,⟨65,4,xs.map Cab.v,true,false⟩)],⟨[],g,[]⟩⟩
@[push_cast]theorem stC_eq {xs:List Cab}:stC g xs=⟨2,[],[(1,⟨65,4,xs.map Cab.v,true,false⟩)],⟨[],g,[]⟩⟩:=idq rfl
theorem L161_0 {m i N:Nat}(hN:N<1000):∀(r:List Cab) (x:Cab) (s:List Cab),r.length+1+s.length=N →
  runL Tryz.prog HG [0,1,2,3,8,9] 2 B161_0 [(0,.osl 1 N),(1,.int .i64 0),(2,.int .i64 m),(3,cmpC),(8,.int .i64 i),(9,.int .i64 r.length)] (stC g (r.reverse++x::s))
   = some (.exit 2,[(0,.osl 1 N),(1,.int .i64 0),(2,.int .i64 m),(3,cmpC),(8,.int .i64 i)],stC g (insW ltN r x s)):=by
 have h123:=fun x y st=>e78 (x:=x) (y:=y) (st:=st)
 intro r
 induction r with
 |nil =>
  intro x s hl
  rw[runL_of B161_0.eq_1]
  push_cast[List.length_nil,List.reverse_nil,List.nil_append,insW]
 |cons y r ih =>
  intro x s hl
  rw[List.length_cons]at hl
  have ih:=ih x (y::s) (by rw[List.length_cons];omega)
  have e1:((y::r).reverse++x::s).length=N:=by simp;omega
  have e2:∀d,((y::r).reverse++x::s).getD (r.length+1) d=x:=fun d=>by simp[List.getD_eq_getElem?_getD]
  have e3:∀d,((y::r).reverse++x::s).getD r.length d=y:=fun d=>by simp[List.getD_eq_getElem?_getD]
  have e4:(((y::r).reverse++x::s).map Cab.v).getD (r.length+1) V.und=x.v:=by simp[List.getD_eq_getElem?_getD]
  have e5:(((y::r).reverse++x::s).map Cab.v).getD r.length V.und=y.v:=by simp[List.getD_eq_getElem?_getD]
  have e6:((y::r).reverse++x::s)[r.length+1]?=some x:=by simp
  have e7:((((y::r).reverse++x::s).map Cab.v).set (r.length+1) y.v)[r.length]?=some y.v:=by simp
  have e8:((((y::r).reverse++x::s).map Cab.v).set (r.length+1) y.v).set r.length x.v=(r.reverse++x::y::s).map Cab.v:=by simp
  have w1:IntKind.i64.wrap (((r.length:Nat):Int)+1-1)=r.length:=by rw[iwrap (by omega) (by omega)];omega
  have c1:(0:Int)<((r.length:Nat):Int)+1:=by omega
  have c2:((r.length:Nat):Int)+1<N:=by omega
  have c3:(r.length:Int)<N:=by omega
  have d2:r.length+1<N:=by omega
  have d3:r.length<N:=by omega
  rw[insW,List.length_cons]
  generalize hxs:(y::r).reverse++x::s=xs at *
  rw[runL_of B161_0.eq_1]
  push_cast[Cab.v]at h123 ih
  simp only[Cab.v]at e7 e8
  by_cases c:cmpS x.name y.name<0
  ·rw[if_pos (show ltN x y from c)]
   push_cast[e1,e2,e3,e4,e5,e6,e7,e8,w1,c1,c2,c3,d2,d3,Cab.v,h123,stoB,V.cells,V.recell,c]
   first|exact ih|exact dn_eq (fun _=>by simp[e1]) ih|exact dn_eq (by simp[e1]) ih
  ·rw[if_neg (show ¬ltN x y from c)]
   push_cast[e1,e2,e3,e4,e5,e6,e7,e8,w1,c1,c2,c3,d2,d3,Cab.v,h123,stoB,V.cells,V.recell,c]
   simp[←hxs]
theorem L161_1 {l:List Cab}(hN:l.length<1000):∀(r:List Cab) (j:Nat),l.drop j=r→∀out:List Cab,out.length=j →
  runL Tryz.prog HG [0,1,2,3,8] 2 B161_1 [(0,.osl 1 l.length),(1,.int .i64 0),(2,.int .i64 l.length),(3,cmpC),(8,.int .i64 j)] (stC g (out++r))
   = some (.exit 0,[],stC g (r.foldl (insS ltN) out)):=by
 refine drop_ind (fun j h out ho=>?_) (fun q r j h hx hd ih out ho=>?_)
 all_goals rw[runL_of B161_1.eq_1]
 ·have h1:¬(j:Int)<l.length:=by omega
  push_cast[h1,List.foldl_nil,List.append_nil]
 ·have h1:(j:Int)<l.length:=by omega
  have hw:=iw1 (j:=j) (by omega)
  have hL:=L161_0 (g:=g) (m:=l.length) (i:=j) hN out.reverse q r (by
   have:=congrArg List.length hd
   simp at this ⊢;omega)
  have ih:=ih (insS ltN out q) (by rw[insS_len,ho])
  rw[insW_app,List.reverse_reverse,List.length_reverse,ho]at hL
  rw[List.foldl_cons]
  push_cast[insS]at ih hL
  push_cast[h1,hw,hL,insS]
  exact ih
theorem f161 {l:List Cab}(hN:l.length<1000):run Tryz.prog HG 161 [.osl 1 l.length,.int .i64 0,.int .i64 l.length,cmpC] (stC g l)=some (.ret (.tup []),stC g (isort ltN l)):=by
 cases l with
 |nil =>
  rw[run_open F161 rfl rfl (by simp)]
  push_cast[runL_of B161_1.eq_1,isort,List.foldl_nil,List.length_nil]
 |cons x l =>
  have hL:=L161_1 (g:=g) hN l 1 rfl [x] rfl
  have e:(x::l).foldl (insS ltN) []=l.foldl (insS ltN) [x]:=by simp[insS,insW]
  have hlen:(isort ltN (x::l)).length=(x::l).length:=isort_len
  rw[isort,e]at hlen ⊢
  rw[List.singleton_append]at hL
  rw[run_open F161 rfl rfl (by simp)]
  generalize hxs:x::l=xs at *
  push_cast at hL
  push_cast[hL,hlen]
theorem f117 {l:List Cab}(hN:l.length<13){k:Int}:run Tryz.prog HG 117 [.osl 1 l.length,.int .i64 0,.int .i64 l.length,.int .i64 k,cmpC] (stC g l)=some (.ret (.tup []),stC g (isort ltN l)):=by
 have h161:=f161 (g:=g) (l:=l) (by omega)
 have hlen:(isort ltN l).length=l.length:=isort_len
 have h1:(l.length:Int)≤12:=by omega
 have hw:IntKind.i64.wrap ((l.length:Int)-0)=l.length:=by rw[iwrap (by omega) (by omega)];omega
 rw[run_open F117 rfl rfl (by simp)]
 push_cast at h161
 push_cast[runL_of B117_0.eq_1,h161,h1,hw,hlen]
theorem f77 {l:List Cab}(hN:l.length<13):run Tryz.prog HG 77 [.osl 1 l.length,cmpC] (stC g l)=some (.ret (.tup []),stC g (isort ltN l)):=by
 obtain⟨k,hk⟩:=len_ok hN
 have h118:=fun st=>upG (hk st)
 have h117:=f117 (g:=g) (k:=k) hN
 have hlen:(isort ltN l).length=l.length:=isort_len
 have hw:IntKind.u64.wrap (l.length:Int)=l.length:=by
  have:(l.length:Int)<13:=by omega
  simp[IntKind.wrap,IntKind.signed,IntKind.bits];omega
 rw[run_open F77 rfl rfl (by simp)]
 push_cast at h117
 push_cast[h117,h118,hw,hlen]
end Go.Proofs.YtakiodkbjgdnoaaGreatDoor

namespace Go.Proofs.YtakiodkbjgdnoaaGreatDoor
open Go.Sha
set_option maxRecDepth 100000
variable {g:List (Nat×Obj)}{n:Nat}
def phaH (l:List Fixt):Int:=match l with
 |[]=>0
 |y::r=>phaS (y::r) y
def cabF (ps:List Prof)(p:List Fixt)(k:List UInt8):Cab:=⟨k,(grpK p k).length,wSum ps (grpK p k),phaH (grpK p k)⟩
def cabL (ps:List Prof)(p:List Fixt)(ks:List (List UInt8)):List Cab:=(ks.filter fun k=>decide (k≠[])).map (cabF ps p)
theorem cabL_len {ps:List Prof}{p:List Fixt}{ks:List (List UInt8)}:(cabL ps p ks).length≤ks.length:=by
 unfold cabL;rw[List.length_map];exact List.length_filter_le _ _
theorem grpK_first {p:List Fixt}{k:List UInt8}(h:k∈keysF p):∃y r,grpK p k=y::r∧y.cable=k:=by
 obtain⟨x,h1,h2⟩:=(keysF_mem p).1 h
 have h3:x∈grpK p k:=List.mem_filter.2 ⟨h1,by simp[h2]⟩
 cases hg:grpK p k with
 |nil=>rw[hg]at h3;cases h3
 |cons y r =>
  have:y∈grpK p k:=by rw[hg];simp
  exact⟨y,r,rfl,by simpa using(List.mem_filter.1 this).2⟩
theorem L44 {s:Sho}(hs:shoC s=0)(hl:s.fixts.length<13)(hp:s.profs.length<140737488355328):∀r j,(keysF s.fixts).drop j=r→∀out:List Cab,out.length≤j →
  runL Tryz.prog HG [1,3,10,11,12] 2 B44_0 [(1,.ep (rigE s.curves s.profs s.fixts) 0),(3,.osl 1 out.length),(10,.sl (grpV s.fixts (keysF s.fixts))),(11,.int .i64 (keysF s.fixts).length),(12,.int .i64 j)] (stC g out)
   = some (.exit 0,[(3,.osl 1 (out++cabL s.profs s.fixts r).length)],stC g (out++cabL s.profs s.fixts r)):=by
 have hkl:=keysF_len s.fixts
 refine drop_ind (fun j h out ho=>?_) (fun k r j h hx hd ih out ho=>?_)
 all_goals rw[runL_of B44_0.eq_1]
 ·have h1:¬(j:Int)<(keysF s.fixts).length:=by omega
  unfold grpV
  push_cast[h1,rigE,cabL,List.filter_nil,List.map_nil,List.append_nil]
 ·have h1:(j:Int)<(keysF s.fixts).length:=by omega
  have hw:=iw1 (j:=j) (by omega)
  obtain⟨y,q,hg,hy⟩:=grpK_first (p:=s.fixts) (k:=k) (mem_at hd)
  have hgl:(grpK s.fixts k).length≤s.fixts.length:=List.length_filter_le _ _
  have h75:=fun(st:St)=>upG (f75 (l:=grpK s.fixts k) (st:=st) hs (by omega) hp)
  have h76:=fun(st:St)=>upG (f76 (l:=grpK s.fixts k) (y:=y) (st:=st) (by omega) (by rw[hg];rfl))
  have hro:roomV (out.length+1) 40=true:=roomV_lit (by omega) (by omega)
  have hpl:(0:Int)<(grpK s.fixts k).length:=by rw[hg];simp
  have hpd:∀d,(grpK s.fixts k).getD 0 d=y:=fun d=>by rw[hg];rfl
  have hp0:(grpK s.fixts k)[0]?=some y:=by rw[hg];rfl
  have hpn:0<(grpK s.fixts k).length:=by rw[hg];simp
  have hph:phaS (grpK s.fixts k) y=phaH (grpK s.fixts k):=by rw[hg];rfl
  have hc:cabL s.profs s.fixts (k::r)=if k=[] then cabL s.profs s.fixts r else cabF s.profs s.fixts k::cabL s.profs s.fixts r:=by
   unfold cabL
   by_cases h:k=[]<;>simp[h]
  rw[hph]at h76
  rw[hc]
  by_cases hk:k=[]
  ·subst hk
   have ih:=ih out (by omega)
   rw[if_pos rfl]
   unfold grpV at ih ⊢
   push_cast[rigE]at ih
   push_cast[h1,hw,hx,rigE,hpl,hpd,hp0,hpn,Fixt.v,hy]
   exact ih
  ·have ih:=ih (out++[cabF s.profs s.fixts k]) (by simp;omega)
   rw[if_neg hk]
   rw[List.append_assoc,List.singleton_append]at ih
   unfold grpV cabF at ih ⊢
   push_cast[rigE,Cab.v,List.map_append,List.map_cons,List.map_nil,List.length_append,List.length_cons,List.length_nil]at ih h75
   push_cast[h1,hw,hx,rigE,hpl,hpd,hp0,hpn,Fixt.v,hy,hk,h75,h76,hro,Cab.v,List.map_append,List.map_cons,List.map_nil,List.length_append,List.length_cons,List.length_nil]
   exact ih
def pre44:Cd:=.g [.q 1 102 0,.s 2 (.mv (.c .nils))] (.z [1] (.g [.s 3 (.mv (.c .nils))] .skip))
def ld44:List Ins:=[.a 7 0 1,.a 8 2 7,.l 9 8,.s 10 (.f 73 [.t 9,(.c (.fn (.func 74) [] []))]),.u 11 10,.c 12 0]
def post44:Cd:=.g [.m 35 3,.s 36 (.f 77 [.t 35,(.c (.fn (.func 78) [] []))])] (.g [.m 37 3,.m 2 37] (.ret [2]))
theorem F44':compF Tryz.prog 44=some ⟨38,[.tmp 2],pre44.put (.join [3] (.g ld44 (.block 0 (.loop [1,3,10,11,12] [(3,(65,4))] B44_0))) post44)⟩:=F44
def cabS (s:Sho):List Cab:=isort ltN (cabL s.profs s.fixts (keysF s.fixts))
theorem v44 {s:Sho}(hs:shoC s=0)(hl:s.fixts.length<13)(hp:s.profs.length<140737488355328){st:St}:VCalls Tryz.prog 44 [rigE s.curves s.profs s.fixts] st fun x y=>x=.ret (.sl ((cabS s).map Cab.v))∧y=st:=by
 refine VCalls_shutW (by simp[V.bdL,rigE_bd]) (VCalls_WD F44' (Nat.le_of_ble_eq_true rfl) fun N=>?_)
 show WD _ ⟨N,[]⟩ (pre44.put (.join [3] (.g ld44 (.block 0 (.loop [1,3,10,11,12] [(3,(65,4))] B44_0))) post44)) (argEnv 0 [rigE s.curves s.profs s.fixts]) (stN st.x.gl 0) _
 have hkl:=keysF_len s.fixts
 have h73:=fun st=>e73 (l:=s.fixts) (by omega) (st:=st)
 have hL:=L44 (g:=st.x.gl) hs hl hp _ 0 rfl [] (Nat.le_refl _)
 rw[List.drop_zero,List.nil_append]at hL
 have hcl:(cabL s.profs s.fixts (keysF s.fixts)).length<13:=by have:=cabL_len (ps:=s.profs) (p:=s.fixts) (ks:=keysF s.fixts);omega
 have h77:=f77 (g:=st.x.gl) hcl
 have hsl:(cabS s).length=(cabL s.profs s.fixts (keysF s.fixts)).length:=isort_len
 unfold cabS at hsl ⊢
 generalize cabL s.profs s.fixts (keysF s.fixts)=C at *
 generalize isort ltN C=D at *
 generalize hg:st.x.gl=g at *
 have hgl:(grpV s.fixts (keysF s.fixts)).length=(keysF s.fixts).length:=by simp[grpV]
 refine WD.run mixed HG_ok (x:=.normal) (e:=[(3,.nils),(1,.ep (rigE s.curves s.profs s.fixts) 0),(2,.nils),(1,.ptr 0 0),(0,rigE s.curves s.profs s.fixts)]) (s:=⟨1,[],[],⟨[],g,[]⟩⟩) (by unfold pre44;push_cast[rigE]) ?_
 refine WD.join (WD.seq (WD.ev mixed HG_ok (x:=.normal) (e:=[(12,.int .i64 0),(11,.int .i64 (keysF s.fixts).length),(10,.sl (grpV s.fixts (keysF s.fixts))),(9,.sl (s.fixts.map Fixt.v)),(8,.ep (rigE s.curves s.profs s.fixts) 2),(7,.ep (rigE s.curves s.profs s.fixts) 0),(3,.nils),(1,.ep (rigE s.curves s.profs s.fixts) 0),(2,.nils),(1,.ptr 0 0),(0,rigE s.curves s.profs s.fixts)]) (s:=⟨1,[],[],⟨[],g,[]⟩⟩) (by unfold ld44;push_cast[rigE,h73,hgl]) ?_))
 show WD _ _ (.block 0 (.loop [1,3,10,11,12] [(3,(65,4))] B44_0)) _ _ _
 refine WD.block (WD.ownW (lv:=[1,3,10,11,12]) (r:=[]) (t:=3) (e:=65) (es:=4) rfl ?_)
 refine WD.ev mixed HG_ok (x:=.exit 0) (e:=[(3,.osl 1 C.length)]) (s:=stC g C) (by push_cast at hL;push_cast[hL]) ?_
 refine(show ∀(Q1:Post) e s,Q1 .normal e s→blockPost 0 Q1 (.exit 0) e s from fun Q1 e s h=>by simp only[blockPost,if_true];exact h) _ _ _ ?_
 show WD _ _ post44 (restr [3] [(3,.osl 1 C.length)]) _ _
 refine WD.ev mixed HG_ok (x:=.ret) (e:=[(2,.osl 1 C.length)]) (s:=stC g D) (by unfold post44;push_cast at h77;push_cast[h77]) ?_
 refine⟨.ret (.osl 1 C.length),_,rfl,?_⟩
 push_cast[hsl]
end Go.Proofs.YtakiodkbjgdnoaaGreatDoor

namespace Go.Proofs.YtakiodkbjgdnoaaGreatDoor
open Go.Sha
set_option maxRecDepth 100000
variable {g:List (Nat×Obj)}{n:Nat}
def cabP (v:V)(r:VRes):Prop:=∃s:Sho,shoC s=0∧s.fixts.length<13∧s.profs.length<140737488355328∧v=rigE s.curves s.profs s.fixts∧r=.ret (.sl ((cabS s).map Cab.v))
open Classical in
noncomputable def hCab:List V→Option VRes
 |[v]=>if h:∃r,cabP v r then some (Classical.choose h) else none
 |_=>none
noncomputable def HJ:EvF:=⟨[],fun f args st=>bif Nat.beq f 44 then(hCab args).map fun r=>(r,st) else bif memL f [42] then run Tryz.prog HH f args st else none⟩
@[push_cast]theorem HJ_raw:HJ.raw=[]:=idq rfl
theorem HJ_ok:ESound Tryz.prog HJ:=fun f args st r s h=>by
 replace h:(bif Nat.beq f 44 then(hCab args).map fun r=>(r,st) else bif memL f [42] then run Tryz.prog HH f args st else none)=some (r,s):=h
 by_cases h1:f=44
 ·subst h1
  rw[show Nat.beq 44 44=true from rfl,cond_true]at h
  obtain⟨z,hz,e⟩:=Option.map_eq_some_iff.1 h
  cases e
  unfold hCab at hz
  split at hz
  ·split at hz
   ·rename_i hc
    cases hz
    obtain⟨x,h1,h2,h3,hx,hr⟩:=Classical.choose_spec hc
    rw[hr,hx]
    exact v44 h1 h2 h3
   ·cases hz
  ·cases hz
 rw[show Nat.beq f 44=false from Bool.eq_false_iff.2 fun e=>h1 (Nat.eq_of_beq_eq_true e),cond_false]at h
 cases h2:memL f [42] with
 |true=>rw[h2,cond_true]at h;exact run_sound mixed HH_ok _ _ _ _ _ h
 |false=>rw[h2,cond_false]at h;cases h
theorem mapP_inj:∀{l k:List Prof},l.map Prof.v=k.map Prof.v→l=k
 |[],[],_=>rfl
 |[],_::_,h=>by cases h
 |_::_,[],h=>by cases h
 |x::l,y::k,h=>by
  simp only[List.map_cons,List.cons.injEq]at h
  rw[Prof.inj h.1,mapP_inj h.2]
theorem e44 {s:Sho}(hs:shoC s=0)(hl:s.fixts.length<13)(hp:s.profs.length<140737488355328){st:St}:run Tryz.prog HJ 44 [rigE s.curves s.profs s.fixts] st=some (.ret (.sl ((cabS s).map Cab.v)),st):=run_H (by
 have hex:∃r,cabP (rigE s.curves s.profs s.fixts) r:=⟨_,s,hs,hl,hp,rfl,rfl⟩
 show(hCab [rigE s.curves s.profs s.fixts]).map (fun r=>(r,st))=_
 rw[hCab,dif_pos hex]
 obtain⟨x,_,_,_,h4,h5⟩:=Classical.choose_spec hex
 rw[h5]
 simp only[rigE,V.agg.injEq,List.cons.injEq,V.sl.injEq,and_true]at h4
 have e1:=mapP_inj h4.2.1
 have e2:=mapF_inj h4.2.2
 unfold cabS
 rw[←e1,←e2];rfl)
theorem f15 {s:Sho}(h:s.ok)(hs:shoC s=0)(hl:s.fixts.length<13){st:St}:run Tryz.prog HJ 15 [rigE s.curves s.profs s.fixts] st=some (.ret (.tup [.sl ((cabS s).map Cab.v),.int .i64 0]),st):=by
 have h1:∀st,run Tryz.prog HJ 42 [rigE s.curves s.profs s.fixts] st=some (.ret (.tup [rigE s.curves s.profs s.fixts,.int .i64 (uniC s.curves s.profs s.fixts)]),st):=fun st=>run_H (by
  have:=f42 (st:=st) h
  show(bif Nat.beq 42 44 then(hCab [rigE s.curves s.profs s.fixts]).map (fun r=>(r,st)) else bif memL 42 [42] then run Tryz.prog HH 42 [rigE s.curves s.profs s.fixts] st else none)=_
  exact this)
 have h2:=fun(st:St)=>e44 (st:=st) hs hl h.p.1
 rw[uniC_0 hs]at h1
 rw[run_shut F15 rfl rfl (by simp[V.bdL,rigE_bd])]
 push_cast[rigE]at h1 h2
 push_cast[rigE,h1,h2]
noncomputable def HM:EvF:=⟨[],fun f args st=>bif memL f [3,4] then none else bif memL f [7] then run Tryz.prog HE f args st else bif memL f [8,12] then run Tryz.prog HC f args st else bif memL f [15] then run Tryz.prog HJ f args st else run Tryz.prog HH f args st⟩
@[push_cast]theorem HM_raw:HM.raw=[]:=idq rfl
theorem HM_ok:ESound Tryz.prog HM:=fun f args st r s h=>by
 simp only[HM]at h
 cases h1:memL f [3,4] with
 |true=>rw[h1,cond_true]at h;cases h
 |false =>
 rw[h1,cond_false]at h
 cases h2:memL f [7] with
 |true=>rw[h2,cond_true]at h;exact run_sound mixed (HE_ok HH_ok) _ _ _ _ _ h
 |false =>
 rw[h2,cond_false]at h
 cases h3:memL f [8,12] with
 |true=>rw[h3,cond_true]at h;exact run_sound mixed (HC_ok HH_ok) _ _ _ _ _ h
 |false =>
 rw[h3,cond_false]at h
 cases h4:memL f [15] with
 |true=>rw[h4,cond_true]at h;exact run_sound mixed HJ_ok _ _ _ _ _ h
 |false=>rw[h4,cond_false]at h;exact run_sound mixed HH_ok _ _ _ _ _ h
theorem upM7 {k:FuncId}{args:List V}{st:St}{r:VRes×St}(h:run Tryz.prog HE k args st=some r)(h1:memL k [3,4]=false:=by rfl)(h2:memL k [7]=true:=by rfl):run Tryz.prog HM k args st=some r:=run_H (by
 simp only[HM,h1,h2,cond_false,cond_true,h])
theorem upM12 {k:FuncId}{args:List V}{st:St}{r:VRes×St}(h:run Tryz.prog HC k args st=some r)(h1:memL k [3,4]=false:=by rfl)(h2:memL k [7]=false:=by rfl)(h3:memL k [8,12]=true:=by rfl):run Tryz.prog HM k args st=some r:=run_H (by
 simp only[HM,h1,h2,h3,cond_false,cond_true,h])
theorem upM15 {k:FuncId}{args:List V}{st:St}{r:VRes×St}(h:run Tryz.prog HJ k args st=some r)(h1:memL k [3,4]=false:=by rfl)(h2:memL k [7]=false:=by rfl)(h3:memL k [8,12]=false:=by rfl)(h4:memL k [15]=true:=by rfl):run Tryz.prog HM k args st=some r:=run_H (by
 simp only[HM,h1,h2,h3,h4,cond_false,cond_true,h])
theorem upM {k:FuncId}{args:List V}{st:St}{r:VRes×St}(h:run Tryz.prog HH k args st=some r)(h1:memL k [3,4]=false:=by rfl)(h2:memL k [7]=false:=by rfl)(h3:memL k [8,12]=false:=by rfl)(h4:memL k [15]=false:=by rfl):run Tryz.prog HM k args st=some r:=run_H (by
 simp only[HM,h1,h2,h3,h4,cond_false,h])
end Go.Proofs.YtakiodkbjgdnoaaGreatDoor

namespace Go.Proofs.YtakiodkbjgdnoaaGreatDoor
open Go.Sha
set_option maxRecDepth 100000
variable {g:List (Nat×Obj)}{n:Nat}
abbrev Hng:Type:=List (List UInt8×Int×Int)
def hV (h:Hng):List (V×V):=h.map fun x=>(.str x.1,.agg [.int .i64 x.2.1,.int .i64 x.2.2])
def hG:Hng→List UInt8→Int×Int
 |[],_=>(0,0)
 |x::r,u=>if u=x.1 then x.2 else hG r u
def hPut:Hng→List UInt8→Int×Int→Hng
 |[],u,v=>[(u,v)]
 |x::r,u,v=>if u=x.1 then(u,v)::r else x::hPut r u v
theorem find_hV {u:List UInt8}{v:Int×Int}:∀{a:Hng}{i:Nat},(∃j,findV (.str u) (hV a) i=some (some (i+j,.agg [.int .i64 (hG a u).1,.int .i64 (hG a u).2]))∧(hV a).set j (.str u,.agg [.int .i64 v.1,.int .i64 v.2])=hV (hPut a u v))∨(findV (.str u) (hV a) i=some none∧hG a u=(0,0)∧hV a++[(.str u,.agg [.int .i64 v.1,.int .i64 v.2])]=hV (hPut a u v))
 |[],i=>.inr ⟨rfl,rfl,rfl⟩
 |x::r,i=>by
  by_cases h:u=x.1
  ·refine .inl ⟨0,?_,?_⟩
   ·simp[hV,findV,sameV,h,hG]
   ·simp[hV,hPut,h]
  ·have e:findV (.str u) (hV (x::r)) i=findV (.str u) (hV r) (i+1):=by simp[hV,findV,sameV,beq_eq_false_iff_ne.2 h]
   rcases find_hV (u:=u) (v:=v) (a:=r) (i:=i+1) with⟨j,h1,h2⟩|⟨h1,h2,h3⟩
   ·refine .inl ⟨j+1,?_,?_⟩
    ·rw[e,h1,hG,if_neg h,show i+1+j=i+(j+1) by omega]
    ·rw[hPut,if_neg h]
     simp only[hV,List.map_cons,List.set_cons_succ]at h2 ⊢
     rw[h2]
   ·refine .inr ⟨by rw[e,h1],by rw[hG,if_neg h,h2],?_⟩
    rw[hPut,if_neg h]
    simp only[hV,List.map_cons,List.cons_append]at h3 ⊢
    rw[h3]
theorem look_hV {st:St}{a:Hng}{u:List UInt8}:lookB st (.agg [.int .i64 0,.int .i64 0]) false (findV (.str u) (hV a) 0)=some (.agg [.int .i64 (hG a u).1,.int .i64 (hG a u).2],st):=by
 rcases find_hV (u:=u) (v:=(0,0)) (a:=a) (i:=0) with⟨j,h1,h2⟩|⟨h1,h2,h3⟩
 ·rw[h1];rfl
 ·rw[h1,h2];rfl
theorem mset_hV {st:St}{i:Nat}{a:Hng}{u:List UInt8}{v:Int×Int}:msetB st i (hV a) (.str u) (.agg [.int .i64 v.1,.int .i64 v.2]) (findV (.str u) (hV a) 0)=some (.und,⟨st.nx,st.mem,st.arr,⟨updO st.x.obj i (.map (hV (hPut a u v))),st.x.gl,st.x.ty⟩⟩):=by
 rcases find_hV (u:=u) (v:=v) (a:=a) (i:=0) with⟨j,h1,h2⟩|⟨h1,h2,h3⟩
 ·rw[h1,←h2];simp[msetB,putM]
 ·rw[h1,←h3];simp[msetB,putM]
@[push_cast]theorem hV_all {a:Hng}:((hV a).all fun p=>p.1.bd n&&p.2.bd n)=true:=by simp[hV,V.bd,V.bdL]
@[push_cast]theorem hV_len {a:Hng}:(hV a).length=a.length:=by simp[hV]
def hungK (ps:List Prof)(p:List Fixt)(k:List UInt8):List UInt8×Int×Int:=(k,((grpK p k).length:Int),wSum ps (grpK p k))
def hungL (ps:List Prof)(p:List Fixt):Hng:=((keysF p).filter fun k=>decide (k≠[])).map (hungK ps p)
theorem hG_map {ps:List Prof}{p:List Fixt}{k:List UInt8}:∀{ks:List (List UInt8)},hG (ks.map (hungK ps p)) k=if k∈ks then(hungK ps p k).2 else(0,0)
 |[]=>by simp[hG]
 |x::r=>by
  rw[List.map_cons,hG,hG_map]
  by_cases h:k=x
  ·subst h;simp[hungK]
  ·simp[hungK,h]
theorem hPut_in {ps:List Prof}{p q:List Fixt}{k:List UInt8}(hq:∀k',k'≠k→hungK ps q k'=hungK ps p k'):∀{ks:List (List UInt8)},ks.Nodup→k∈ks→hPut (ks.map (hungK ps p)) k (hungK ps q k).2=ks.map (hungK ps q)
 |[],_,h=>by cases h
 |x::r,hn,h=>by
  obtain⟨n1,n2⟩:=List.nodup_cons.1 hn
  rw[List.map_cons,List.map_cons,hPut]
  by_cases e:k=x
  ·subst e
   rw[if_pos (show k=(hungK ps p k).1 from rfl)]
   have:r.map (hungK ps p)=r.map (hungK ps q):=List.map_congr_left fun k' hk'=>(hq k' (fun e=>n1 (e▸hk'))).symm
   rw[this];rfl
  ·rw[if_neg (show ¬k=(hungK ps p x).1 from e),hPut_in hq n2 (by simpa [e] using h),hq x (fun e'=>e e'.symm)]
theorem hPut_new {ps:List Prof}{p q:List Fixt}{k:List UInt8}(hq:∀k',k'≠k→hungK ps q k'=hungK ps p k'):∀{ks:List (List UInt8)},k ∉ ks→hPut (ks.map (hungK ps p)) k (hungK ps q k).2=(ks++[k]).map (hungK ps q)
 |[],_=>rfl
 |x::r,h=>by
  simp at h
  rw[List.map_cons,List.cons_append,List.map_cons,hPut,if_neg (show ¬k=(hungK ps p x).1 from h.1),hPut_new hq (by simpa using h.2),hq x (fun e'=>h.1 e'.symm)]
theorem hungK_ne {ps:List Prof}{p:List Fixt}{x:Fixt}{k:List UInt8}(h:k≠x.cable):hungK ps (p++[x]) k=hungK ps p k:=by
 unfold hungK
 rw[grpK_snoc,if_neg (fun e=>h e.symm)]
theorem hung_step {ps:List Prof}{p:List Fixt}{x:Fixt}:hungL ps (p++[x])=if x.cable=[] then hungL ps p else hPut (hungL ps p) x.cable ((hG (hungL ps p) x.cable).1+1,(hG (hungL ps p) x.cable).2+wattS ps x):=by
 have hq:∀k,k≠x.cable→hungK ps (p++[x]) k=hungK ps p k:=fun k h=>hungK_ne h
 have hnd:((keysF p).filter fun k=>decide (k≠[])).Nodup:=(keysF_nodup p).filter _
 by_cases hc:x.cable=[]
 ·rw[if_pos hc]
  unfold hungL
  have e:((keysF (p++[x])).filter fun k=>decide (k≠[]))=(keysF p).filter fun k=>decide (k≠[]):=by
   rw[keysF_snoc,addK]
   split
   ·rfl
   ·rw[List.filter_append];simp[hc]
  rw[e]
  exact List.map_congr_left fun k hk=>hq k (fun e=>by
   have:=(List.mem_filter.1 hk).2
   rw[e,hc]at this;simp at this)
 ·rw[if_neg hc]
  have hv:((hG (hungL ps p) x.cable).1+1,(hG (hungL ps p) x.cable).2+wattS ps x)=(hungK ps (p++[x]) x.cable).2:=by
   unfold hungL
   rw[hG_map]
   by_cases hm:x.cable∈keysF p
   ·rw[if_pos (by simp[hm,hc])]
    simp only[hungK,grpK_snoc,if_pos,List.length_append,List.length_singleton,wSum_app,Prod.mk.injEq]
    exact⟨by omega,trivial⟩
   ·rw[if_neg (by simp[hm])]
    have:grpK p x.cable=[]:=List.filter_eq_nil_iff.2 fun y hy=>by
     simp only[beq_iff_eq];exact fun e=>hm ((keysF_mem p).2 ⟨y,hy,e⟩)
    simp[hungK,grpK_snoc,this,wSum]
  rw[hv]
  unfold hungL
  by_cases hm:x.cable∈keysF p
  ·rw[hPut_in hq hnd (by simp[hm,hc]),keysF_snoc,addK,if_pos hm]
  ·rw[hPut_new hq (by simp[hm]),keysF_snoc,addK,if_neg hm,List.filter_append]
   simp[hc]
theorem hung_le {s:Sho}(hs:shoC s=0){p:List Fixt}{k:List UInt8}:0≤(hG (hungL s.profs p) k).1∧(hG (hungL s.profs p) k).1≤p.length∧0≤(hG (hungL s.profs p) k).2∧(hG (hungL s.profs p) k).2≤1048576*p.length:=by
 unfold hungL
 rw[hG_map]
 split
 ·have h1:=wSum_le hs (l:=grpK p k)
  have h2:(grpK p k).length≤p.length:=List.length_filter_le _ _
  simp only[hungK]
  omega
 ·refine⟨by decide,?_,by decide,?_⟩<;>simp<;>omega
end Go.Proofs.YtakiodkbjgdnoaaGreatDoor

namespace Go.Proofs.YtakiodkbjgdnoaaGreatDoor
open Go.Sha
set_option maxRecDepth 100000
variable {g:List (Nat×Obj)}{n:Nat}
theorem HH9 {f:FuncId}{args:List V}{st:St}{r:VRes×St}(h:run Tryz.prog HH f args st=some r)(h1:memL f [3,4]=false:=by rfl)(h2:memL f [7]=false:=by rfl)(h3:memL f [8,12]=false:=by rfl)(h4:memL f [15]=false:=by rfl):run Tryz.prog HM f args st=some r:=upM h h1 h2 h3 h4
def stL (g:List (Nat×Obj))(ps:List Prof)(p:List Fixt):St:=⟨4,[(2,fulV ps p)],[],⟨[(3,.map (hV (hungL ps p)))],g,[]⟩⟩
def B4e (s:Sho)(l:List Fixt)(C:List Cab)(j:Nat):Env:=[(1,.ep s.v 0),(5,.ep (.agg (fulV s.profs s.fixts)) 0),(7,.sl (C.map Cab.v)),(9,.ptr 2 0),(10,.mp 3),(62,.sl ((l.map rowH).map rowV)),(63,.int .i64 l.length),(64,.int .i64 j)]
theorem L4_0 {s:Sho}(h:s.ok)(hs:shoC s=0){C:List Cab}{l:List Fixt}(hl:l.length<1000)(hA:∀x∈l,rngC x=0):∀r j,l.drop j=r →
  runL Tryz.prog HM [1,5,7,9,10,62,63,64] 4 B4_0 (B4e s l C j) (stL g s.profs (l.take j))=some (.exit 0,[(5,.ep (.agg (fulV s.profs s.fixts)) 0),(7,.sl (C.map Cab.v)),(9,.ptr 2 0),(10,.mp 3)],stL g s.profs l):=by
 refine drop_ind (fun j h=>?_) (fun q r j hj hx hd ih=>?_)
 ·rw[runL_of B4_0.eq_1]
  have h1:¬(j:Int)<l.length:=by omega
  rw[List.take_of_length_le h]
  unfold B4e stL fulV
  push_cast[h1,Sho.v]
 ·have h1:(j:Int)<l.length:=by omega
  have hw:=iw1 (j:=j) (by omega)
  obtain⟨r1,r2,r3,r4,r5,r6,r7,r8,r9,r10⟩:=rng_ok (hA q (mem_at hd))
  have e1:=fun(st:St)=>HH9 (atoi_itoa (m:=q.phase) (st:=st) (by omega) (by omega))
  have e2:=fun(st:St)=>HH9 (f16 (s:=s) (x:=q) (st:=st) h.p.1 rfl)
  have hx2:∀d,(l.map rowH).getD j d=rowH q:=fun d=>by
   have:=congrArg (·[0]?) hd
   simp at this
   rw[List.getD_eq_getElem?_getD,List.getElem?_map,this];rfl
  have b1:=sumP_le hs (k:=1) (l:=l.take j)
  have b2:=sumP_le hs (k:=2) (l:=l.take j)
  have b3:=sumP_le hs (k:=3) (l:=l.take j)
  have b4:(l.take j).length≤1000:=by rw[List.length_take];omega
  have b5:=wattS_le hs q
  obtain⟨b6,b7,b8,b9⟩:=hung_le hs (p:=l.take j) (k:=q.cable)
  have hm:=fun(st:St)=>look_hV (st:=st) (a:=hungL s.profs (l.take j)) (u:=q.cable)
  have hms:=fun(st:St) (i:Nat)=>mset_hV (st:=st) (i:=i) (a:=hungL s.profs (l.take j)) (u:=q.cable) (v:=((hG (hungL s.profs (l.take j)) q.cable).1+1,(hG (hungL s.profs (l.take j)) q.cable).2+wattS s.profs q))
  rw[take_snoc hd]at ih
  simp only[stL,fulV,sumP_app,hung_step,B4e]at ih ⊢
  generalize l.take j=p at *
  generalize wattS s.profs q=W at *
  generalize hG (hungL s.profs p) q.cable=P at *
  have w1:IntKind.i64.wrap (sumP s.profs 1 p+W)=sumP s.profs 1 p+W:=iwrap (by omega) (by omega)
  have w2:IntKind.i64.wrap (sumP s.profs 2 p+W)=sumP s.profs 2 p+W:=iwrap (by omega) (by omega)
  have w3:IntKind.i64.wrap (sumP s.profs 3 p+W)=sumP s.profs 3 p+W:=iwrap (by omega) (by omega)
  have w4:IntKind.i64.wrap (P.1+1)=P.1+1:=iwrap (by omega) (by omega)
  have w5:IntKind.i64.wrap (P.2+W)=P.2+W:=iwrap (by omega) (by omega)
  generalize hPut (hungL s.profs p) q.cable (P.1+1,P.2+W)=H at *
  generalize hungL s.profs p=K at *
  have e:q.phase=1∨q.phase=2∨q.phase=3:=by omega
  rw[runL_of B4_0.eq_1]
  rcases e with e|e|e<;>by_cases hc:q.cable=[]
  all_goals
   push_cast[rowH,rowV,Sho.v,e,hc,Int.add_zero,List.map_cons,List.map_nil]at ih e1 e2 hm hms
   push_cast[h1,hw,hx2,rowH,rowV,Sho.v,e,hc,e1,e2,hm,hms,w1,w2,w3,w4,w5,List.map_cons,List.map_nil,List.length_cons,List.length_nil]
  all_goals exact ih
theorem hG_cab {s:Sho}{l:List Fixt}(hp:l.Perm s.fixts){c:Cab}(hc:c∈cabS s):hG (hungL s.profs l) c.name=(c.num,c.watts):=by
 have hc':c∈cabL s.profs s.fixts (keysF s.fixts):=(isort_perm (lt:=ltN)).mem_iff.1 hc
 unfold cabL at hc'
 obtain⟨k,hk,rfl⟩:=List.mem_map.1 hc'
 obtain⟨k1,k2⟩:=List.mem_filter.1 hk
 have hkm:k∈keysF l:=by
  obtain⟨x,h1,h2⟩:=(keysF_mem _).1 k1
  exact(keysF_mem _).2 ⟨x,hp.mem_iff.2 h1,h2⟩
 show hG (hungL s.profs l) k=_
 unfold hungL
 rw[hG_map]
 rw[if_pos (List.mem_filter.2 ⟨hkm,k2⟩)]
 have hg:(grpK l k).Perm (grpK s.fixts k):=hp.filter _
 simp only[hungK,cabF,hg.length_eq,wSum_perm hg]
theorem hung_len {s:Sho}{l:List Fixt}(hp:l.Perm s.fixts):(hungL s.profs l).length=(cabS s).length:=by
 unfold cabS
 rw[isort_len]
 unfold cabL hungL
 rw[List.length_map,List.length_map]
 have:((keysF l).filter fun k=>decide (k≠[])).Perm ((keysF s.fixts).filter fun k=>decide (k≠[])) :=
  List.Perm.filter _ ((List.perm_ext_iff_of_nodup (keysF_nodup l) (keysF_nodup _)).2 fun k=>by
   rw[keysF_mem,keysF_mem]
   exact⟨fun⟨x,h1,h2⟩=>⟨x,hp.mem_iff.1 h1,h2⟩,fun⟨x,h1,h2⟩=>⟨x,hp.mem_iff.2 h1,h2⟩⟩)
 exact this.length_eq
theorem L4_1 {s:Sho}{l:List Fixt}{C:List Cab}(hC:C.length<1000)(hv:∀c∈C,hG (hungL s.profs l) c.name=(c.num,c.watts)):∀r j,C.drop j=r →
  runL Tryz.prog HM [10,132,133,134] 4 B4_1 [(10,.mp 3),(132,.sl (C.map Cab.v)),(133,.int .i64 C.length),(134,.int .i64 j)] (stL g s.profs l)=some (.exit 2,[],stL g s.profs l):=by
 refine drop_ind (fun j h=>?_) (fun q r j hj hx hd ih=>?_)
 all_goals rw[runL_of B4_1.eq_1]
 all_goals unfold stL at *
 ·have h1:¬(j:Int)<C.length:=by omega
  push_cast[h1]
 ·have h1:(j:Int)<C.length:=by omega
  have hw:=iw1 (j:=j) (by omega)
  have hm:=fun(st:St)=>look_hV (st:=st) (a:=hungL s.profs l) (u:=q.name)
  rw[hv q (mem_at hd)]at hm
  push_cast[Cab.v]at ih
  have hb:V.bdL 4 (fulV s.profs l)=true:=by simp[fulV,V.bdL,V.bd]
  have hq1:(q.num == q.num&&q.watts == q.watts)=true:=by simp
  push_cast[h1,hw,hx,hm,Cab.v,hb,hq1]
  exact ih
theorem l4 {s:Sho}(h:s.ok){v:GV}{st:St}(hg:st.x.gl=glK v)(hG:glB st.x.gl=true):run Tryz.prog HM 4 [s.v] st=some (.ret (.bool true),st):=by
 obtain⟨b,hb⟩:=f5 h
 have h5:=fun st=>upM (hb st)
 have h6:=fun(st:St)=>upM (f6 (st:=st) h)
 have h7:=fun nx mem arr obj ty=>upM7 (f7 (v:=v) (st:=⟨nx,mem,arr,⟨obj,st.x.gl,ty⟩⟩) hg)
 rw[run_shut F4 rfl rfl (by simp)]
 push_cast[Sho.v]at h5 h6
 cases b with
 |false=>push_cast[Sho.v,h5,h7]
 |true =>
 by_cases hs:shoC s=0
 ·have h12:=few_of h hs hb
  have hp:=isort_perm (lt:=ltK kChan) (l:=s.fixts)
  have hlen:(isort (ltK kChan) s.fixts).length=s.fixts.length:=isort_len
  have hA:∀x∈isort (ltK kChan) s.fixts,rngC x=0:=fun x hx=>(aloC_ok ((fix_ok (shoC_parts hs).2.2.2.1).2.2.2 x (hp.mem_iff.1 hx))).1
  have hh:=fun nx mem arr obj ty=>upM12 (f12 (st:=⟨nx,mem,arr,⟨obj,st.x.gl,ty⟩⟩) h (fun _=>by omega) hG)
  have h14:=fun(st:St)=>upM (f14 (s:=s) (st:=st))
  have h13:=fun(st:St)=>upM (f13 (st:=st) h hs (by omega))
  have h15:=fun(st:St)=>upM15 (f15 (st:=st) h hs (by omega))
  rw[hupT,if_pos hs]at hh
  have hL0:=L4_0 (g:=st.x.gl) h hs (C:=cabS s) (l:=isort (ltK kChan) s.fixts) (by omega) hA _ 0 rfl
  have hcl:(cabS s).length≤s.fixts.length:=by
   unfold cabS
   rw[isort_len]
   exact Nat.le_trans cabL_len (keysF_len _)
  have hL1:=L4_1 (g:=st.x.gl) (s:=s) (l:=isort (ltK kChan) s.fixts) (C:=cabS s) (by omega) (fun c hc=>hG_cab hp hc) _ 0 rfl
  have hul:=hung_len (s:=s) hp
  have s1:=sumP_perm (ps:=s.profs) (k:=1) hp
  have s2:=sumP_perm (ps:=s.profs) (k:=2) hp
  have s3:=sumP_perm (ps:=s.profs) (k:=3) hp
  rw[List.take_zero]at hL0
  simp only[stL,B4e,fulV,s1,s2,s3]at hL0 hL1 h13
  generalize isort (ltK kChan) s.fixts=so at *
  have e0:hungL s.profs []=[]:=rfl
  have e1:hV []=[]:=rfl
  have hln:(so.length:Int)=s.fixts.length:=by omega
  have hw1:IntKind.i64.wrap ((s.fixts.length:Int)+1)=s.fixts.length+1:=iwrap (by omega) (by omega)
  have ht:so.take so.length=so:=List.take_length
  generalize cabS s=C at *
  push_cast[Sho.v,rigE,e0,e1,sumP,hln]at hL0 hL1 hh h13 h14 h15
  push_cast[Sho.v,rigE,h5,h6,h7,hs,hh,h13,h14,h15,hL0,hL1,e1,hln,hw1,ht,hul]
  exact dn_eq ⟨by rw[List.all_eq_true];exact fun _ _=>rfl,by omega⟩ (by simp)
 ·push_cast[Sho.v,h5,h6,h7,hs]
end Go.Proofs.YtakiodkbjgdnoaaGreatDoor

