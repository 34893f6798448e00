/- The patch: the program's answer is the reference's. Profiles: the program's answer is the reference's. Lists of palettes, submasters, cues: the program's answers are the reference's. Numbers of cues,  .. -/
import Derived.Test.YtdkokbhcjmapdaaGreatDoorL1
import Derived.Test.YtdkokbhcjmapdaaGreatDoorLShbYB
import Derived.Test.YtdkokbhcjmapdaaGreatDoorProg
import Derived.KernelRfl
import Derived.Test.YtdkokbhcjmapdaaGreatDoorLShbXI
import Derived.Test.YtdkokbhcjmapdaaGreatDoorLShbDE
import Derived.Test.YtdkokbhcjmapdaaGreatDoorLShbEK
import Derived.Shelf.Strings.Builder1
import Derived.Shelf.Strings.Builder2
import Derived.Shelf.Strings.OnBuilder
import Derived.Shelf.Small.Utf8
import Derived.Shelf.Small.Bits
import Derived.Shelf.Small.Strs
import Derived.Shelf.Strings.BuilderF
import Derived.Shelf.Strconv.Atoi
import Derived.Shelf.Strconv.Itoa0
import Derived.Shelf.Strconv.Itoa1
import Derived.Shelf.LaysM
import Derived.Shelf.Strconv.Itoa2
import Derived.Shelf.Strconv.Itoa3
import Derived.Shelf.Strconv.AtoiErrFast
import Derived.Shelf.Strconv.ParseIntEmpty
import Derived.Shelf.Strconv.AtoiFail
import Derived.Shelf.Strconv.Clone
import Derived.Shelf.Strconv.SyntaxError
import Derived.Shelf.LaysC
import Derived.Shelf.Strconv.ToError
import Derived.Shelf.Strconv.Lower
import Derived.Shelf.Strconv.ParseUint10
import Derived.Shelf.Strconv.ParseUint10Empty
import Derived.Shelf.Strconv.ParseUint10Any
import Derived.Shelf.Strconv.ParseInt10
import Derived.Shelf.Strconv.AtoiLong
import Derived.Shelf.Strconv.AtoiInnerAll
import Derived.Shelf.Strconv.RangeError
import Derived.Shelf.Strconv.ToErrorRange
import Derived.Shelf.Strconv.AtoiAll
import Derived.Shelf.Strings.Search1
import Derived.Shelf.Strings.Search2
import Derived.Shelf.Strings.Search3
import Derived.Shelf.Strings.Cut
import Derived.Shelf.Strings.Shaped
import Derived.Shelf.GgClosure.StringsIndexFunc
import Derived.Ground.GgwProg
import Derived.Shelf.GgClosure.StringsIndexFuncTop
import Derived.Shelf.Strings.Prefix
import Derived.Shelf.Strings.Fields
import Derived.Shelf.Strings.SplitShaped
import Derived.Shelf.Unicode.Latin
import Derived.Shelf.Unicode.Decode
import Derived.Shelf.Strings.Runes
import Derived.Shelf.Strings.AsciiSet
import Derived.Shelf.Bits.Mul64
import Derived.Shelf.Strings.Repeat
import Derived.Shelf.Unicode.DecodeSlow
import Derived.Shelf.Unicode.DecodeAny
import Derived.Shelf.Unicode.Is16White
import Derived.Shelf.Unicode.IsSpaceAny
import Derived.Shelf.Unicode.DecodeLast
import Derived.Shelf.Unicode.Is16Any
import Derived.Shelf.Unicode.Is32Any
import Derived.Shelf.Unicode.ExclAny
import Derived.Ground.Names2Prog
import Derived.Shelf.Slices.SearchI
import Derived.Ground.SlgnProg
import Derived.Shelf.SlicesE.Equal
import Derived.Ground.SlgfProg
import Derived.Shelf.SlicesE.IndexFunc
import Derived.Shelf.SlGeneric
import Derived.Ground.SlsfProg
import Derived.Shelf.SlSortCmp.NoneTotal
import Derived.Test.YtdkokbhcjmapdaaGreatDoorLShbXJ
import Derived.Lib.AtoiAllCases
import Derived.Laws.RangeAny
import Derived.RangeFuncNested
import Derived.RangeFuncBound
import Derived.RangeFuncCalls
import Derived.RangeFuncLeaves
import Derived.RangeFuncBox
import Derived.RangeFuncWrites
import Derived.Shelf.Abstract
import Derived.Shelf.RegionOpen
import Derived.WalkKit
import Derived.OwnWalkIn
import Derived.TacticsInMore
import Derived.LoopNIn
import Derived.LoopIn
set_option linter.unusedSimpArgs false
set_option linter.unusedVariables false
namespace Go.Proofs.YtdkokbhcjmapdaaGreatDoor
open Go.Sha
set_option maxRecDepth 100000
variable {g:List (Nat×Obj)}{n:Nat}
theorem foot_ded {ps:List Prof}{x:Fixt}:footS (dedP ps) x=footS ps x:=by simp only[footS,pfx_ded]
theorem useU_ded {ps:List Prof}{u:Int}:∀{l:List Fixt}{j:Nat}{a:List Int},useU (dedP ps) u l j a=useU ps u l j a
 |[],_,_=>rfl
 |x::r,j,a=>by rw[useU,useU,foot_ded,useU_ded]
theorem setL_get {a:List Int}{o k:Nat}{v:Int}(h:o<a.length):(setL a o v).getD k 0=if k=o then v else a.getD k 0:=by
 have h1:(a.take o).length=o:=len_take (by omega)
 rw[setL,List.getD_eq_getElem?_getD,List.getElem?_append]
 rw[h1]
 by_cases h2:k<o
 ·rw[if_pos h2,if_neg (by omega),List.getElem?_take,if_pos h2,List.getD_eq_getElem?_getD]
 ·rw[if_neg h2]
  by_cases h3:k=o
  ·subst h3;simp
  ·rw[if_neg h3,show k-o=(k-o-1)+1 by omega,List.getElem?_cons_succ,List.getElem?_drop,show o+1+(k-o-1)=k by omega,List.getD_eq_getElem?_getD]
theorem fillA_get {v:Int}{k:Nat}:∀{m:Nat}{a:List Int}{o:Nat},o+m≤a.length→(fillA a o v m).getD k 0=if o≤k∧k<o+m then v else a.getD k 0
 |0,a,o,h=>by rw[fillA,if_neg (by omega)]
 |m+1,a,o,h=>by
  have h1:=setL_len (a:=a) (o:=o) (v:=v) (by omega)
  rw[fillA,fillA_get (by omega),setL_get (by omega)]
  by_cases h2:k=o
  ·rw[if_neg (by omega),if_pos h2,if_pos (by omega)]
  ·rw[if_neg h2]
   by_cases h3:o+1≤k∧k<o+1+m
   ·rw[if_pos h3,if_pos (by omega)]
   ·rw[if_neg h3,if_neg (by omega)]
def usesK (ps:List Prof)(u:Int)(k:Nat)(y:Fixt):Prop:=y.univ=u∧y.addr≤k∧(k:Int)<y.addr+footS ps y
theorem useU_get {ps:List Prof}{u:Int}{k:Nat}:∀{l:List Fixt}{j:Nat}{a:List Int},(∀x∈l,inU ps x)→a.length=513→(0<(useU ps u l j a).getD k 0↔(∃y∈l,usesK ps u k y)∨0<a.getD k 0)
 |[],j,a,_,_=>by simp[useU]
 |x::r,j,a,hb,h=>by
  obtain⟨b1,b2,b3⟩:=hb x (List.mem_cons_self ..)
  have hl:(if x.univ=u then fillA a x.addr.toNat (j+1) (footS ps x).toNat else a).length=513:=by
   split
   ·rw[fillA_len (by omega)];exact h
   ·exact h
  rw[useU,useU_get (fun y hy=>hb y (List.mem_cons_of_mem _ hy)) hl]
  have e:0<(if x.univ=u then fillA a x.addr.toNat (j+1) (footS ps x).toNat else a).getD k 0↔usesK ps u k x∨0<a.getD k 0:=by
   by_cases hu:x.univ=u
   ·rw[if_pos hu,fillA_get (by omega)]
    unfold usesK
    by_cases h2:x.addr.toNat≤k∧k<x.addr.toNat+(footS ps x).toNat
    ·rw[if_pos h2];exact⟨fun _=>.inl ⟨hu,by omega,by omega⟩,fun _=>by omega⟩
    ·rw[if_neg h2];exact⟨.inr,fun e=>e.resolve_left fun e=>h2 (by omega)⟩
   ·rw[if_neg hu];exact⟨.inr,fun e=>e.resolve_left fun e=>hu e.1⟩
  rw[e]
  simp only[List.mem_cons,exists_eq_or_imp]
  exact⟨fun h=>h.elim (fun h=>.inl (.inr h)) fun h=>h.elim (fun h=>.inl (.inl h)) .inr,fun h=>h.elim (fun h=>h.elim (fun h=>.inr (.inl h)) .inl) fun h=>.inr (.inr h)⟩
theorem any_part {l:List Int}{m n:Nat}{p:Int→Bool}:(((l.take n).drop m).any p=true)↔∃k,m≤k∧k<n∧k<l.length∧p (l.getD k 0)=true:=by
 rw[List.any_eq_true]
 constructor
 ·rintro⟨x,hx,hp⟩
  obtain⟨i,hi⟩:=List.mem_iff_getElem?.1 hx
  rw[List.getElem?_drop,List.getElem?_take]at hi
  split at hi
  ·rename_i h
   have h2:=(List.getElem?_eq_some_iff.1 hi).1
   exact⟨m+i,by omega,h,h2,by rw[List.getD_eq_getElem?_getD,hi];exact hp⟩
  ·cases hi
 ·rintro⟨k,h1,h2,h3,h4⟩
  refine⟨l.getD k 0,List.mem_iff_getElem?.2 ⟨k-m,?_⟩,h4⟩
  rw[List.getElem?_drop,List.getElem?_take,show m+(k-m)=k by omega,if_pos h2,List.getD_eq_getElem?_getD,List.getElem?_eq_getElem h3];rfl
theorem aloC_ok {ps:List Prof}{x:Fixt}(h:aloC ps x=0):rngC x=0∧∃p,pfx ps x.prof=some p∧1≤p.foot∧x.addr+p.foot≤513:=by
 unfold aloC at h
 split at h
 ·rename_i h1;exact absurd h h1
 ·rename_i h1
  have h1:=Classical.not_not.1 h1
  split at h
  ·cases h
  ·split at h
   ·cases h
   ·rename_i p hp
    split at h
    ·cases h
    ·rename_i h3
     have:=rng_ok h1
     rw[wr1_ok (by omega)]at h3
     exact⟨h1,p,hp,by omega,by omega⟩
theorem aloC_in {ps:List Prof}{x:Fixt}(h:aloC ps x=0):inU ps x∧1≤footS ps x:=by
 obtain⟨h1,p,hp,h2,h3⟩:=aloC_ok h
 have:=rng_ok h1
 have e:footS ps x=p.foot:=by rw[footS,hp];rfl
 unfold inU
 rw[e]
 omega
theorem zI_get {k:Nat}:zI.getD k 0=0:=by
 rw[zI,List.getD_eq_getElem?_getD,List.getElem?_replicate];split<;>rfl
theorem fixF_eq {ps:List Prof}{b:List Fixt}{x:Fixt}(hb:∀y∈b,aloC ps y=0) :
  fixF (dedP ps) b x=if ¬aloC ps x=0 then aloC ps x else if b.any (fun p=>decide (p.chan=x.chan∧p.part=x.part))=true then 7 else if b.any (fun p=>ovl ps p x)=true then 10 else 0:=by
 unfold fixF
 rw[pfx_ded,useU_ded]
 by_cases h1:rngC x=0
 ·rw[if_neg (by simp[h1])]
  unfold aloC
  rw[if_neg (by simp[h1]:¬¬rngC x=0)]
  by_cases h2:¬x.cable=[]∧nameS x.cable=false
  ·rw[if_pos h2,if_pos h2];rfl
  ·rw[if_neg h2,if_neg h2]
   cases hp:pfx ps x.prof with
   |none=>rfl
   |some p =>
    dsimp only
    by_cases h3:p.foot<1∨wr1 x<p.foot
    ·simp[h3]
    ·simp only[if_neg h3,not_true_eq_false,if_false]
     have r:=rng_ok h1
     rw[wr1_ok (by omega)]at h3
     have e1:(b.any fun y=>decide (y.chan=x.chan)&&y.part == x.part)=b.any fun p=>decide (p.chan=x.chan∧p.part=x.part):=by
      congr 1;funext y;simp only[Bool.decide_and];rfl
     rw[e1]
     congr 1
     have ef:footS ps x=p.foot:=by rw[footS,hp];rfl
     have e2:((((useU ps x.univ b 0 zI).take (x.addr+p.foot).toNat).drop x.addr.toNat).any fun v=>decide (0<v))=b.any fun p=>ovl ps p x:=by
      rw[Bool.eq_iff_iff,any_part,List.any_eq_true,useU_len (fun y hy=>(aloC_in (hb y hy)).1) zI_len]
      simp only[decide_eq_true_eq,useU_get (fun y hy=>(aloC_in (hb y hy)).1) zI_len,zI_get,Int.lt_irrefl,or_false]
      constructor
      ·rintro⟨k,k1,k2,k3,y,hy,u1,u2,u3⟩
       obtain⟨⟨b1,b2,b3⟩,b4⟩:=aloC_in (hb y hy)
       have w1:IntKind.i64.wrap (x.addr+p.foot)=x.addr+p.foot:=iwrap (by omega) (by omega)
       have w2:IntKind.i64.wrap (y.addr+footS ps y)=y.addr+footS ps y:=iwrap (by omega) (by omega)
       exact⟨y,hy,by simp only[ovl,decide_eq_true_eq,w1,w2,ef];omega⟩
      ·rintro⟨y,hy,ho⟩
       obtain⟨⟨b1,b2,b3⟩,b4⟩:=aloC_in (hb y hy)
       have w1:IntKind.i64.wrap (x.addr+p.foot)=x.addr+p.foot:=iwrap (by omega) (by omega)
       have w2:IntKind.i64.wrap (y.addr+footS ps y)=y.addr+footS ps y:=iwrap (by omega) (by omega)
       simp only[ovl,decide_eq_true_eq,w1,w2,ef]at ho
       refine⟨(max x.addr y.addr).toNat,?_,?_,?_,y,hy,ho.1,?_,?_⟩<;>omega
     rw[e2]
 ·rw[if_pos h1]
  have:aloC ps x=2:=by
   unfold aloC
   rw[if_pos h1]
   unfold rngC at h1 ⊢
   split
   ·rfl
   ·split
    ·rfl
    ·rename_i a b;simp[a,b]at h1
  rw[this];rfl
theorem L208 {l:List Fixt}{ps:List Prof}(hl:l.length<140737488355328)(hb:∀x∈l,x.cable.length<140737488355328):∀r j,l.drop j=r→(∀x∈l.take j,aloC ps x=0)→runL Tryz.prog HH [5,20,21] 1 B208_0 [(5,.ep (rigV l (dedP ps)) 0),(20,.int .i64 l.length),(21,.int .i64 j)] (stN g 1)=lpE (stN g 1) [] 4 (fixR ps l r j):=by
 refine drop_ind (fun j h h8=>?_) (fun q r j h hx hd ih h8=>?_)
 all_goals rw[runL_of B208_0.eq_1]
 ·have h1:¬(j:Int)<l.length:=by omega
  push_cast[h1,fixR]
 ·have h1:(j:Int)<l.length:=by omega
  have hw:=iw1 (j:=j) (by omega)
  have h190:=fun(st:St)=>f284 (ps:=dedP ps) (st:=st) hl h hx (fun y hy=>by have:=(aloC_in (h8 y hy)).1;unfold inU at this ⊢;rw[foot_ded];exact this) (hb q (mem_at hd))
  rw[fixF_eq h8]at h190
  push_cast[rigV]at h190
  by_cases h2:aloC ps q=0
  ·have ih:=ih (by rw[take_snoc hd];intro x hx;rcases List.mem_append.1 hx with hx|hx;exact h8 x hx;rw[List.mem_singleton.1 hx];exact h2)
   push_cast[h1,hw,hx,rigV,h190,h2]at ih ⊢
   simp only[ih,fixR,h2]
   all_goals first|with_reducible rfl|exact dn_eq (by omega) (by with_reducible rfl)|((repeat' split)<;>(try simp_all)<;>(try (with_reducible refine dn_eq ?_ ?_<;>first|trivial|omega|rfl))<;>(try omega))
  ·clear ih
   push_cast[h1,hw,hx,rigV,h190,h2]
   simp[fixR,h2]
theorem f208 {l:List Fixt}{ps:List Prof}(hl:l.length<140737488355328)(hb:∀x∈l,x.cable.length<140737488355328)(hp:ps.length<140737488355328){st:St}:run Tryz.prog HH 208 [.sl (l.map Fixt.v),.sl (ps.map Prof.v)] st=some (.ret (.int .i64 (fixCR l ps)),st):=by
 have h189:=fun(st:St)=>f283 (l:=l) (ps:=ps) (st:=st) hp
 have hL:=L208 (g:=st.x.gl) (ps:=ps) hl hb _ 0 rfl (by simp)
 push_cast[rigV]at hL h189
 rw[run_shut F208 rfl rfl (by simp)]
 push_cast[h189,hL,fixCR,lpE]
 all_goals first|with_reducible rfl|exact dn_eq (by omega) (by with_reducible rfl)|((repeat' split)<;>(try simp_all)<;>(try (with_reducible refine dn_eq ?_ ?_<;>first|trivial|omega|rfl))<;>(try omega))
end Go.Proofs.YtdkokbhcjmapdaaGreatDoor

namespace Go.Proofs.YtdkokbhcjmapdaaGreatDoor
open Go.Sha
set_option maxRecDepth 100000
variable {g:List (Nat×Obj)}{n:Nat}
theorem insI_c {l:List Int}{a b:Int}:(insI l a).contains b=(l.contains b||b == a):=by
 unfold insI
 split
 ·rename_i h
  by_cases e:b=a
  ·subst e;simp only[h];simp
  ·simp[e]
 ·rw[List.contains_eq_any_beq,List.any_append,←List.contains_eq_any_beq];simp[BEq.comm]
theorem foldI_c {b:Int}:∀{os l:List Int},(os.foldl insI l).contains b=(l.contains b||os.contains b)
 |[],l=>by simp
 |a::r,l=>by rw[List.foldl_cons,foldI_c,insI_c,List.contains_cons,Bool.or_assoc]
theorem offs_c {q:Ftr}{v:Int}:(offs q).contains v=useQ v q:=by
 unfold offs useQ
 rw[Bool.eq_iff_iff]
 by_cases h:q.bits=16
 ·simp only[h,if_true,true_and,List.contains_cons,List.contains_nil,Bool.or_false,Bool.or_eq_true,beq_iff_eq,decide_eq_true_eq]
  exact⟨fun e=>e.elim (fun e=>.inl e.symm) (fun e=>.inr e.symm),fun e=>e.elim (fun e=>.inl e.symm) (fun e=>.inr e.symm)⟩
 ·simp only[h,if_false,false_and,or_false,List.contains_cons,List.contains_nil,Bool.or_false,beq_iff_eq,decide_eq_true_eq]
  exact⟨Eq.symm,Eq.symm⟩
def SetOk (b:List Ftr)(ts us:List Int):Prop:=(∀a,ts.contains a=b.any fun z=>z.attr == a)∧∀v,us.contains v=b.any (useQ v)
theorem SetOk.snoc {b:List Ftr}{ts us:List Int}(h:SetOk b ts us)(q:Ftr):SetOk (b++[q]) (insI ts q.attr) ((offs q).foldl insI us) :=
 ⟨fun a=>by rw[insI_c,h.1,List.any_append];simp[BEq.comm],fun v=>by rw[foldI_c,h.2,List.any_append,offs_c];simp⟩
theorem insC_eq {q:Ftr}(h:q.bits=8∨q.bits=16):insC q=insR q:=by
 have e:topV q.bits=if q.bits=8 then 255 else 65535:=by rcases h with h|h<;>rw[h]<;>decide
 unfold insC insR
 rw[e]
 by_cases h1:lvl q.home<;>by_cases h2:q.low<0∨q.high<q.low∨(if q.bits=8 then 255 else 65535)<q.high<;>simp[h1,h2]
theorem innC_eq {q:Ftr}{c:Int}(h:q.bits=8∨q.bits=16):innC c q=innR c q:=by unfold innC innR;rw[insC_eq h]
theorem featF_eq {foot c:Int}{q:Ftr}{b:List Ftr}{ts us:List Int}(h:SetOk b ts us):featR foot c q b=if ¬featF foot q ts us=0 then featF foot q ts us else innC c q:=by
 have e1:((offs q).any fun v=>decide (v<0∨foot≤v))=true↔q.coarse<0∨foot≤q.coarse∨q.bits=16∧(q.fine<0∨foot≤q.fine):=by
  unfold offs;by_cases hb:q.bits=16<;>simp[hb,or_assoc]
 have e2:(offs q).any us.contains=true↔b.any (useQ q.coarse)=true∨q.bits=16∧b.any (useQ q.fine)=true:=by
  rw[←h.2,←h.2];unfold offs;by_cases hb:q.bits=16<;>simp only[hb,if_true,if_false,List.any_cons,List.any_nil,Bool.or_false,Bool.or_eq_true,true_and,false_and,or_false]
 unfold featR featF
 rw[h.1]
 by_cases c1:q.attr<0∨15≤q.attr
 ·simp[c1]
 ·by_cases c2:(b.any fun z=>z.attr == q.attr)=true
  ·simp[c1,c2]
  ·by_cases c3:¬q.bits=8∧¬q.bits=16
   ·simp[c1,c2,c3]
   ·have hb:q.bits=8∨q.bits=16:=by omega
    rw[innC_eq hb]
    by_cases c4:q.coarse<0∨foot≤q.coarse∨q.bits=16∧(q.fine<0∨foot≤q.fine)
    ·simp only[if_neg c1,if_neg c2,if_neg c3,if_pos c4,if_pos (e1.2 c4)];rfl
    ·simp only[if_neg c1,if_neg c2,if_neg c3,if_neg c4,if_neg (fun e=>c4 (e1.1 e))]
     by_cases c5:q.bits=8∧¬q.fine=0
     ·simp only[if_pos c5];rfl
     ·simp only[if_neg c5]
      by_cases c6:(offs q).any us.contains=true
      ·simp only[if_pos c6]
       rw[if_pos ((e2.1 c6).elim .inl fun e=>.inr ⟨e.1,.inl e.2⟩)];rfl
      ·simp only[if_neg c6]
       by_cases c7:q.bits=16∧q.fine=q.coarse
       ·simp only[if_pos c7];rw[if_pos (.inr ⟨c7.1,.inr c7.2⟩)];rfl
       ·simp only[if_neg c7]
        rw[if_neg (fun e=>e.elim (fun e=>c6 (e2.2 (.inl e))) fun e=>e.2.elim (fun x=>c6 (e2.2 (.inr ⟨e.1,x⟩))) fun x=>c7 ⟨e.1,x⟩)];rfl
theorem featsP_eq {foot c:Int}{l:List Ftr}:∀{r:List Ftr}{j:Nat}{ts us:List Int},l.drop j=r→SetOk (l.take j) ts us→(featsP foot c r ts us).1=featsR foot c l r j
 |[],_,_,_,_,_=>rfl
 |q::r,j,ts,us,hd,h=>by
  rw[featsP,featsR,featF_eq h]
  by_cases h1:featF foot q ts us=0
  ·by_cases h2:innC c q=0
   ·have:=featsP_eq (foot:=foot) (c:=c) (l:=l) (r:=r) (j:=j+1) (by rw[←List.drop_drop,hd];rfl) (by rw[take_snoc hd];exact h.snoc q)
    simp only[h1,h2,not_true_eq_false,if_false,if_true];exact this
   ·simp[h1,h2]
  ·simp[h1]
theorem profP_eq {p:Prof}{l:List (List Pt)}:profP p l=profR p l:=by
 unfold profP profR profF
 rw[featsP_eq (l:=p.feats) (r:=p.feats) (j:=0) rfl ⟨fun _=>rfl,fun _=>rfl⟩]
 by_cases h1:cursC l=0
 ·by_cases h2:nameS p.name=false
  ·simp[h1,h2]
  ·by_cases h3:p.foot<1∨512<p.foot
   ·have h3':p.foot<1∨512<p.foot∨p.watts<0∨1048576<p.watts:=by omega
    simp[h1,h2,h3,h3']
   ·by_cases h4:p.watts<0∨1048576<p.watts
    ·have h3':p.foot<1∨512<p.foot∨p.watts<0∨1048576<p.watts:=by omega
     simp[h1,h2,h3,h4,h3']
    ·have h3':¬(p.foot<1∨512<p.foot∨p.watts<0∨1048576<p.watts):=by omega
     by_cases h5:16<(p.feats.length:Int)<;>simp[h1,h2,h3,h4,h3',h5]
 ·simp[h1]
def rigE (c:List (List Pt))(ps:List Prof)(fx:List Fixt):V:=.agg [.sl (c.map Pt.vs),.sl (ps.map Prof.v),.sl (fx.map Fixt.v)]
def strE (l:List (List UInt8)):List (V×V):=l.map fun x=>(.str x,.bool true)
theorem find_strE {a:List UInt8}:∀{l:List (List UInt8)}{i:Nat},(l.contains a=true→∃j,findV (.str a) (strE l) i=some (some (j,.bool true)))∧(l.contains a=false→findV (.str a) (strE l) i=some none)
 |[],i=>⟨fun h=>by simp at h,fun _=>rfl⟩
 |x::r,i=>by
  obtain⟨i1,i2⟩:=find_strE (a:=a) (l:=r) (i:=i+1)
  simp only[strE,List.map_cons,findV,sameV]at i1 i2 ⊢
  by_cases h:a=x
  ·subst h;exact⟨fun _=>⟨i,by simp⟩,fun e=>by simp at e⟩
  ·have h':(a == x)=false:=by simp[h]
   simp only[h',List.contains_cons,Bool.false_or]
   exact⟨i1,i2⟩
@[push_cast]theorem look_strE {st:St}{a:List UInt8}{l:List (List UInt8)}:lookB st (.bool false) false (findV (.str a) (strE l) 0)=some (.bool (l.contains a),st):=by
 cases h:l.contains a with
 |true=>obtain⟨j,e⟩:=(find_strE (i:=0)).1 h;rw[e];rfl
 |false=>rw[(find_strE (i:=0)).2 h];rfl
theorem mset_strE {st:St}{i:Nat}{a:List UInt8}{l:List (List UInt8)}(h:l.contains a=false):msetB st i (strE l) (.str a) (.bool true) (findV (.str a) (strE l) 0)=some (.und,⟨st.nx,st.mem,st.arr,⟨updO st.x.obj i (.map (strE (l++[a]))),st.x.gl,st.x.ty⟩⟩):=by
 rw[(find_strE (i:=0)).2 h];simp[msetB,putM,strE]
@[push_cast]theorem strE_all {l:List (List UInt8)}:((strE l).all fun p=>p.1.bd n&&p.2.bd n)=true:=by simp[strE,V.bd]
def stS (g:List (Nat×Obj))(a:List (List UInt8)):St:=⟨2,[],[],⟨[(1,.map (strE a))],g,[]⟩⟩
@[push_cast]theorem stS_eq {a:List (List UInt8)}:stS g a=⟨2,[],[],⟨[(1,.map (strE a))],g,[]⟩⟩:=idq rfl
theorem L144_0 {l:List (List Pt)}{x:V}(hl:Cok l):∀r j,l.drop j=r→runL Tryz.prog HH [1,15,16,17] 1 B144_0 [(1,.ep x 0),(15,.sl (l.map Pt.vs)),(16,.int .i64 l.length),(17,.int .i64 j)] (stN g 1)=lpX 0 (stN g 1) [(1,.ep x 0)] 2 (cursL r):=by
 have hb:=hl.1
 refine drop_ind (fun j h=>?_) (fun q r j h hx hd ih=>?_)
 all_goals rw[runL_of B144_0.eq_1]
 ·have h1:¬(j:Int)<l.length:=by omega
  push_cast[h1,cursL]
 ·have h1:(j:Int)<l.length:=by omega
  have hw:=iw1 (j:=j) (by omega)
  have hq:q.length<140737488355328:=hl.2 q (mem_at hd)
  push_cast[h1,hw,hx,f206 hq]at ih ⊢
  simp only[ih,cursL,lps,Int.reduceEq,not_false_eq_true]
  all_goals first|with_reducible rfl|exact dn_eq (by omega) (by with_reducible rfl)|((repeat' split)<;>(try simp_all)<;>(try (with_reducible refine dn_eq ?_ ?_<;>first|trivial|omega|rfl))<;>(try omega))
theorem L144_1 {l:List Prof}{c:List (List Pt)}{fx:List Fixt}(hl:l.length<140737488355328)(hb:∀q∈l,q.ok)(hc:Cok c):∀r j,l.drop j=r→∀ns,(∀s,ns.contains s=(l.take j).any fun p=>p.name == s)→∃ns',
  runL Tryz.prog HH [1,6,33,34,35] 2 B144_1 [(1,.ep (rigE c l fx) 0),(6,.mp 1),(33,.sl (l.map Prof.v)),(34,.int .i64 l.length),(35,.int .i64 j)] (stS g ns)=lpX 2 (stS g ns') [(1,.ep (rigE c l fx) 0)] 2 (profsR l c r j):=by
 refine drop_ind (fun j h ns hn=>?_) (fun q r j h hx hd ih ns hn=>?_)
 all_goals rw[runL_of B144_1.eq_1]
 ·have h1:¬(j:Int)<l.length:=by omega
  refine⟨ns,?_⟩
  push_cast[h1,profsR,Prof.v,rigE]
 ·have h1:(j:Int)<l.length:=by omega
  have hw:=iw1 (j:=j) (by omega)
  have h145:=fun(st:St)=>f207 (st:=st) (hb q (mem_at hd)) hc
  rw[profP_eq]at h145
  rw[profsR,←hn]
  cases h2:ns.contains q.name with
  |true =>
   refine⟨ns,?_⟩
   clear ih
   push_cast[Prof.v]at h145
   push_cast[h1,hw,hx,rigE,Prof.v,h145,h2]
   all_goals first|with_reducible rfl|exact dn_eq (by omega) (by with_reducible rfl)|((repeat' split)<;>(try simp_all)<;>(try (with_reducible refine dn_eq ?_ ?_<;>first|trivial|omega|rfl))<;>(try omega))
  |false =>
   obtain⟨ns',ih⟩:=ih (ns++[q.name]) (fun s=>by rw[take_snoc hd,List.any_append,←hn,List.contains_eq_any_beq,List.any_append,←List.contains_eq_any_beq];simp[BEq.comm])
   have h3:=fun(st:St) (i:Nat)=>mset_strE (st:=st) (i:=i) h2
   by_cases h4:profR q c=0
   ·refine⟨ns',?_⟩
    push_cast[Prof.v]at h145
    push_cast[h1,hw,hx,rigE,Prof.v,h145,h2,h3,h4]at ih ⊢
    simp only[ih]
   ·refine⟨ns,?_⟩
    clear ih
    push_cast[Prof.v]at h145
    push_cast[h1,hw,hx,rigE,Prof.v,h145,h2,h4]
def Pok (l:List Prof):Prop:=l.length<140737488355328∧(∀q∈l,q.ok)∧∀q∈l,q.okR
def Xok (l:List Fixt):Prop:=l.length<140737488355328∧∀x∈l,x.cable.length<140737488355328
def uniC (c:List (List Pt))(ps:List Prof)(fx:List Fixt):Int:=if ¬cursC c=0 then cursC c else if ¬profsCR ps c=0 then profsCR ps c else fixCR fx ps
theorem rigE_bd {c:List (List Pt)}{ps:List Prof}{fx:List Fixt}:V.bd 0 (rigE c ps fx)=true:=by simp[rigE,V.bd,V.bdL,bdL_map']
theorem f144 {c:List (List Pt)}{ps:List Prof}{fx:List Fixt}(hc:Cok c)(hp:Pok ps)(hx:Xok fx){st:St}:run Tryz.prog HH 144 [rigE c ps fx] st=some (.ret (.int .i64 (uniC c ps fx)),st):=by
 have h0:=L144_0 (g:=st.x.gl) (x:=rigE c ps fx) hc _ 0 rfl
 obtain⟨ns,h1⟩:=L144_1 (g:=st.x.gl) (fx:=fx) hp.1 hp.2.1 hc _ 0 rfl [] (fun _=>rfl)
 have h146:=fun(st:St)=>f208 (st:=st) hx.1 hx.2 hp.1
 have e:strE []=[]:=rfl
 rw[run_shut F144 rfl rfl (by simp[V.bdL,rigE_bd])]
 push_cast[rigE,e]at h0 h1
 push_cast[rigE,h0,h1,h146,lpX]
 unfold uniC cursC profsCR
 by_cases a1:16<(c.length:Int)<;>by_cases a2:cursL c=0<;>by_cases a3:32<(ps.length:Int)<;>by_cases a4:profsR ps c ps 0=0<;>simp[a1,a2,a3,a4]
theorem f145 {x:Sho}{st:St}:run Tryz.prog HH 145 [x.v] st=some (.ret (rigE x.curves x.profs x.fixts),st):=by
 rw[run_shut F145 rfl rfl (by simp)]
 push_cast[Sho.v,rigE]
theorem f143 {x:Sho}(hc:Cok x.curves)(hp:Pok x.profs)(hx:Xok x.fixts){st:St}:run Tryz.prog HH 143 [x.v] st=some (.ret (.int .i64 (uniC x.curves x.profs x.fixts)),st):=by
 have h:=fun(st:St)=>f145 (x:=x) (st:=st)
 have h2:=fun(st:St)=>f144 (st:=st) hc hp hx
 push_cast[Sho.v,rigE]at h h2
 rw[run_shut F143 rfl rfl (by simp)]
 push_cast[Sho.v,h,h2]
 all_goals first|with_reducible rfl|exact dn_eq (by omega) (by with_reducible rfl)|((repeat' split)<;>(try simp_all)<;>(try (with_reducible refine dn_eq ?_ ?_<;>first|trivial|omega|rfl))<;>(try omega))
end Go.Proofs.YtdkokbhcjmapdaaGreatDoor

namespace Go.Proofs.YtdkokbhcjmapdaaGreatDoor
open Go.Sha
set_option maxRecDepth 100000
theorem prmC_ok {c:Int}{x:Prm}(h:prmC c x=0):c≤x.chan∧x.chan≤999∧0≤x.attr∧x.attr≤14:=by
 unfold prmC at h;split at h<;>omega
theorem cmp_bef {x y:Prm}{c d:Int}(hc:0≤c)(hd:0≤d)(hx:prmC c x=0)(hy:prmC d y=0):(0≤cmpP x y)=(befP x y=false):=by
 have a:=prmC_ok hx;have b:=prmC_ok hy
 have w1:IntKind.i64.wrap (x.chan-y.chan)=x.chan-y.chan:=iwrap (by omega) (by omega)
 have w2:IntKind.i64.wrap (x.attr-y.attr)=x.attr-y.attr:=iwrap (by omega) (by omega)
 unfold cmpP befP
 rw[w1,w2,eq_iff_iff]
 simp only[Bool.or_eq_false_iff,Bool.and_eq_false_iff,decide_eq_false_iff_not]
 split<;>omega
theorem mem_prev {α:Type}[Inhabited α]{l:List α}{j:Nat}(h0:0<j)(h:j≤l.length):l.getD (j-1) default∈l.take j:=by
 rw[List.getD_eq_getElem?_getD,List.getElem?_eq_getElem (by omega)]
 exact List.mem_iff_getElem?.2 ⟨j-1,by rw[List.getElem?_take,if_pos (by omega),List.getElem?_eq_getElem (by omega)];rfl⟩
theorem drop_le {α:Type}{l r:List α}{q:α}{j:Nat}(hd:l.drop j=q::r):j<l.length:=by
 have:=congrArg List.length hd;simp at this;omega
theorem all_snoc {α:Type}{l r:List α}{q:α}{j:Nat}{P:α→Prop}(hd:l.drop j=q::r)(h:∀z∈l.take j,P z)(hq:P q):∀z∈l.take (j+1),P z:=by
 rw[take_snoc hd];intro z hz
 rcases List.mem_append.1 hz with hz|hz
 ·exact h z hz
 ·rw[List.mem_singleton.1 hz];exact hq
theorem drop_succ {α:Type}{l r:List α}{q:α}{j:Nat}(hd:l.drop j=q::r):l.drop (j+1)=r:=by rw[←List.drop_drop,hd];rfl
theorem hueC_ok {q:Hue}(h:hueC q=0):lvl q.lev∧prmC 0 q.p=0:=by
 unfold hueC at h
 split at h
 ·rename_i a;exact⟨a,h⟩
 ·omega
theorem huesP_eq {l:List Hue}:∀{r:List Hue}{j:Nat},l.drop j=r→(∀z∈l.take j,hueC z=0)→huesP l r j=huesR l r j
 |[],_,_,_=>rfl
 |q::r,j,hd,h=>by
  rw[huesP,huesR]
  by_cases h1:hueC q=0
  ·obtain⟨a,b⟩:=hueC_ok h1
   have b':=prmC_ok b
   have n:¬(q.chan<0∨999<q.chan∨q.attr<0∨15≤q.attr∨¬lvl q.lev):=by
    simp only[Hue.p]at b';omega
   rw[if_pos h1,if_neg n,huesP_eq (drop_succ hd) (all_snoc hd h h1)]
   have e:(0<j∧0≤cmpP (l.getD (j-1) default).p q.p)=(0<j∧befP (l.getD (j-1) default).p q.p=false):=by
    rw[eq_iff_iff]
    refine and_congr_right fun h0=>?_
    rw[cmp_bef (Int.le_refl 0) (Int.le_refl 0) (hueC_ok (h _ (mem_prev h0 (Nat.le_of_lt (drop_le hd))))).2 b]
   simp only[e]
  ·rw[if_neg h1]
   have n:q.chan<0∨999<q.chan∨q.attr<0∨15≤q.attr∨¬lvl q.lev:=by
    by_cases a:lvl q.lev
    ·simp only[hueC,a,if_true,prmC,Hue.p]at h1
     split at h1<;>omega
    ·exact .inr (.inr (.inr (.inr a)))
   rw[if_pos n]
   unfold hueC prmC at h1 ⊢
   split
   ·rename_i a
    rw[if_pos a]at h1
    split
    ·rfl
    ·rename_i b;rw[if_neg b]at h1;exact absurd rfl h1
   ·rfl
theorem hueL_eq {l:List Hue}:hueLP l=hueLR l:=by unfold hueLP hueLR;rw[huesP_eq (l:=l) (r:=l) (j:=0) rfl (by simp)]
theorem palsP_eq {l:List Pal}:∀{r:List Pal}{j:Nat},palsP l r j=palsR l r j
 |[],_=>rfl
 |q::r,j=>by rw[palsP,palsR,hueL_eq,palsP_eq]
theorem palsC_eq {l:List Pal}:palsCP l=palsCR l:=by unfold palsCP palsCR;rw[palsP_eq]
theorem gansP_eq {h:Bool}{l:List Gan}:∀{r:List Gan}{j:Nat},l.drop j=r→(∀z∈l.take j,prmC 1 z.prm=0)→gansP h l r j=gansR h l r j
 |[],_,_,_=>rfl
 |q::r,j,hd,hz=>by
  rw[gansP,gansR]
  by_cases h1:prmC 1 q.prm=0
  ·rw[gansP_eq (drop_succ hd) (all_snoc (P:=fun z=>prmC 1 z.prm=0) hd hz h1)]
   have e:(0<j∧0≤cmpP (l.getD (j-1) default).prm q.prm)=(0<j∧befP (l.getD (j-1) default).prm q.prm=false):=by
    rw[eq_iff_iff]
    refine and_congr_right fun h0=>?_
    rw[cmp_bef (by omega) (by omega) (hz _ (mem_prev h0 (Nat.le_of_lt (drop_le hd)))) h1]
   have e2:(q.lev<0∨65535<q.lev)=¬lvl q.lev:=propext (by unfold lvl;omega)
   simp only[e,e2]
  ·rw[if_neg h1,if_neg h1]
theorem sb_eq {x:Sb}:sbP x=sbR x:=by unfold sbP sbR;rw[gansP_eq (l:=x.gains) (r:=x.gains) (j:=0) rfl (by simp)]
theorem subsP_eq {l:List Sb}:∀{r:List Sb}{j:Nat}{n:Int},l.drop j=r→n=(if j=0 then 0 else(l.getD (j-1) default).num)→subsP r n=subsR l r j
 |[],_,_,_,_=>rfl
 |q::r,j,n,hd,hn=>by
  rw[subsP,subsR,sb_eq,subsP_eq (n:=q.num) (drop_succ hd) (by
   rw[if_neg (by omega),Nat.add_sub_cancel,List.getD_eq_getElem?_getD]
   have:=congrArg (·[0]?) hd
   simp at this;rw[this];rfl)]
  by_cases h1:sbR q=0
  ·rw[if_pos h1,if_pos h1]
   have e:(q.num≤n)=(0<j∧q.num≤(l.getD (j-1) default).num):=by
    rw[hn]
    by_cases h0:j=0
    ·rw[if_pos h0]
     have:¬sbOk q:=by intro h;unfold sbR at h1;rw[if_pos h]at h1;omega
     simp only[eq_iff_iff];unfold sbOk at this;omega
    ·rw[if_neg h0];simp only[eq_iff_iff];omega
   simp only[e]
  ·rw[if_neg h1,if_neg h1]
theorem subsC_eq {l:List Sb}:subsCP l=subsCR l:=by unfold subsCP subsCR;rw[subsP_eq (l:=l) (r:=l) (j:=0) (n:=0) rfl rfl]
theorem movsP_eq {l:List Mov}:∀{r:List Mov}{j:Nat},l.drop j=r→(∀z∈l.take j,prmC 1 z.prm=0)→movsP l r j=movsR l r j
 |[],_,_,_=>rfl
 |q::r,j,hd,hz=>by
  rw[movsP,movsR]
  unfold movX
  by_cases h1:prmC 1 q.prm=0
  ·rw[movsP_eq (drop_succ hd) (all_snoc (P:=fun z=>prmC 1 z.prm=0) hd hz h1)]
   have e:(0<(j:Int)∧0≤cmpP (l.getD (j-1) default).prm q.prm)=(0<j∧befP (l.getD (j-1) default).prm q.prm=false):=by
    rw[eq_iff_iff,show(0<(j:Int))=(0<j) by simp]
    refine and_congr_right fun h0=>?_
    rw[cmp_bef (by omega) (by omega) (hz _ (mem_prev h0 (Nat.le_of_lt (drop_le hd)))) h1]
   simp only[h1,e]
   by_cases h2:valC q.val=0
   ·by_cases h3:q.part<1∨4<q.part
    ·simp[h2,h3]
    ·by_cases h4:0<j∧befP (l.getD (j-1) default).prm q.prm=false
     ·simp only[h2,if_neg h3,if_pos h4];rfl
     ·simp only[h2,if_neg h3,if_neg h4];rfl
   ·simp[h2]
  ·simp[h1]
theorem movC_eq {l:List Mov}:movCP l=movCR l:=by unfold movCP movCR;rw[movsP_eq (l:=l) (r:=l) (j:=0) rfl (by simp)]
theorem cue_eq {x:Cu}:cueP x=cueR x:=by
 unfold cueP cueR
 rw[movC_eq,mpL_eq]
 unfold parC timC
 by_cases a1:numC x.num=0<;>by_cases a2:labC x.label=0<;>by_cases a3:movCR x.moves=0<;>simp only[a1,a2,a3,not_true_eq_false,not_false_eq_true,if_true,if_false]
 by_cases a4:(x.parts.length:Int)=0
 ·simp only[if_pos a4];rfl
 ·by_cases a5:4<(x.parts.length:Int)
  ·simp only[if_neg a4,if_pos a5];rfl
  ·by_cases a6:timL x.parts=0
   ·by_cases a7:(x.moves.any fun q=>decide ((x.parts.length:Int)<q.part))=true
    ·simp only[a4,a5,a6,a7,if_true,if_false,not_true_eq_false];rfl
    ·simp only[a4,a5,a6,a7,if_true,if_false,not_true_eq_false];rfl
   ·simp only[if_neg a4,if_neg a5,if_neg a6,if_pos a6,not_false_eq_true,if_true]
end Go.Proofs.YtdkokbhcjmapdaaGreatDoor

namespace Go.Proofs.YtdkokbhcjmapdaaGreatDoor
open Go.Sha
set_option maxRecDepth 100000
variable {g:List (Nat×Obj)}{n:Nat}
theorem isD_val {b:UInt8}(h:isD b=true):IntKind.u8.wrap ((b.toNat:Int)-48)=((b.toNat-48:Nat):Int)∧b.toNat-48≤9:=by
 simp only[isD,Bool.and_eq_true,decide_eq_true_eq]at h
 refine⟨?_,by omega⟩
 unfold IntKind.wrap
 simp[IntKind.bits,IntKind.signed]
 omega
theorem step_nat {m k:Nat}(hm:m≤100000000000000)(hk:k≤9):IntKind.i64.wrap (IntKind.i64.wrap (10*(m:Int))+IntKind.i64.wrap (k:Int))=((10*m+k:Nat):Int):=by
 have w1:IntKind.i64.wrap (10*(m:Int))=10*(m:Int):=iwrap (by omega) (by omega)
 have w2:IntKind.i64.wrap (k:Int)=(k:Int):=iwrap (by omega) (by omega)
 rw[w1,w2]
 have w3:IntKind.i64.wrap (10*(m:Int)+k)=10*(m:Int)+k:=iwrap (by omega) (by omega)
 rw[w3];omega
theorem vwL_nat:∀{w:List UInt8}{m B:Nat},(∀b∈w,isD b=true)→w.length≤B→m<10 ^ (10-B)→B≤10→vwL w m=((w.foldl (fun n b=>10*n+(b.toNat-48)) m:Nat):Int)∧w.foldl (fun n b=>10*n+(b.toNat-48)) m<10 ^ (10-B+w.length)
 |[],m,B,_,_,h,_=>⟨rfl,by simpa using h⟩
 |b::r,m,B,hw,hl,h,hB=>by
  simp at hl
  obtain⟨e,hk⟩:=isD_val (hw b (List.mem_cons_self ..))
  have hp:10 ^ (10-B)≤10 ^ 10:=Nat.pow_le_pow_right (by omega) (by omega)
  have h2:10*m+(b.toNat-48)<10 ^ (10-(B-1)):=by
   rw[show 10-(B-1)=(10-B)+1 by omega,Nat.pow_succ];omega
  have ih:=vwL_nat (w:=r) (m:=10*m+(b.toNat-48)) (B:=B-1) (fun x hx=>hw x (List.mem_cons_of_mem _ hx)) (by omega) h2 (by omega)
  rw[vwL,e,step_nat (by omega) hk,List.foldl_cons]
  refine⟨ih.1,?_⟩
  have:=ih.2
  rwa [show 10-(B-1)+r.length=10-B+(b::r).length by simp;omega]at this
def pdB (r:List UInt8)(k:Nat):UInt8:=if k<r.length then r.getD k 0 else 48
theorem pad_3 {r:List UInt8}:(r++[48,48,48]).take 3=[pdB r 0,pdB r 1,pdB r 2]:=by
 match r with
 |[]=>rfl
 |[a]=>simp[pdB]
 |[a,b]=>simp[pdB]
 |a::b::c::r=>simp[pdB]
theorem nxV_nat {r:List UInt8}{k m:Nat}(hr:∀b∈r,isD b=true)(hm:m≤100000000000000):nxV r k m=((10*m+((pdB r k).toNat-48):Nat):Int):=by
 unfold nxV pdB
 by_cases h:k<r.length
 ·rw[if_pos (by omega),if_pos h]
  obtain⟨e,hk⟩:=isD_val (hr (r.getD k 0) (by rw[List.getD_eq_getElem?_getD,List.getElem?_eq_getElem h];exact List.getElem_mem h))
  rw[e,step_nat hm hk]
 ·rw[if_neg (by omega),if_neg h]
  have w1:IntKind.i64.wrap (10*(m:Int))=10*(m:Int):=iwrap (by omega) (by omega)
  rw[w1]
  have:(48:UInt8).toNat=48:=rfl
  omega
theorem pd_le {r:List UInt8}{k:Nat}(hr:∀b∈r,isD b=true):(pdB r k).toNat-48≤9:=by
 unfold pdB
 split
 ·rename_i h
  exact(isD_val (hr (r.getD k 0) (by rw[List.getD_eq_getElem?_getD,List.getElem?_eq_getElem h];exact List.getElem_mem h))).2
 ·decide
theorem numC_parts {s:List UInt8}(h:numC s=0):(∀b∈nW s,isD b=true)∧(∀b∈nR s,isD b=true)∧(nW s).length≤4∧(nR s).length≤3:=by
 unfold numC at h
 split at h
 ·cases h
 ·rename_i h1
  split at h
  ·cases h
  ·rename_i h2
   split at h
   ·cases h
   ·split at h
    ·cases h
    ·rename_i h3 h4
     refine⟨digB_all (by simpa using h1),?_,by omega,by omega⟩
     cases hc:s.contains 46 with
     |false=>rw[(n_none hc).2];simp
     |true=>rw[hc]at h2;simp at h2;exact digB_all h2.1
theorem val_eq {s:List UInt8}(h:numC s=0):valN s=refV s:=by
 obtain⟨a1,a2,a3,a4⟩:=numC_parts h
 obtain⟨e1,e2⟩:=vwL_nat (w:=nW s) (m:=0) (B:=10) a1 (by omega) (by simp) (Nat.le_refl _)
 have hp:10 ^ (10-10+(nW s).length)≤10 ^ 4:=Nat.pow_le_pow_right (by omega) (by omega)
 generalize hN:(nW s).foldl (fun n b=>10*n+(b.toNat-48)) 0=N at e1 e2
 have p0:=pd_le (k:=0) a2;have p1:=pd_le (k:=1) a2;have p2:=pd_le (k:=2) a2
 unfold valN refV
 rw[if_pos h,show(0:Int)=((0:Nat):Int) from rfl,e1,nxV_nat a2 (by omega),nxV_nat a2 (by omega),nxV_nat a2 (by omega),natOf,numS,pad_3,List.foldl_append,hN]
 rfl
theorem cueP_num {x:Cu}(h:cueR x=0):numC x.num=0:=by
 unfold cueR at h
 split at h
 ·rename_i a;exact absurd h a
 ·rename_i a;exact Classical.not_not.1 a
theorem cuesP_eq {l:List Cu}:∀{r:List Cu}{j:Nat},l.drop j=r→(∀z∈l.take j,cueR z=0)→cuesP l r j=cuesR l r j
 |[],_,_,_=>rfl
 |q::r,j,hd,hz=>by
  rw[cuesP,cuesR,cue_eq]
  by_cases h1:cueR q=0
  ·rw[cuesP_eq (drop_succ hd) (all_snoc (P:=fun z=>cueR z=0) hd hz h1)]
   have e:(0<j∧0≤cmpN (l.getD (j-1) default).num q.num)=(0<j∧0≤ordR (l.getD (j-1) default).num q.num):=by
    rw[eq_iff_iff]
    refine and_congr_right fun h0=>?_
    have a:=cueP_num (hz _ (mem_prev h0 (Nat.le_of_lt (drop_le hd))))
    have b:=cueP_num h1
    unfold cmpN ordR
    rw[if_neg (by rw[a,b];simp),val_eq a,val_eq b]
   simp only[e]
  ·rw[if_pos h1,if_pos h1]
theorem lst_eq {x:Lst}:lstP x=lstR x:=by unfold lstP lstR;rw[cuesP_eq (l:=x.cues) (r:=x.cues) (j:=0) rfl (by simp)]
def grpsC (l:List Grp):Int:=if 32<(l.length:Int) then 5 else grpsL l l 0
theorem f147 {l:List Grp}(hl:l.length<140737488355328)(hb:∀x∈l,x.chans.length<140737488355328){st:St}:run Tryz.prog HH 147 [.sl (l.map Grp.v)] st=some (.ret (.int .i64 (grpsC l)),st):=by
 rw[run_shut F147 rfl rfl (by simp)]
 have hL0:=fun n=>L147 (g:=st.x.gl) (n:=n) hl hb _ 0 rfl
 push_cast[grpsC]at hL0
 push_cast[grpsC,hL0,lpE,lpX,lpI,lpB]
 all_goals first|with_reducible rfl|exact dn_eq (by omega) (by with_reducible rfl)|((repeat' split)<;>(try simp_all)<;>(try (with_reducible refine dn_eq ?_ ?_<;>first|trivial|omega|rfl))<;>(try omega))
theorem L85 {l:List Grp}(hl:l.length<140737488355328)(hb:∀x∈l,x.chans.length<140737488355328):∀r j,l.drop j=r→runL Tryz.prog HH [0,3] n B85_0 [(0,.sl (l.map Grp.v)),(3,.int .i64 j)] (stN g n)=lpE (stN g n) [] 2 (grpsL l r j):=by
 refine drop_ind (fun j h=>?_) (fun q r j h hx hd ih=>?_)
 all_goals rw[runL_of B85_0.eq_1]
 ·have h1:¬(j:Int)<l.length:=by omega
  push_cast[h1,grpsL,Grp.v]
 ·have h1:(j:Int)<l.length:=by omega
  have hw:=iw1 (j:=j) (by omega)
  have hq:q.chans.length<140737488355328:=hb q (mem_at hd)
  push_cast[h1,hw,hx,Grp.v,f161 hq,iwrap_pred (j:=j) (by omega)]at ih ⊢
  simp only[ih,grpsL,lps,Int.reduceEq,not_false_eq_true]
  all_goals first|with_reducible rfl|exact dn_eq (by omega) (by with_reducible rfl)|((repeat' split)<;>(try simp_all)<;>(try (with_reducible refine dn_eq ?_ ?_<;>first|trivial|omega|rfl))<;>(try omega))
theorem f85 {l:List Grp}(hl:l.length<140737488355328)(hb:∀x∈l,x.chans.length<140737488355328){st:St}:run Tryz.prog HH 85 [.sl (l.map Grp.v)] st=some (.ret (.int .i64 (grpsC l)),st):=by
 rw[run_shut F85 rfl rfl (by simp)]
 have hL0:=fun n=>L85 (g:=st.x.gl) (n:=n) hl hb _ 0 rfl
 push_cast[grpsC]at hL0
 push_cast[grpsC,hL0,lpE,lpX,lpI,lpB]
 all_goals first|with_reducible rfl|exact dn_eq (by omega) (by with_reducible rfl)|((repeat' split)<;>(try simp_all)<;>(try (with_reducible refine dn_eq ?_ ?_<;>first|trivial|omega|rfl))<;>(try omega))
def lstsL (l:List Lst):List Lst→Nat→Int
 |[],_=>0
 |q::r,j=>if ¬lstR q=0 then lstR q else if 0<j∧q.num≤(l.getD (j-1) default).num then 9 else lstsL l r (j+1)
def Lok (l:List Lst):Prop:=l.length<140737488355328∧∀q∈l,q.ok
theorem f98' {x:Lst}(h:x.ok){st:St}:run Tryz.prog HH 98 [x.v] st=some (.ret (.int .i64 (lstR x)),st):=by rw[f98 h,lst_eq]
theorem L150 {x:Sho}(hl:Lok x.lsts):∀r j,x.lsts.drop j=r→runL Tryz.prog HH [1,11,12,13] n B150_0 [(1,.ep x.v 0),(11,.sl (x.lsts.map Lst.v)),(12,.int .i64 x.lsts.length),(13,.int .i64 j)] (stN g n)=lpE (stN g n) [] 2 (lstsL x.lsts r j):=by
 have hb:=hl.1
 refine drop_ind (fun j h=>?_) (fun q r j h hx hd ih=>?_)
 all_goals rw[runL_of B150_0.eq_1]
 ·have h1:¬(j:Int)<x.lsts.length:=by omega
  push_cast[h1,lstsL,Sho.v,Lst.v]
 ·have h1:(j:Int)<x.lsts.length:=by omega
  have hw:=iw1 (j:=j) (by omega)
  have hq:q.ok:=hl.2 q (mem_at hd)
  push_cast[h1,hw,hx,Sho.v,Lst.v,f98' hq,iwrap_pred (j:=j) (by omega)]at ih ⊢
  simp only[ih,lstsL,lps,Int.reduceEq,not_false_eq_true]
  all_goals first|with_reducible rfl|exact dn_eq (by omega) (by with_reducible rfl)|((repeat' split)<;>(try simp_all)<;>(try (with_reducible refine dn_eq ?_ ?_<;>first|trivial|omega|rfl))<;>(try omega))
def lstsC (l:List Lst):Int:=if 8<(l.length:Int) then 5 else lstsL l l 0
theorem f150 {x:Sho}(hl:Lok x.lsts){st:St}:run Tryz.prog HH 150 [x.v] st=some (.ret (.int .i64 (lstsC x.lsts)),st):=by
 rw[run_shut F150 rfl rfl (by simp)]
 have hL0:=fun n=>L150 (g:=st.x.gl) (n:=n) hl _ 0 rfl
 push_cast[Sho.v,lstsC]at hL0
 push_cast[Sho.v,lstsC,hL0,lpE,lpX,lpI,lpB]
 all_goals first|with_reducible rfl|exact dn_eq (by omega) (by with_reducible rfl)|((repeat' split)<;>(try simp_all)<;>(try (with_reducible refine dn_eq ?_ ?_<;>first|trivial|omega|rfl))<;>(try omega))
theorem L87 {l:List Lst}(hl:Lok l):∀r j,l.drop j=r→runL Tryz.prog HH [0,3] n B87_0 [(0,.sl (l.map Lst.v)),(3,.int .i64 j)] (stN g n)=lpE (stN g n) [] 2 (lstsL l r j):=by
 have hb:=hl.1
 refine drop_ind (fun j h=>?_) (fun q r j h hx hd ih=>?_)
 all_goals rw[runL_of B87_0.eq_1]
 ·have h1:¬(j:Int)<l.length:=by omega
  push_cast[h1,lstsL,Lst.v]
 ·have h1:(j:Int)<l.length:=by omega
  have hw:=iw1 (j:=j) (by omega)
  have hq:q.ok:=hl.2 q (mem_at hd)
  push_cast[h1,hw,hx,Lst.v,f58 hq,iwrap_pred (j:=j) (by omega)]at ih ⊢
  simp only[ih,lstsL,lps,Int.reduceEq,not_false_eq_true]
  all_goals first|with_reducible rfl|exact dn_eq (by omega) (by with_reducible rfl)|((repeat' split)<;>(try simp_all)<;>(try (with_reducible refine dn_eq ?_ ?_<;>first|trivial|omega|rfl))<;>(try omega))
theorem f87 {l:List Lst}(hl:Lok l){st:St}:run Tryz.prog HH 87 [.sl (l.map Lst.v)] st=some (.ret (.int .i64 (lstsC l)),st):=by
 rw[run_shut F87 rfl rfl (by simp)]
 have hL0:=fun n=>L87 (g:=st.x.gl) (n:=n) hl _ 0 rfl
 push_cast[lstsC]at hL0
 push_cast[lstsC,hL0,lpE,lpX,lpI,lpB]
 all_goals first|with_reducible rfl|exact dn_eq (by omega) (by with_reducible rfl)|((repeat' split)<;>(try simp_all)<;>(try (with_reducible refine dn_eq ?_ ?_<;>first|trivial|omega|rfl))<;>(try omega))
end Go.Proofs.YtdkokbhcjmapdaaGreatDoor

namespace Go.Proofs.YtdkokbhcjmapdaaGreatDoor
open Go.Sha
set_option maxRecDepth 100000
variable {g:List (Nat×Obj)}{n:Nat}
def stP (g:List (Nat×Obj))(xs:List V):St:=⟨2,[],[(1,⟨5,1,xs,true,true⟩)],⟨[],g,[]⟩⟩
@[push_cast]theorem stP_eq {xs:List V}:stP g xs=⟨2,[],[(1,⟨5,1,xs,true,true⟩)],⟨[],g,[]⟩⟩:=idq rfl
theorem L142 {s:List UInt8}(hl:s.length<140737488355328):∀r j,s.drop j=r→runL Tryz.prog HH [11,12,13] 2 B142_0 [(11,.osl 1 s.length),(12,.int .i64 s.length),(13,.int .i64 j)] (stP g (s.map bV))=lpE (stP g (s.map bV)) [] 2 (labL r):=by
 refine drop_ind (fun j h=>?_) (fun q r j h hx hd ih=>?_)
 all_goals rw[runL_of B142_0.eq_1]
 ·have h1:¬(j:Int)<s.length:=by omega
  push_cast[h1,labL]
 ·have h1:(j:Int)<s.length:=by omega
  have hw:=iw1 (j:=j) (by omega)
  have hk:∀d,(s.map bV).getD j d=bV q:=getD_drop hd
  push_cast[h1,hw,hx,bV,hk]at ih ⊢
  simp only[ih,labL,lps,Int.reduceEq,not_false_eq_true]
  all_goals first|with_reducible rfl|exact dn_eq (by omega) (by with_reducible rfl)|((repeat' split)<;>(try simp_all)<;>(try (with_reducible refine dn_eq ?_ ?_<;>first|trivial|omega|rfl))<;>(try omega))
theorem f142 {x:Sho}(hl:x.title.length<140737488355328){st:St}:run Tryz.prog HH 142 [x.v] st=some (.ret (.int .i64 (labC x.title)),st):=by
 rw[run_shut F142 rfl rfl (by simp)]
 have hL0:=L142 (g:=st.x.gl) hl _ 0 rfl
 push_cast at hL0
 push_cast[Sho.v,hL0,lpE,labC]
 exact dn_eq (by simp[maxLen];omega) rfl
theorem L157 {s:List UInt8}(hl:s.length<140737488355328):∀r j,s.drop j=r→runL Tryz.prog HH [0,3] n B157_0 [(0,.str s),(3,.int .i64 j)] (stN g n)=lpE (stN g n) [] 2 (labL r):=by
 refine drop_ind (fun j h=>?_) (fun q r j h hx hd ih=>?_)
 all_goals rw[runL_of B157_0.eq_1]
 ·have h1:¬(j:Int)<s.length:=by omega
  push_cast[h1,labL]
 ·have h1:(j:Int)<s.length:=by omega
  have hw:=iw1 (j:=j) (by omega)
  push_cast[h1,hw,hx]at ih ⊢
  simp only[ih,labL,lps,Int.reduceEq,not_false_eq_true]
  all_goals first|with_reducible rfl|exact dn_eq (by omega) (by with_reducible rfl)|((repeat' split)<;>(try simp_all)<;>(try (with_reducible refine dn_eq ?_ ?_<;>first|trivial|omega|rfl))<;>(try omega))
theorem f157 {s:List UInt8}(hl:s.length<140737488355328){st:St}:run Tryz.prog HH 157 [.str s] st=some (.ret (.int .i64 (labC s)),st):=by
 rw[run_shut F157 rfl rfl (by simp)]
 have hL0:=fun n=>L157 (g:=st.x.gl) (n:=n) hl _ 0 rfl
 push_cast[labC]at hL0
 push_cast[labC,hL0,lpE,lpX,lpI,lpB]
 all_goals first|with_reducible rfl|exact dn_eq (by omega) (by with_reducible rfl)|((repeat' split)<;>(try simp_all)<;>(try (with_reducible refine dn_eq ?_ ?_<;>first|trivial|omega|rfl))<;>(try omega))
structure Sho.ok (x:Sho):Prop where
 t:x.title.length<140737488355328
 c:Cok x.curves
 p:Pok x.profs
 f:Xok x.fixts
 g:x.grps.length<140737488355328∧∀q∈x.grps,q.chans.length<140737488355328
 l:x.pals.length<140737488355328∧∀q∈x.pals,q.hues.length<140737488355328
 k:Lok x.lsts
 s:x.subs.length<140737488355328∧∀q∈x.subs,q.gains.length<140737488355328
 e:x.effs.length<140737488355328∧∀q∈x.effs,q.wave.length<140737488355328
theorem f146 {x:Sho}(h:x.ok){st:St}:run Tryz.prog HH 146 [x.v] st=some (.ret (.int .i64 (grpsC x.grps)),st):=by
 rw[run_shut F146 rfl rfl (by simp)]
 push_cast[Sho.v,f147 h.g.1 h.g.2]
 all_goals first|with_reducible rfl|exact dn_eq (by omega) (by with_reducible rfl)|((repeat' split)<;>(try simp_all)<;>(try (with_reducible refine dn_eq ?_ ?_<;>first|trivial|omega|rfl))<;>(try omega))
theorem f148 {x:Sho}(h:x.ok){st:St}:run Tryz.prog HH 148 [x.v] st=some (.ret (.int .i64 (palsCR x.pals)),st):=by
 rw[run_shut F148 rfl rfl (by simp)]
 push_cast[Sho.v,f149 h.l.1 h.l.2,palsC_eq]
 all_goals first|with_reducible rfl|exact dn_eq (by omega) (by with_reducible rfl)|((repeat' split)<;>(try simp_all)<;>(try (with_reducible refine dn_eq ?_ ?_<;>first|trivial|omega|rfl))<;>(try omega))
theorem f151 {x:Sho}(h:x.ok){st:St}:run Tryz.prog HH 151 [x.v] st=some (.ret (.int .i64 (subsCR x.subs)),st):=by
 rw[run_shut F151 rfl rfl (by simp)]
 push_cast[Sho.v,f152 h.s.1 h.s.2,subsC_eq]
 all_goals first|with_reducible rfl|exact dn_eq (by omega) (by with_reducible rfl)|((repeat' split)<;>(try simp_all)<;>(try (with_reducible refine dn_eq ?_ ?_<;>first|trivial|omega|rfl))<;>(try omega))
theorem f153 {x:Sho}(h:x.ok){st:St}:run Tryz.prog HH 153 [x.v] st=some (.ret (.int .i64 (effsC x.effs)),st):=by
 rw[run_shut F153 rfl rfl (by simp)]
 push_cast[Sho.v,f154 h.e.1 h.e.2]
 all_goals first|with_reducible rfl|exact dn_eq (by omega) (by with_reducible rfl)|((repeat' split)<;>(try simp_all)<;>(try (with_reducible refine dn_eq ?_ ?_<;>first|trivial|omega|rfl))<;>(try omega))
def shoC (x:Sho):Int:=if ¬labC x.title=0 then labC x.title else if ¬uniC x.curves x.profs x.fixts=0 then uniC x.curves x.profs x.fixts else if ¬grpsC x.grps=0 then grpsC x.grps else if ¬palsCR x.pals=0 then palsCR x.pals
 else if ¬lstsC x.lsts=0 then lstsC x.lsts else if ¬subsCR x.subs=0 then subsCR x.subs else effsC x.effs
theorem f37 {x:Sho}(h:x.ok){st:St}:run Tryz.prog HH 37 [x.v] st=some (.ret (.int .i64 (shoC x)),st):=by
 have h1:=fun(st:St)=>f142 (st:=st) h.t
 have h2:=fun(st:St)=>f143 (st:=st) h.c h.p h.f
 have h3:=fun(st:St)=>f146 (st:=st) h
 have h4:=fun(st:St)=>f148 (st:=st) h
 have h5:=fun(st:St)=>f150 (st:=st) h.k
 have h6:=fun(st:St)=>f151 (st:=st) h
 have h7:=fun(st:St)=>f153 (st:=st) h
 push_cast[Sho.v]at h1 h2 h3 h4 h5 h6 h7
 rw[run_shut F37 rfl rfl (by simp)]
 push_cast[Sho.v,h1,h2,h3,h4,h5,h6,h7,(fun(st:St)=>run_shut (P:=Tryz.prog) (H:=HH) (args:=[]) (st:=st) F78 rfl rfl rfl),runL_of B37_0.eq_1,shoC,ite0']
theorem f84 {x:Sho}(h:x.ok){st:St}:run Tryz.prog HH 84 [x.v] st=some (.ret (.int .i64 (if ¬labC x.title=0 then labC x.title else uniC x.curves x.profs x.fixts)),st):=by
 have hr:∀q∈x.profs,q.okR:=h.p.2.2
 rw[run_shut F84 rfl rfl (by simp)]
 push_cast[Sho.v,f157 h.t,f158 h.c.1 h.c.2,f159 h.p.1 hr h.c,f160 h.f.1 h.f.2 h.p.1,uniC]
 all_goals first|with_reducible rfl|exact dn_eq (by omega) (by with_reducible rfl)|((repeat' split)<;>(try simp_all)<;>(try (with_reducible refine dn_eq ?_ ?_<;>first|trivial|omega|rfl))<;>(try omega))
theorem f41 {x:Sho}(h:x.ok){st:St}:run Tryz.prog HH 41 [x.v] st=some (.ret (.int .i64 (shoC x)),st):=by
 have h1:=fun(st:St)=>f84 (st:=st) h
 push_cast[Sho.v]at h1
 rw[run_shut F41 rfl rfl (by simp)]
 push_cast[Sho.v,h1,f85 h.g.1 h.g.2,f86 h.l.1 h.l.2,f87 h.k,f88 h.s.1 h.s.2,f89 h.e.1 h.e.2]
 unfold shoC
 by_cases a1:labC x.title=0<;>by_cases a2:uniC x.curves x.profs x.fixts=0<;>simp[a1,a2]
end Go.Proofs.YtdkokbhcjmapdaaGreatDoor

namespace Go.Proofs.YtdkokbhcjmapdaaGreatDoor
open Go.Sha
set_option maxRecDepth 10000
def B5_0:Cd:=(.join [1,3] (.g [.m 53 3,.a 54 2 1,.l 55 54,.u 56 55,.b 57 .lss 53 56] (.i 57 .skip (.exit [1] 0))) (.join [1,3] (.block 1 (.g [.a 60 2 1,.l 61 60,.m 62 3,.r 63 4 61 62,.d 64 4 63,.f 65 24 64,.z 66 65] (.i 66 (.g [.k 2 false] (.ret [2])) .skip))) (.reg [.m 58 3,.v 59 .add 58 1,.m 3 59])))
def B5_1:Cd:=(.join [1,4] (.join [1,4,75] (.reg [.m 67 4,.a 68 6 1,.l 69 68,.u 70 69,.b 71 .lss 67 70,.m 72 71,.my 73 4 72,.vy 74 .lss 73 10 72,.e 75 72 74]) (.i 75 .skip (.exit [1] 2))) (.join [1,4] (.block 3 (.g [.a 78 6 1,.l 79 78,.m 80 4,.r 81 3 79 80,.d 82 3 81,.f 83 25 82,.z 84 83] (.i 84 (.g [.k 2 false] (.ret [2])) .skip))) (.reg [.m 76 4,.v 77 .add 76 1,.m 4 77])))
theorem F5:compF Tryz.prog 5=some ⟨101,[.tmp 2],(.g [.q 1 31 0,.k 2 false] (.z [1] (.join [1] (.join [1,52] (.reg [.a 5 0 1,.l 6 5,.s 7 (.lens (.t 6)),.v 8 .gtr 7 100,.m 9 8,.ax 10 1 1 9,.lx 11 10 9,.x 12 (.f 18 [.t 11]) 9,.x 13 (.un .not (.t 12)) 9,.o 14 9 13,.m 15 14,.ax 16 2 1 15,.lx 17 16 15,.x 18 (.len (.t 17)) 15,.vx 19 .gtr 18 40 15,.o 20 15 19,.m 21 20,.ax 22 3 1 21,.lx 23 22 21,.ax 24 2 1 21,.lx 25 24 21,.x 26 (.f 19 [.t 23,.t 25]) 21,.x 27 (.un .not (.t 26)) 21,.o 28 21 27,.m 29 28,.ax 30 4 1 29,.lx 31 30 29,.x 32 (.f 20 [.t 31]) 29,.x 33 (.un .not (.t 32)) 29,.o 34 29 33,.m 35 34,.ax 36 5 1 35,.lx 37 36 35,.x 38 (.f 21 [.t 37]) 35,.x 39 (.un .not (.t 38)) 35,.o 40 35 39,.m 41 40,.ax 42 7 1 41,.lx 43 42 41,.x 44 (.f 22 [.t 43]) 41,.x 45 (.un .not (.t 44)) 41,.o 46 41 45,.m 47 46,.ax 48 8 1 47,.lx 49 48 47,.x 50 (.f 23 [.t 49,(.c .nils)]) 47,.x 51 (.un .not (.t 50)) 47,.o 52 47 51]) (.i 52 (.g [.k 2 false] (.ret [2])) .skip)) (.join [1] (.g [.c 3 0] (.block 0 (.loop [1,3] [] B5_0))) (.join [1] (.g [.c 4 0] (.block 2 (.loop [1,4] [] B5_1))) (.join [2] (.reg [.a 85 6 1,.l 86 85,.u 87 86,.v 88 .leq 87 3,.m 89 88,.ax 90 6 1 89,.lx 91 90 89,.x 92 (.len (.t 91)) 89,.vx 93 .gtr 92 8 89,.mx 94 93 89,.ay 95 6 1 94,.ly 96 95 94,.y 97 (.len (.t 96)) 94,.vy 98 .leq 97 20 94,.x 99 (.pick (.t 94) (.t 98) (.c (.bool false))) 89,.o 100 89 99,.m 2 100]) (.ret [2])))))))⟩:=by kernel_rfl
def B19_0:Cd:=(.join [1,5] (.join [1,5,31] (.reg [.m 24 5,.m 25 1,.u 26 25,.b 27 .lss 24 26,.m 28 27,.my 29 5 28,.vy 30 .lss 29 6 28,.e 31 28 30]) (.i 31 .skip (.exit [] 0))) (.join [1,5] (.block 1 (.g [.m 34 1,.m 35 5,.r 36 4 34 35,.a 37 3 36,.l 38 37,.u 39 38,.v 40 .gtr 39 16] (.i 40 (.g [.k 4 false] (.ret [4])) .skip))) (.reg [.m 32 5,.v 33 .add 32 1,.m 5 33])))
theorem F19:compF Tryz.prog 19=some ⟨41,[.tmp 4],(.g [.k 4 false] (.join [1] (.join [1,23] (.reg [.m 6 0,.u 7 6,.v 8 .gtr 7 12,.m 9 8,.my 10 0 9,.y 11 (.len (.t 10)) 9,.vy 12 .leq 11 64 9,.e 13 9 12,.m 14 13,.mx 15 1 14,.x 16 (.len (.t 15)) 14,.vx 17 .gtr 16 6 14,.mx 18 17 14,.my 19 1 18,.y 20 (.len (.t 19)) 18,.vy 21 .leq 20 32 18,.x 22 (.pick (.t 18) (.t 21) (.c (.bool false))) 14,.o 23 14 22]) (.i 23 (.g [.k 4 false] (.ret [4])) .skip)) (.join [] (.g [.c 5 0] (.block 0 (.loop [1,5] [] B19_0))) (.g [.k 4 true] (.ret [4])))))⟩:=by kernel_rfl
def B20_0:Cd:=(.join [0,3] (.join [0,3,11] (.reg [.m 4 3,.m 5 0,.u 6 5,.b 7 .lss 4 6,.m 8 7,.my 9 3 8,.vy 10 .lss 9 60 8,.e 11 8 10]) (.i 11 .skip (.exit [0] 0))) (.join [0,3] (.block 1 (.join [0,3,29] (.reg [.m 14 0,.m 15 3,.r 16 2 14 15,.a 17 1 16,.l 18 17,.u 19 18,.v 20 .gtr 19 40,.m 21 20,.my 22 0 21,.my 23 3 21,.ry 24 2 22 23 21,.ay 25 1 24 21,.ly 26 25 21,.y 27 (.len (.t 26)) 21,.vy 28 .leq 27 256 21,.e 29 21 28]) (.i 29 (.g [.k 2 false] (.ret [2])) .skip))) (.reg [.m 12 3,.v 13 .add 12 1,.m 3 13])))
theorem F20:compF Tryz.prog 20=some ⟨33,[.tmp 2],(.g [.k 2 false] (.join [0] (.g [.c 3 0] (.block 0 (.loop [0,3] [] B20_0))) (.g [.m 30 0,.u 31 30,.v 32 .leq 31 60,.m 2 32] (.ret [2]))))⟩:=by kernel_rfl
def B21_0:Cd:=(.join [0,3] (.g [.m 7 3,.m 8 0,.u 9 8,.b 10 .lss 7 9] (.i 10 .skip (.exit [] 0))) (.join [0,3] (.block 1 (.g [.m 13 0,.m 14 3,.r 15 2 13 14,.a 16 1 15,.l 17 16,.u 18 17,.v 19 .gtr 18 512] (.i 19 (.g [.k 2 false] (.ret [2])) .skip))) (.reg [.m 11 3,.v 12 .add 11 1,.m 3 12])))
theorem F21:compF Tryz.prog 21=some ⟨20,[.tmp 2],(.g [.k 2 false] (.join [0] (.g [.m 4 0,.u 5 4,.v 6 .gtr 5 64] (.i 6 (.g [.k 2 false] (.ret [2])) .skip)) (.join [] (.g [.c 3 0] (.block 0 (.loop [0,3] [] B21_0))) (.g [.k 2 true] (.ret [2])))))⟩:=by kernel_rfl
def B22_0:Cd:=(.join [0,3] (.join [0,3,11] (.reg [.m 4 3,.m 5 0,.u 6 5,.b 7 .lss 4 6,.m 8 7,.my 9 3 8,.vy 10 .lss 9 40 8,.e 11 8 10]) (.i 11 .skip (.exit [0] 0))) (.join [0,3] (.block 1 (.join [0,3,29] (.reg [.m 14 0,.m 15 3,.r 16 4 14 15,.a 17 3 16,.l 18 17,.u 19 18,.v 20 .gtr 19 30,.m 21 20,.my 22 0 21,.my 23 3 21,.ry 24 4 22 23 21,.ay 25 3 24 21,.ly 26 25 21,.y 27 (.len (.t 26)) 21,.vy 28 .leq 27 128 21,.e 29 21 28]) (.i 29 (.g [.k 2 false] (.ret [2])) .skip))) (.reg [.m 12 3,.v 13 .add 12 1,.m 3 13])))
theorem F22:compF Tryz.prog 22=some ⟨33,[.tmp 2],(.g [.k 2 false] (.join [0] (.g [.c 3 0] (.block 0 (.loop [0,3] [] B22_0))) (.g [.m 30 0,.u 31 30,.v 32 .leq 31 40,.m 2 32] (.ret [2]))))⟩:=by kernel_rfl
def B23_0:Cd:=(.join [1,5] (.join [1,5,31] (.reg [.m 24 5,.m 25 1,.u 26 25,.b 27 .lss 24 26,.m 28 27,.my 29 5 28,.vy 30 .lss 29 4 28,.e 31 28 30]) (.i 31 .skip (.exit [] 0))) (.join [1,5] (.block 1 (.join [1,5,49] (.reg [.m 34 1,.m 35 5,.r 36 6 34 35,.a 37 1 36,.l 38 37,.u 39 38,.v 40 .gtr 39 8,.m 41 40,.my 42 1 41,.my 43 5 41,.ry 44 6 42 43 41,.ay 45 1 44 41,.ly 46 45 41,.y 47 (.len (.t 46)) 41,.vy 48 .leq 47 256 41,.e 49 41 48]) (.i 49 (.g [.k 4 false] (.ret [4])) .skip))) (.reg [.m 32 5,.v 33 .add 32 1,.m 5 33])))
theorem F23:compF Tryz.prog 23=some ⟨50,[.tmp 4],(.g [.k 4 false] (.join [1] (.join [1,23] (.reg [.m 6 0,.u 7 6,.v 8 .gtr 7 4,.m 9 8,.my 10 0 9,.y 11 (.len (.t 10)) 9,.vy 12 .leq 11 16 9,.e 13 9 12,.m 14 13,.mx 15 1 14,.x 16 (.len (.t 15)) 14,.vx 17 .gtr 16 4 14,.mx 18 17 14,.my 19 1 18,.y 20 (.len (.t 19)) 18,.vy 21 .leq 20 16 18,.x 22 (.pick (.t 18) (.t 21) (.c (.bool false))) 14,.o 23 14 22]) (.i 23 (.g [.k 4 false] (.ret [4])) .skip)) (.join [] (.g [.c 5 0] (.block 0 (.loop [1,5] [] B23_0))) (.g [.k 4 true] (.ret [4])))))⟩:=by kernel_rfl
def B24_0:Cd:=(.join [1,3] (.join [1,3,12] (.reg [.m 4 3,.a 5 3 1,.l 6 5,.u 7 6,.b 8 .lss 4 7,.m 9 8,.my 10 3 9,.vy 11 .lss 10 40 9,.e 12 9 11]) (.i 12 .skip (.exit [1] 0))) (.join [1,3] (.block 1 (.g [.a 15 3 1,.l 16 15,.m 17 3,.r 18 10 16 17,.a 19 9 18,.l 20 19,.u 21 20,.v 22 .gtr 21 40] (.i 22 (.g [.k 2 false] (.ret [2])) .skip))) (.reg [.m 13 3,.v 14 .add 13 1,.m 3 14])))
theorem F24:compF Tryz.prog 24=some ⟨33,[.tmp 2],(.g [.q 1 53 0,.k 2 false] (.z [1] (.join [1] (.g [.c 3 0] (.block 0 (.loop [1,3] [] B24_0))) (.join [2] (.reg [.a 23 3 1,.l 24 23,.u 25 24,.v 26 .leq 25 40,.m 27 26,.ay 28 0 1 27,.ly 29 28 27,.y 30 (.lens (.t 29)) 27,.vy 31 .leq 30 100 27,.e 32 27 31,.m 2 32]) (.ret [2])))))⟩:=by kernel_rfl
def B25_0:Cd:=(.join [1,3,4] (.g [.m 15 4,.a 16 2 1,.l 17 16,.u 18 17,.b 19 .lss 15 18] (.i 19 .skip (.exit [] 0))) (.join [1,3,4] (.block 1 (.g [.m 22 3,.a 23 2 1,.l 24 23,.m 25 4,.r 26 9 24 25,.a 27 2 26,.l 28 27,.u 29 28,.b 30 .add 22 29,.m 3 30] (.join [1,3,4,42] (.reg [.a 31 2 1,.l 32 31,.m 33 4,.r 34 9 32 33,.a 35 2 34,.l 36 35,.u 37 36,.v 38 .gtr 37 20,.m 39 38,.mx 40 3 39,.vx 41 .gtr 40 30 39,.o 42 39 41]) (.i 42 (.g [.d 43 3 1,.f 44 58 43,.v 45 .neq 44 0,.m 2 45] (.ret [2])) .skip)))) (.reg [.m 20 4,.v 21 .add 20 1,.m 4 21])))
theorem F25:compF Tryz.prog 25=some ⟨46,[.tmp 2],(.g [.q 1 57 0,.k 2 false] (.z [1] (.join [1] (.g [.d 5 3 1,.f 6 57 5,.z 7 6] (.i 7 (.g [.k 2 false] (.ret [2])) .skip)) (.join [1] (.g [.a 8 2 1,.l 9 8,.u 10 9,.v 11 .gtr 10 10] (.i 11 (.g [.d 12 3 1,.f 13 58 12,.v 14 .neq 13 0,.m 2 14] (.ret [2])) .skip)) (.g [.c 3 0] (.join [] (.g [.c 4 0] (.block 0 (.loop [1,3,4] [] B25_0))) (.g [.k 2 true] (.ret [2]))))))))⟩:=by kernel_rfl
def B57_0:Cd:=(.join [1,3] (.g [.m 8 3,.a 9 2 1,.l 10 9,.u 11 10,.b 12 .lss 8 11] (.i 12 .skip (.exit [] 0))) (.join [1,3] (.block 1 (.g [.a 15 2 1,.l 16 15,.m 17 3,.r 18 9 16 17,.d 19 9 18,.f 20 105 19,.z 21 20] (.i 21 (.g [.k 2 false] (.ret [2])) .skip))) (.reg [.m 13 3,.v 14 .add 13 1,.m 3 14])))
theorem F57:compF Tryz.prog 57=some ⟨22,[.tmp 2],(.g [.q 1 57 0,.k 2 false] (.z [1] (.join [1] (.g [.a 4 2 1,.l 5 4,.u 6 5,.v 7 .gtr 6 128] (.i 7 (.g [.k 2 false] (.ret [2])) .skip)) (.join [] (.g [.c 3 0] (.block 0 (.loop [1,3] [] B57_0))) (.g [.k 2 true] (.ret [2]))))))⟩:=by kernel_rfl
theorem F105:compF Tryz.prog 105=some ⟨30,[.tmp 2],(.g [.q 1 70 0,.k 2 false] (.z [1] (.join [2] (.reg [.a 3 0 1,.l 4 3,.s 5 (.lens (.t 4)),.v 6 .leq 5 40,.m 7 6,.ay 8 1 1 7,.ly 9 8 7,.y 10 (.lens (.t 9)) 7,.vy 11 .leq 10 100 7,.e 12 7 11,.m 13 12,.ay 14 7 1 13,.ly 15 14 13,.y 16 (.lens (.t 15)) 13,.vy 17 .leq 16 40 13,.e 18 13 17,.m 19 18,.ay 20 3 1 19,.ly 21 20 19,.y 22 (.len (.t 21)) 19,.vy 23 .leq 22 10 19,.e 24 19 23,.m 25 24,.ay 26 2 1 25,.ly 27 26 25,.y 28 (.f 169 [.t 27]) 25,.e 29 25 28,.m 2 29]) (.ret [2]))))⟩:=by kernel_rfl
theorem F169:compF Tryz.prog 169=some ⟨6,[.tmp 2],(.g [.k 2 false] (.g [.m 3 0,.u 4 3,.v 5 .leq 4 300,.m 2 5] (.ret [2])))⟩:=by kernel_rfl
end Go.Proofs.YtdkokbhcjmapdaaGreatDoor

namespace Go.Proofs.YtdkokbhcjmapdaaGreatDoor
open Go.Sha
set_option maxRecDepth 100000
variable {g:List (Nat×Obj)}{n:Nat}
def anyN {α:Type}(m:Int)(p:α→Prop)[DecidablePred p]:List α→Nat→Bool
 |[],_=>false
 |q::r,j=>if(j:Int)<m then if p q then true else anyN m p r (j+1) else false
theorem L18 {l:List (List Pt)}(hl:l.length<140737488355328):∀r j,l.drop j=r→runL Tryz.prog HH [0,3] n B18_0 [(0,.sl (l.map Pt.vs)),(3,.int .i64 j)] (stN g n)=lpB (stN g n) [(0,.sl (l.map Pt.vs))] 2 (anyN 40 (fun q:List Pt=>40<(q.length:Int)) r j) false:=by
 refine drop_ind (fun j h=>?_) (fun q r j h hx hd ih=>?_)
 all_goals rw[runL_of B18_0.eq_1]
 ·have h1:¬(j:Int)<l.length:=by omega
  push_cast[h1,anyN]
 ·have h1:(j:Int)<l.length:=by omega
  have hw:=iw1 (j:=j) (by omega)
  push_cast[h1,hw,hx,f56]at ih ⊢
  simp only[ih,anyN,lps,Int.reduceEq,not_false_eq_true]
  all_goals first|with_reducible rfl|exact dn_eq (by omega) (by with_reducible rfl)|((repeat' split)<;>(try simp_all)<;>(try (with_reducible refine dn_eq ?_ ?_<;>first|trivial|omega|rfl))<;>(try omega))
theorem f18 {l:List (List Pt)}(hl:l.length<140737488355328):∃b,∀st,run Tryz.prog HH 18 [.sl (l.map Pt.vs)] st=some (.ret (.bool b),st):=by
 refine⟨if anyN 40 (fun q:List Pt=>40<(q.length:Int)) l 0=true then false else decide ((l.length:Int)≤40),fun st=>?_⟩
 rw[run_shut F18 rfl rfl (by simp)]
 have hL0:=fun n=>L18 (g:=st.x.gl) (n:=n) hl _ 0 rfl
 push_cast at hL0
 push_cast[hL0,lpE,lpX,lpI,lpB]
 all_goals first|with_reducible rfl|exact dn_eq (by omega) (by with_reducible rfl)|((repeat' split)<;>(try simp_all)<;>(try (with_reducible refine dn_eq ?_ ?_<;>first|trivial|omega|rfl))<;>(try omega))
theorem L19 {l:List Prof}(hl:l.length<140737488355328):∀r j,l.drop j=r→runL Tryz.prog HH [1,5] n B19_0 [(1,.sl (l.map Prof.v)),(5,.int .i64 j)] (stN g n)=lpB (stN g n) [] 4 (anyN 6 (fun q:Prof=>16<(q.feats.length:Int)) r j) false:=by
 refine drop_ind (fun j h=>?_) (fun q r j h hx hd ih=>?_)
 all_goals rw[runL_of B19_0.eq_1]
 ·have h1:¬(j:Int)<l.length:=by omega
  push_cast[h1,anyN,Prof.v]
 ·have h1:(j:Int)<l.length:=by omega
  have hw:=iw1 (j:=j) (by omega)
  push_cast[h1,hw,hx,Prof.v]at ih ⊢
  simp only[ih,anyN,lps,Int.reduceEq,not_false_eq_true]
  all_goals first|with_reducible rfl|exact dn_eq (by omega) (by with_reducible rfl)|((repeat' split)<;>(try simp_all)<;>(try (with_reducible refine dn_eq ?_ ?_<;>first|trivial|omega|rfl))<;>(try omega))
theorem f19 {l:List Fixt}{ps:List Prof}(hl:ps.length<140737488355328):∃b,∀st,run Tryz.prog HH 19 [.sl (l.map Fixt.v),.sl (ps.map Prof.v)] st=some (.ret (.bool b),st):=by
 apply Exists.intro
 intro st
 have hL0:=fun n=>L19 (g:=st.x.gl) (n:=n) hl _ 0 rfl
 rw[run_shut F19 rfl rfl (by simp)]
 push_cast at hL0
 push_cast[hL0,lpB]
 exact rfl
theorem L20 {l:List Grp}(hl:l.length<140737488355328):∀r j,l.drop j=r→runL Tryz.prog HH [0,3] n B20_0 [(0,.sl (l.map Grp.v)),(3,.int .i64 j)] (stN g n)=lpB (stN g n) [(0,.sl (l.map Grp.v))] 2 (anyN 60 (fun q:Grp=>40<(q.chans.length:Int)∧(q.chans.length:Int)≤256) r j) false:=by
 refine drop_ind (fun j h=>?_) (fun q r j h hx hd ih=>?_)
 all_goals rw[runL_of B20_0.eq_1]
 ·have h1:¬(j:Int)<l.length:=by omega
  push_cast[h1,anyN,Grp.v]
 ·have h1:(j:Int)<l.length:=by omega
  have hw:=iw1 (j:=j) (by omega)
  push_cast[h1,hw,hx,Grp.v]at ih ⊢
  simp only[ih,anyN,lps,Int.reduceEq,not_false_eq_true]
  all_goals first|with_reducible rfl|exact dn_eq (by omega) (by with_reducible rfl)|((repeat' split)<;>(try simp_all)<;>(try (with_reducible refine dn_eq ?_ ?_<;>first|trivial|omega|rfl))<;>(try omega))
theorem f20 {l:List Grp}(hl:l.length<140737488355328):∃b,∀st,run Tryz.prog HH 20 [.sl (l.map Grp.v)] st=some (.ret (.bool b),st):=by
 refine⟨if anyN 60 (fun q:Grp=>40<(q.chans.length:Int)∧(q.chans.length:Int)≤256) l 0=true then false else decide ((l.length:Int)≤60),fun st=>?_⟩
 rw[run_shut F20 rfl rfl (by simp)]
 have hL0:=fun n=>L20 (g:=st.x.gl) (n:=n) hl _ 0 rfl
 push_cast at hL0
 push_cast[hL0,lpE,lpX,lpI,lpB]
 all_goals first|with_reducible rfl|exact dn_eq (by omega) (by with_reducible rfl)|((repeat' split)<;>(try simp_all)<;>(try (with_reducible refine dn_eq ?_ ?_<;>first|trivial|omega|rfl))<;>(try omega))
def anyP {α:Type}(p:α→Prop)[DecidablePred p]:List α→Bool
 |[]=>false
 |q::r=>if p q then true else anyP p r
theorem L21 {l:List Pal}(hl:l.length<140737488355328):∀r j,l.drop j=r→runL Tryz.prog HH [0,3] n B21_0 [(0,.sl (l.map Pal.v)),(3,.int .i64 j)] (stN g n)=lpB (stN g n) [] 2 (anyP (fun q:Pal=>512<(q.hues.length:Int)) r) false:=by
 refine drop_ind (fun j h=>?_) (fun q r j h hx hd ih=>?_)
 all_goals rw[runL_of B21_0.eq_1]
 ·have h1:¬(j:Int)<l.length:=by omega
  push_cast[h1,anyP,Pal.v]
 ·have h1:(j:Int)<l.length:=by omega
  have hw:=iw1 (j:=j) (by omega)
  push_cast[h1,hw,hx,Pal.v]at ih ⊢
  simp only[ih,anyP,lps,Int.reduceEq,not_false_eq_true]
  all_goals first|with_reducible rfl|exact dn_eq (by omega) (by with_reducible rfl)|((repeat' split)<;>(try simp_all)<;>(try (with_reducible refine dn_eq ?_ ?_<;>first|trivial|omega|rfl))<;>(try omega))
theorem f21 {l:List Pal}(hl:l.length<140737488355328):∃b,∀st,run Tryz.prog HH 21 [.sl (l.map Pal.v)] st=some (.ret (.bool b),st):=by
 refine⟨if 64<(l.length:Int) then false else if anyP (fun q:Pal=>512<(q.hues.length:Int)) l=true then false else true,fun st=>?_⟩
 rw[run_shut F21 rfl rfl (by simp)]
 have hL0:=fun n=>L21 (g:=st.x.gl) (n:=n) hl _ 0 rfl
 push_cast at hL0
 push_cast[hL0,lpE,lpX,lpI,lpB]
 all_goals first|with_reducible rfl|exact dn_eq (by omega) (by with_reducible rfl)|((repeat' split)<;>(try simp_all)<;>(try (with_reducible refine dn_eq ?_ ?_<;>first|trivial|omega|rfl))<;>(try omega))
theorem L22 {l:List Sb}(hl:l.length<140737488355328):∀r j,l.drop j=r→runL Tryz.prog HH [0,3] n B22_0 [(0,.sl (l.map Sb.v)),(3,.int .i64 j)] (stN g n)=lpB (stN g n) [(0,.sl (l.map Sb.v))] 2 (anyN 40 (fun q:Sb=>30<(q.gains.length:Int)∧(q.gains.length:Int)≤128) r j) false:=by
 refine drop_ind (fun j h=>?_) (fun q r j h hx hd ih=>?_)
 all_goals rw[runL_of B22_0.eq_1]
 ·have h1:¬(j:Int)<l.length:=by omega
  push_cast[h1,anyN,Sb.v]
 ·have h1:(j:Int)<l.length:=by omega
  have hw:=iw1 (j:=j) (by omega)
  push_cast[h1,hw,hx,Sb.v]at ih ⊢
  simp only[ih,anyN,lps,Int.reduceEq,not_false_eq_true]
  all_goals first|with_reducible rfl|exact dn_eq (by omega) (by with_reducible rfl)|((repeat' split)<;>(try simp_all)<;>(try (with_reducible refine dn_eq ?_ ?_<;>first|trivial|omega|rfl))<;>(try omega))
theorem f22 {l:List Sb}(hl:l.length<140737488355328):∃b,∀st,run Tryz.prog HH 22 [.sl (l.map Sb.v)] st=some (.ret (.bool b),st):=by
 refine⟨if anyN 40 (fun q:Sb=>30<(q.gains.length:Int)∧(q.gains.length:Int)≤128) l 0=true then false else decide ((l.length:Int)≤40),fun st=>?_⟩
 rw[run_shut F22 rfl rfl (by simp)]
 have hL0:=fun n=>L22 (g:=st.x.gl) (n:=n) hl _ 0 rfl
 push_cast at hL0
 push_cast[hL0,lpE,lpX,lpI,lpB]
 all_goals first|with_reducible rfl|exact dn_eq (by omega) (by with_reducible rfl)|((repeat' split)<;>(try simp_all)<;>(try (with_reducible refine dn_eq ?_ ?_<;>first|trivial|omega|rfl))<;>(try omega))
theorem f23 {l:List Eff}:∃b,∀st,run Tryz.prog HH 23 [.sl (l.map Eff.v),.sl []] st=some (.ret (.bool b),st):=by
 refine⟨if 4<(l.length:Int)∧(l.length:Int)≤16 then false else true,fun st=>?_⟩
 rw[run_shut F23 rfl rfl (by simp)]
 push_cast[runL_of B23_0.eq_1]
 all_goals first|with_reducible rfl|exact dn_eq (by omega) (by with_reducible rfl)|((repeat' split)<;>(try simp_all)<;>(try (with_reducible refine dn_eq ?_ ?_<;>first|trivial|omega|rfl))<;>(try omega))
theorem L24 {x:Prof}(hl:x.feats.length<140737488355328):∀r j,x.feats.drop j=r→runL Tryz.prog HH [1,3] n B24_0 [(1,.ep x.v 0),(3,.int .i64 j)] (stN g n)=lpB (stN g n) [(1,.ep x.v 0)] 2 (anyN 40 (fun q:Ftr=>40<(q.wheel.length:Int)) r j) false:=by
 refine drop_ind (fun j h=>?_) (fun q r j h hx hd ih=>?_)
 all_goals rw[runL_of B24_0.eq_1]
 ·have h1:¬(j:Int)<x.feats.length:=by omega
  push_cast[h1,anyN,Prof.v,Ftr.v]
 ·have h1:(j:Int)<x.feats.length:=by omega
  have hw:=iw1 (j:=j) (by omega)
  push_cast[h1,hw,hx,Prof.v,Ftr.v]at ih ⊢
  simp only[ih,anyN,lps,Int.reduceEq,not_false_eq_true]
  all_goals first|with_reducible rfl|exact dn_eq (by omega) (by with_reducible rfl)|((repeat' split)<;>(try simp_all)<;>(try (with_reducible refine dn_eq ?_ ?_<;>first|trivial|omega|rfl))<;>(try omega))
def few51 (x:Prof):Bool:=if anyN 40 (fun q:Ftr=>40<(q.wheel.length:Int)) x.feats 0=true then false else(decide ((x.feats.length:Int)≤40)&&decide ((x.name.length:Int)≤100))
theorem f24 {x:Prof}(hl:x.feats.length<140737488355328){st:St}:run Tryz.prog HH 24 [x.v] st=some (.ret (.bool (few51 x)),st):=by
 rw[run_shut F24 rfl rfl (by simp)]
 have hL0:=fun n=>L24 (g:=st.x.gl) (n:=n) hl _ 0 rfl
 push_cast[Prof.v,few51]at hL0
 push_cast[Prof.v,few51,hL0,lpE,lpX,lpI,lpB]
 all_goals first|with_reducible rfl|exact dn_eq (by omega) (by with_reducible rfl)|((repeat' split)<;>(try simp_all)<;>(try (with_reducible refine dn_eq ?_ ?_<;>first|trivial|omega|rfl))<;>(try omega))
def few129 (x:Cu):Bool:=decide ((x.num.length:Int)≤40)&&(decide ((x.label.length:Int)≤100)&&(decide ((x.link.length:Int)≤40)&&(decide ((x.parts.length:Int)≤10)&&decide ((x.moves.length:Int)≤300))))
theorem f105 {x:Cu}{st:St}:run Tryz.prog HH 105 [x.v] st=some (.ret (.bool (few129 x)),st):=by
 rw[run_shut F105 rfl rfl (by simp)]
 push_cast[Cu.v,(fun(a0:V) (st:St) (h:V.bdL 0 [a0]=true)=>run_shut (P:=Tryz.prog) (H:=HH) (args:=[a0]) (st:=st) F169 rfl rfl h),few129]
theorem L57 {x:Lst}(hl:x.cues.length<140737488355328):∀r j,x.cues.drop j=r→runL Tryz.prog HH [1,3] n B57_0 [(1,.ep x.v 0),(3,.int .i64 j)] (stN g n)=lpB (stN g n) [] 2 (anyP (fun q:Cu=>few129 q=false) r) false:=by
 refine drop_ind (fun j h=>?_) (fun q r j h hx hd ih=>?_)
 all_goals rw[runL_of B57_0.eq_1]
 ·have h1:¬(j:Int)<x.cues.length:=by omega
  push_cast[h1,anyP,Lst.v,Cu.v]
 ·have h1:(j:Int)<x.cues.length:=by omega
  have hw:=iw1 (j:=j) (by omega)
  push_cast[h1,hw,hx,Lst.v,Cu.v,f105]at ih ⊢
  simp only[ih,anyP,lps,Int.reduceEq,not_false_eq_true]
  all_goals first|with_reducible rfl|exact dn_eq (by omega) (by with_reducible rfl)|((repeat' split)<;>(try simp_all)<;>(try (with_reducible refine dn_eq ?_ ?_<;>first|trivial|omega|rfl))<;>(try omega))
theorem f57 {x:Lst}(hl:x.cues.length<140737488355328):∃b,∀st,run Tryz.prog HH 57 [x.v] st=some (.ret (.bool b),st):=by
 refine⟨if 128<(x.cues.length:Int) then false else if anyP (fun q:Cu=>few129 q=false) x.cues=true then false else true,fun st=>?_⟩
 rw[run_shut F57 rfl rfl (by simp)]
 have hL0:=fun n=>L57 (g:=st.x.gl) (n:=n) hl _ 0 rfl
 push_cast[Lst.v]at hL0
 push_cast[Lst.v,hL0,lpE,lpX,lpI,lpB]
 all_goals first|with_reducible rfl|exact dn_eq (by omega) (by with_reducible rfl)|((repeat' split)<;>(try simp_all)<;>(try (with_reducible refine dn_eq ?_ ?_<;>first|trivial|omega|rfl))<;>(try omega))
def add52:List Cu→Int→Option Int
 |[],_=>none
 |q::r,m=>if 20<(q.moves.length:Int)∨30<IntKind.i64.wrap (m+q.moves.length) then some 1 else add52 r (IntKind.i64.wrap (m+q.moves.length))
theorem L25 {x:Lst}(hx0:x.ok):∀r j,x.cues.drop j=r→∀m,runL Tryz.prog HH [1,3,4] n B25_0 [(1,.ep x.v 0),(3,.int .i64 m),(4,.int .i64 j)] (stN g n)=(match add52 r m with|none=>some (.exit 0,[],stN g n)|some _=>some (.ret,[(2,.bool (lstR x != 0))],stN g n)):=by
 have hl:=hx0.a
 have h91:=fun(st:St)=>f58 (st:=st) hx0
 refine drop_ind (fun j h m=>?_) (fun q r j h hx hd ih m=>?_)
 all_goals rw[runL_of B25_0.eq_1]
 ·have h1:¬(j:Int)<x.cues.length:=by omega
  push_cast[h1,add52,Lst.v]
 ·have h1:(j:Int)<x.cues.length:=by omega
  have hw:=iw1 (j:=j) (by omega)
  push_cast[Lst.v]at h91
  push_cast[h1,hw,hx,Lst.v,Cu.v,h91]at ih ⊢
  simp only[ih,add52]
  split<;>rfl
theorem f25 {x:Lst}(h:x.ok):∃b,∀st,run Tryz.prog HH 25 [x.v] st=some (.ret (.bool b),st):=by
 obtain⟨b,hb⟩:=f57 h.a
 have h91:=fun(st:St)=>f58 (st:=st) h
 have h0:=fun g n=>L25 (g:=g) (n:=n) h x.cues 0 rfl 0
 cases h2:add52 x.cues 0 with
 |none =>
  rw[h2]at h0
  push_cast[Lst.v]at h0 hb h91
  refine⟨if b=false then false else if 10<(x.cues.length:Int) then lstR x != 0 else true,fun st=>?_⟩
  rw[run_shut F25 rfl rfl (by simp)]
  push_cast[Lst.v,hb,h91,h0]
  all_goals first|with_reducible rfl|exact dn_eq (by omega) (by with_reducible rfl)|((repeat' split)<;>(try simp_all)<;>(try (with_reducible refine dn_eq ?_ ?_<;>first|trivial|omega|rfl))<;>(try omega))
 |some k =>
  rw[h2]at h0
  push_cast[Lst.v]at h0 hb h91
  refine⟨if b=false then false else lstR x != 0,fun st=>?_⟩
  rw[run_shut F25 rfl rfl (by simp)]
  push_cast[Lst.v,hb,h91,h0]
  all_goals first|with_reducible rfl|exact dn_eq (by omega) (by with_reducible rfl)|((repeat' split)<;>(try simp_all)<;>(try (with_reducible refine dn_eq ?_ ?_<;>first|trivial|omega|rfl))<;>(try omega))
open Classical in
noncomputable def few52 (x:Lst):Bool:=if h:x.ok then(f25 h).choose else false
theorem f25' {x:Lst}(h:x.ok){st:St}:run Tryz.prog HH 25 [x.v] st=some (.ret (.bool (few52 x)),st):=by
 unfold few52;rw[dif_pos h];exact(f25 h).choose_spec st
theorem L5_0 {x:Sho}(hx0:x.ok):∀r j,x.profs.drop j=r→runL Tryz.prog HH [1,3] n B5_0 [(1,.ep x.v 0),(3,.int .i64 j)] (stN g n)=lpB (stN g n) [(1,.ep x.v 0)] 2 (anyP (fun q=>few51 q=false) r) false:=by
 have hl:=hx0.p.1
 refine drop_ind (fun j h=>?_) (fun q r j h hx hd ih=>?_)
 all_goals rw[runL_of B5_0.eq_1]
 ·have h1:¬(j:Int)<x.profs.length:=by omega
  push_cast[h1,anyP,Sho.v,Prof.v]
 ·have h1:(j:Int)<x.profs.length:=by omega
  have hw:=iw1 (j:=j) (by omega)
  have hq:q.feats.length<140737488355328:=(hx0.p.2.1 q (mem_at hd)).a
  push_cast[h1,hw,hx,Sho.v,Prof.v,f24 hq]at ih ⊢
  simp only[ih,anyP,lps,Int.reduceEq,not_false_eq_true]
  all_goals first|with_reducible rfl|exact dn_eq (by omega) (by with_reducible rfl)|((repeat' split)<;>(try simp_all)<;>(try (with_reducible refine dn_eq ?_ ?_<;>first|trivial|omega|rfl))<;>(try omega))
theorem L5_1 {x:Sho}(hx0:x.ok):∀r j,x.lsts.drop j=r→runL Tryz.prog HH [1,4] n B5_1 [(1,.ep x.v 0),(4,.int .i64 j)] (stN g n)=if anyN 10 (fun q=>few52 q=false) r j=true then some (.ret,[(2,.bool false)],stN g n) else some (.exit 2,[(1,.ep x.v 0)],stN g n):=by
 have hl:=hx0.k.1
 refine drop_ind (fun j h=>?_) (fun q r j h hx hd ih=>?_)
 all_goals rw[runL_of B5_1.eq_1]
 ·have h1:¬(j:Int)<x.lsts.length:=by omega
  push_cast[h1,anyN,Sho.v,Lst.v]
 ·have h1:(j:Int)<x.lsts.length:=by omega
  have hw:=iw1 (j:=j) (by omega)
  have hq:q.ok:=hx0.k.2 q (mem_at hd)
  push_cast[h1,hw,hx,Sho.v,Lst.v,f25' hq]at ih ⊢
  simp only[ih,anyN,lps,Int.reduceEq,not_false_eq_true]
  all_goals first|with_reducible rfl|exact dn_eq (by omega) (by with_reducible rfl)|((repeat' split)<;>(try simp_all)<;>(try (with_reducible refine dn_eq ?_ ?_<;>first|trivial|omega|rfl))<;>(try omega))
theorem f5 {x:Sho}(h:x.ok):∃b,∀st,run Tryz.prog HH 5 [x.v] st=some (.ret (.bool b),st):=by
 obtain⟨b1,h1⟩:=f18 h.c.1
 obtain⟨b2,h2⟩:=f19 (l:=x.fixts) h.p.1
 obtain⟨b3,h3⟩:=f20 h.g.1
 obtain⟨b4,h4⟩:=f21 h.l.1
 obtain⟨b5,h5⟩:=f22 h.s.1
 obtain⟨b6,h6⟩:=f23 (l:=x.effs)
 have k0:=fun g n=>L5_0 (g:=g) (n:=n) h x.profs 0 rfl
 have k1:=fun g n=>L5_1 (g:=g) (n:=n) h x.lsts 0 rfl
 push_cast[Sho.v]at k0 k1
 apply Exists.intro
 intro st
 rw[run_shut F5 rfl rfl (by simp)]
 push_cast[Sho.v,h1,h2,h3,h4,h5,h6,k0,k1,lpB]
 exact rfl
end Go.Proofs.YtdkokbhcjmapdaaGreatDoor

namespace Go.Proofs.YtdkokbhcjmapdaaGreatDoor
open Go.Sha
set_option maxRecDepth 10000
theorem F125:compF Tryz.prog 125=some ⟨16,[.tmp 4],(.g [.q 2 31 0,.q 3 81 1,.s 4 (.mv (.c .nils))] (.z [2,3] (.g [.a 6 2 2,.l 7 6,.s 8 (.mkfn (.func 193) [] [.t 3]),.g' 9 192 7 8,.m 5 9] (.g [.a 10 2 2,.l 11 10,.m 12 5,.r 13 4 11 12,.a 14 3 13,.l 15 14,.m 4 15] (.ret [4])))))⟩:=by kernel_rfl
def B192_0:Cd:=(.g [.b 9 .lss 8 7] (.join [0,1,7,8] (.i 9 .skip (.exit [] 0)) (.join [0,1,7,8] (.block 1 (.g [.m 10 8,.m 5 10] (.g [.m 11 1,.m 12 0,.m 13 5,.r 14 4 12 13,.d 15 4 14,.s 16 (.call (.t 11) [.t 15])] (.i 16 (.g [.m 17 5,.m 4 17] (.ret [4])) .skip)))) (.reg [.v 18 .add 8 1,.m 8 18]))))
theorem F192:compF Tryz.prog 192=some ⟨19,[.tmp 4],(.g [.c 4 0] (.join [] (.g [.m 6 0,.u 7 6,.c 8 0] (.block 0 (.loop [0,1,7,8] [] B192_0))) (.g [.c 4 (-1)] (.ret [4]))))⟩:=by kernel_rfl
theorem F193:compF Tryz.prog 193=some ⟨9,[.tmp 3],(.g [.q 2 53 0,.k 3 false] (.z [2] (.g [.a 4 0 2,.l 5 4,.a 6 2 1,.l 7 6,.b 8 .eql 5 7,.m 3 8] (.ret [3]))))⟩:=by kernel_rfl
end Go.Proofs.YtdkokbhcjmapdaaGreatDoor

namespace Go.Proofs.YtdkokbhcjmapdaaGreatDoor
open Go.Sha
set_option maxRecDepth 100000
variable {g:List (Nat×Obj)}{n:Nat}
theorem f193 {p:Prof}{x:Fixt}{st:St}:run Tryz.prog HH 193 [p.v,.ep x.v 0] st=some (.ret (.bool (p.name == x.prof)),st):=by
 rw[run_shut F193 rfl rfl (by simp)]
 push_cast[Prof.v,Fixt.v]
 all_goals first|with_reducible rfl|exact dn_eq (by omega) (by with_reducible rfl)|((repeat' split)<;>(try simp_all)<;>(try (with_reducible refine dn_eq ?_ ?_<;>first|trivial|omega|rfl))<;>(try omega))
theorem f192 {l:List Prof}{x:Fixt}(hl:l.length<140737488355328){st:St}:run Tryz.prog HH 192 [.sl (l.map Prof.v),.fn (.func 193) [] [.ep x.v 0]] st=some (.ret (.int .i64 (ix (fun p=>p.name == x.prof) l 0)),st) :=
 IxF (f:=Prof.v) (n:=some 4) (fun _=>rfl) (fun _=>rfl) F192 rfl (by simp) hl (fun q _ _=>f193) (fun _ _=>rfl) (fun _=>rfl)
theorem f125 {s:Sho}{x:Fixt}{q:Prof}(hl:s.profs.length<140737488355328)(hq:pfx s.profs x.prof=some q){st:St}:run Tryz.prog HH 125 [s.v,x.v] st=some (.ret (.sl (q.feats.map Ftr.v)),st):=by
 obtain⟨k,k1,k2,k3⟩:=(ix_find (j:=0)).2 q hq
 rw[Nat.zero_add]at k1
 have k4:(k:Int)<s.profs.length:=by omega
 have h92:=fun(st:St)=>f192 (x:=x) (st:=st) hl
 rw[k1]at h92
 push_cast[Fixt.v]at h92
 rw[run_shut F125 rfl rfl (by simp)]
 push_cast[Sho.v,Fixt.v,Prof.v,h92,k3,k4]
 all_goals first|with_reducible rfl|exact dn_eq (by omega) (by with_reducible rfl)|((repeat' split)<;>(try simp_all)<;>(try (with_reducible refine dn_eq ?_ ?_<;>first|trivial|omega|rfl))<;>(try omega))
def partK (l:List Fixt)(c k:Int):List Fixt:=l.filter fun x=>decide (x.chan=c∧x.part=k)
def partsF (l:List Fixt)(c:Int):Nat→Nat→List Fixt
 |_,0=>[]
 |k,m+1=>partK l c k++partsF l c (k+1) m
def ffF (a:Int)(l:List Ftr):Option Ftr:=l.find? fun f=>decide (f.attr=a)
def havL (ps:List Prof)(a:Int):List Fixt→Option (Fixt×Ftr)
 |[]=>none
 |x::r=>match ffF a (((pfx ps x.prof).map Prof.feats).getD []) with
  |some f=>some (x,f)
  |none=>havL ps a r
def havR (fx:List Fixt)(ps:List Prof)(p:Prm):Option (Fixt×Ftr):=havL ps p.attr (partsF fx p.chan 1 64)
theorem shoC_parts {x:Sho}(h:shoC x=0):labC x.title=0∧cursC x.curves=0∧profsCR x.profs x.curves=0∧fixCR x.fixts x.profs=0∧grpsC x.grps=0∧palsCR x.pals=0∧lstsC x.lsts=0∧subsCR x.subs=0∧effsC x.effs=0:=by
 unfold shoC uniC at h
 repeat' split at h
 all_goals first|(rename_i a;exact absurd h a)|skip
 simp_all
theorem fixR_all {ps:List Prof}{l:List Fixt}:∀{r:List Fixt}{j:Nat},l.drop j=r→fixR ps l r j=0→∀x∈r,aloC ps x=0
 |[],_,_,_,x,hx=>by simp at hx
 |q::r,j,hd,h,x,hx=>by
  rw[fixR]at h
  repeat' split at h
  all_goals first|(rename_i a;exact absurd h a)|cases h|skip
  ·rcases List.mem_cons.1 hx with rfl|hx
   ·rename_i a _ _;exact Classical.not_not.1 a
   ·exact fixR_all (drop_succ hd) h x hx
theorem fix_ok {fx:List Fixt}{ps:List Prof}(h:fixCR fx ps=0):ps.length≤32∧fx.length≤64∧fixR ps fx fx 0=0∧∀x∈fx,aloC ps x=0:=by
 unfold fixCR at h
 split at h
 ·cases h
 ·exact⟨by omega,by omega,h,fixR_all (j:=0) rfl h⟩
def ftrE (s:Sho)(p:Prm):Int:=if ¬shoC s=0 then shoC s else prmC 1 p
end Go.Proofs.YtdkokbhcjmapdaaGreatDoor

namespace Go.Proofs.YtdkokbhcjmapdaaGreatDoor
open Go.Sha
set_option maxRecDepth 100000
variable {g:List (Nat×Obj)}{n:Nat}
def ownR (s:Sho)(p:Prm):Option Ftr:=(havR s.fixts s.profs p).map (·.2)
def okR (s:Sho)(p:Prm):Bool:=if ftrE s p=0 then(ownR s p).isSome else false
theorem profsR_all {l:List Prof}{m:List (List Pt)}:∀{r:List Prof}{j:Nat},l.drop j=r→profsR l m r j=0→∀q∈r,profR q m=0
 |[],_,_,_,x,hx=>by simp at hx
 |q::r,j,hd,h,x,hx=>by
  rw[profsR]at h
  repeat' split at h
  all_goals first|(rename_i a;exact absurd h a)|cases h|skip
  rcases List.mem_cons.1 hx with rfl|hx
  ·rename_i a _;exact Classical.not_not.1 a
  ·exact profsR_all (drop_succ hd) h x hx
end Go.Proofs.YtdkokbhcjmapdaaGreatDoor

namespace Go.Proofs.YtdkokbhcjmapdaaGreatDoor
open Go.Sha
set_option maxRecDepth 100000
def ftsX (ps:List Prof)(x:Fixt):List Ftr:=((pfx ps x.prof).map Prof.feats).getD []
def prmsX (ps:List Prof)(x:Fixt):List Prm:=(ftsX ps x).map fun f=>⟨x.chan,f.attr⟩
def insK (a:List Prm)(p:Prm):List Prm:=if p∈a then a else a++[p]
def keyP (s:Sho):List Prm:=s.fixts.foldl (fun a x=>(prmsX s.profs x).foldl insK a) []
def leP (p q:Prm):Bool:=!befP q p
def parP (s:Sho):List Prm:=(keyP s).mergeSort leP
theorem insK_fold:∀{r a:List Prm},a.Nodup→(r.foldl insK a).Nodup∧∀p,p∈r.foldl insK a↔p∈a∨p∈r
 |[],a,h=>⟨h,fun p=>by simp⟩
 |q::r,a,h=>by
  have h2:(insK a q).Nodup∧∀p,p∈insK a q↔p∈a∨p=q:=by
   unfold insK
   split
   ·rename_i hq
    exact⟨h,fun p=>⟨.inl,fun e=>e.elim (fun e=>e) fun e=>e▸hq⟩⟩
   ·rename_i hq
    refine⟨List.nodup_append.2 ⟨h,List.nodup_cons.2 ⟨by simp,List.nodup_nil⟩,fun x hx y hy e=>?_⟩,fun p=>by simp⟩
    rw[List.mem_singleton]at hy;subst hy;subst e;exact hq hx
  obtain⟨a1,a2⟩:=insK_fold (r:=r) h2.1
  exact⟨a1,fun p=>by rw[List.foldl_cons,a2,h2.2,List.mem_cons,or_assoc]⟩
theorem keyP_fold {ps:List Prof}:∀{r:List Fixt}{a:List Prm},a.Nodup→(r.foldl (fun a x=>(prmsX ps x).foldl insK a) a).Nodup∧∀p,p∈r.foldl (fun a x=>(prmsX ps x).foldl insK a) a↔p∈a∨∃x∈r,p∈prmsX ps x
 |[],a,h=>⟨h,fun p=>by simp⟩
 |x::r,a,h=>by
  obtain⟨b1,b2⟩:=insK_fold (r:=prmsX ps x) h
  obtain⟨a1,a2⟩:=keyP_fold (r:=r) b1
  exact⟨a1,fun p=>by rw[List.foldl_cons,a2,b2];simp[or_assoc]⟩
theorem keyP_ok {s:Sho}:(keyP s).Nodup∧∀p,p∈keyP s↔∃x∈s.fixts,p∈prmsX s.profs x:=by
 obtain⟨a,b⟩:=keyP_fold (ps:=s.profs) (r:=s.fixts) (a:=[]) List.nodup_nil
 exact⟨a,fun p=>by rw[keyP,b];simp⟩
theorem befP_iff {p q:Prm}:befP p q=true↔p.chan<q.chan∨p.chan=q.chan∧p.attr<q.attr:=by
 simp only[befP,Bool.or_eq_true,Bool.and_eq_true,decide_eq_true_eq]
theorem leP_total {p q:Prm}:(leP p q||leP q p)=true:=by
 cases h1:befP q p<;>cases h2:befP p q<;>simp[leP,h1,h2]
 rw[befP_iff]at h1 h2;omega
theorem leP_trans {a b c:Prm}(h1:leP a b=true)(h2:leP b c=true):leP a c=true:=by
 simp only[leP,Bool.not_eq_true',←Bool.not_eq_true,befP_iff]at h1 h2 ⊢
 omega
theorem leP_anti {a b:Prm}(h1:leP a b=true)(h2:leP b a=true):a=b:=by
 simp only[leP,Bool.not_eq_true',←Bool.not_eq_true,befP_iff]at h1 h2
 cases a;cases b;simp only at h1 h2;congr<;>omega
theorem sort_eq {l m:List Prm}(hp:l.Perm m)(hs:m.Pairwise fun a b=>leP a b=true):l.mergeSort leP=m :=
 List.Perm.eq_of_pairwise (le:=fun a b=>leP a b=true) (fun a b _ _ h1 h2=>leP_anti h1 h2) (List.pairwise_mergeSort (le:=leP) (fun _ _ _=>leP_trans) (fun _ _=>leP_total) l) hs ((List.mergeSort_perm l leP).trans hp)
theorem sort_perm {l m:List Prm}(hp:l.Perm m):l.mergeSort leP=m.mergeSort leP :=
 sort_eq (hp.trans (List.mergeSort_perm m leP).symm) (List.pairwise_mergeSort (le:=leP) (fun _ _ _=>leP_trans) (fun _ _=>leP_total) m)
theorem parP_ok {s:Sho}:(parP s).Pairwise (fun a b=>befP a b=true)∧∀p,p∈parP s↔∃x∈s.fixts,p∈prmsX s.profs x:=by
 have hp:=List.mergeSort_perm (keyP s) leP
 refine⟨?_,fun p=>by rw[parP,hp.mem_iff,keyP_ok.2]⟩
 have h1:=List.pairwise_mergeSort (le:=leP) (fun _ _ _=>leP_trans) (fun _ _=>leP_total) (keyP s)
 have h2:(parP s).Nodup:=hp.nodup_iff.2 keyP_ok.1
 refine(List.pairwise_and_iff.2 ⟨h1,h2⟩).imp fun {a b} h=>?_
 simp only[leP,Bool.not_eq_true',←Bool.not_eq_true,befP_iff]at h ⊢
 have:¬(a.chan=b.chan∧a.attr=b.attr):=fun e=>h.2 (by cases a;cases b;simp_all)
 omega
def putR (n:Int):List Int→List Int
 |[]=>[n]
 |x::r=>if x<n then x::putR n r else if x=n then x::r else n::x::r
theorem putR_ok {n:Int}:∀{l:List Int},l.Pairwise (·<·)→(putR n l).Pairwise (·<·)∧∀x,x∈putR n l↔x=n∨x∈l
 |[],_=>⟨by simp[putR],fun x=>by simp[putR]⟩
 |y::r,h=>by
  rw[List.pairwise_cons]at h
  obtain⟨a,b⟩:=putR_ok (n:=n) h.2
  rw[putR]
  split
  ·rename_i h1
   refine⟨List.pairwise_cons.2 ⟨fun x hx=>?_,a⟩,fun x=>by rw[List.mem_cons,b];simp[or_left_comm]⟩
   rcases(b x).1 hx with rfl|hx
   ·exact h1
   ·exact h.1 x hx
  ·split
   ·rename_i h1 h2
    exact⟨List.pairwise_cons.2 h,fun x=>by subst h2;simp⟩
   ·rename_i h1 h2
    refine⟨List.pairwise_cons.2 ⟨fun x hx=>?_,List.pairwise_cons.2 h⟩,fun x=>by simp⟩
    rcases List.mem_cons.1 hx with rfl|hx
    ·omega
    ·have:=h.1 x hx;omega
def givX (ps:List Prof)(c:Int)(a:List Int)(x:Fixt):List Int:=if x.chan=c then(ftsX ps x).foldl (fun a f=>putR f.attr a) a else a
def givR (s:Sho)(c:Int):List Int:=s.fixts.foldl (givX s.profs c) []
theorem givF_ok:∀{l:List Ftr}{a:List Int},a.Pairwise (·<·)→(l.foldl (fun a f=>putR f.attr a) a).Pairwise (·<·)∧∀x,x∈l.foldl (fun a f=>putR f.attr a) a↔x∈a∨∃f∈l,f.attr=x
 |[],a,h=>⟨h,fun x=>by simp⟩
 |f::r,a,h=>by
  obtain⟨b1,b2⟩:=putR_ok (n:=f.attr) h
  obtain⟨a1,a2⟩:=givF_ok (l:=r) b1
  exact⟨a1,fun x=>by rw[List.foldl_cons,a2,b2];simp[or_left_comm,or_assoc,eq_comm (a:=x)]⟩
theorem givL_ok {ps:List Prof}{c:Int}:∀{l:List Fixt}{a:List Int},a.Pairwise (·<·)→(l.foldl (givX ps c) a).Pairwise (·<·)∧∀y,y∈l.foldl (givX ps c) a↔y∈a∨∃x∈l,x.chan=c∧∃f∈ftsX ps x,f.attr=y
 |[],a,h=>⟨h,fun x=>by simp⟩
 |x::r,a,h=>by
  by_cases hx:x.chan=c
  ·obtain⟨b1,b2⟩:=givF_ok (l:=ftsX ps x) h
   obtain⟨a1,a2⟩:=givL_ok (ps:=ps) (c:=c) (l:=r) b1
   rw[List.foldl_cons,givX,if_pos hx]
   exact⟨a1,fun y=>by rw[a2,b2];simp[hx,or_assoc]⟩
  ·obtain⟨a1,a2⟩:=givL_ok (ps:=ps) (c:=c) (l:=r) h
   rw[List.foldl_cons,givX,if_neg hx]
   exact⟨a1,fun y=>by rw[a2];simp[hx]⟩
theorem givR_ok {s:Sho}{c:Int}:(givR s c).Pairwise (·<·)∧∀y,y∈givR s c↔∃x∈s.fixts,x.chan=c∧∃f∈ftsX s.profs x,f.attr=y:=by
 obtain⟨a,b⟩:=givL_ok (ps:=s.profs) (c:=c) (l:=s.fixts) (a:=[]) List.Pairwise.nil
 exact⟨a,fun y=>by rw[givR,b];simp⟩
def patC (s:Sho):Nat→Nat→List Prm
 |_,0=>[]
 |k,m+1=>(givR s k).map (fun a=>(⟨k,a⟩:Prm))++patC s (k+1) m
theorem patC_ok {s:Sho}:∀{m k:Nat},(patC s k m).Pairwise (fun a b=>befP a b=true)∧∀p,p∈patC s k m↔(k:Int)≤p.chan∧p.chan<k+m∧p.attr∈givR s p.chan
 |0,k=>⟨List.Pairwise.nil,fun p=>by simp[patC];omega⟩
 |m+1,k=>by
  obtain⟨a,b⟩:=patC_ok (s:=s) (m:=m) (k:=k+1)
  rw[patC]
  refine⟨List.pairwise_append.2 ⟨?_,a,fun x hx y hy=>?_⟩,fun p=>?_⟩
  ·rw[List.pairwise_map]
   exact givR_ok.1.imp fun {x y} (h:x<y)=>befP_iff (p:=⟨k,x⟩) (q:=⟨k,y⟩) |>.2 (.inr ⟨rfl,h⟩)
  ·obtain⟨z,_,rfl⟩:=List.mem_map.1 hx
   have:=(b y).1 hy
   exact befP_iff.2 (.inl (by have:=this.1;dsimp only;omega))
  ·rw[List.mem_append,b]
   constructor
   ·rintro(h|⟨h1,h2,h3⟩)
    ·obtain⟨z,hz,rfl⟩:=List.mem_map.1 h
     exact⟨by dsimp only;omega,by dsimp only;omega,hz⟩
    ·exact⟨by omega,by omega,h3⟩
   ·rintro⟨h1,h2,h3⟩
    by_cases h:p.chan=k
    ·left
     rw[h]at h3
     exact List.mem_map.2 ⟨p.attr,h3,by cases p;simp_all⟩
    ·right;exact⟨by omega,by omega,h3⟩
theorem par_eq {s:Sho}(h:∀x∈s.fixts,1≤x.chan∧x.chan≤999):parP s=patC s 1 999:=by
 obtain⟨a1,a2⟩:=parP_ok (s:=s)
 obtain⟨b1,b2⟩:=patC_ok (s:=s) (m:=999) (k:=1)
 have nd:∀{l:List Prm},l.Pairwise (fun a b=>befP a b=true)→l.Nodup:=fun h=>h.imp fun {a b} h e=>by
  subst e;rw[befP_iff]at h;omega
 have le:∀{l:List Prm},l.Pairwise (fun a b=>befP a b=true)→l.Pairwise (fun a b=>leP a b=true):=fun h=>h.imp fun {a b} h=>by
  simp only[leP,Bool.not_eq_true',←Bool.not_eq_true];rw[befP_iff]at h ⊢;omega
 refine List.Perm.eq_of_pairwise (le:=fun a b=>leP a b=true) (fun a b _ _ h1 h2=>leP_anti h1 h2) (le a1) (le b1) ((List.perm_ext_iff_of_nodup (nd a1) (nd b1)).2 fun p=>?_)
 rw[a2,b2,givR_ok.2]
 constructor
 ·rintro⟨x,hx,hp⟩
  obtain⟨f,hf,rfl⟩:=List.mem_map.1 hp
  have:=h x hx
  exact⟨by dsimp only;omega,by dsimp only;omega,x,hx,rfl,f,hf,rfl⟩
 ·rintro⟨_,_,x,hx,h1,f,hf,h2⟩
  exact⟨x,hx,List.mem_map.2 ⟨f,hf,by cases p;simp_all⟩⟩
end Go.Proofs.YtdkokbhcjmapdaaGreatDoor

namespace Go.Proofs.YtdkokbhcjmapdaaGreatDoor
open Go.Sha
set_option maxRecDepth 10000
def B67_0:Cd:=(.g [.b 30 .lss 29 28] (.join [1,5,7,19,20,21,27,28,29] (.i 30 .skip (.exit [1,5,19,20,21] 2)) (.join [1,5,7,19,20,21,27,28,29] (.block 3 (.g [.r 31 10 27 29,.d 32 10 31,.s 9 (.alloc 117 [.i 0,.i 0,.i 0,.i 0,.i 0,.i 0,.i 0,.i 0,(.bool false),.nils]),.w 10 9 32] (.z [9] (.reg [.m 33 5,.a 34 0 7,.l 35 34,.a 36 0 9,.l 37 36,.s 38 (.build [.i 0,.i 0] [(0,1,(.t 35)),(1,1,(.t 37))]),.n (.act (.mset (.a [.i,.i])) [.t 33,.t 38,(.c (.bool true))])])))) (.reg [.v 39 .add 29 1,.m 29 39]))))
def B67_1:Cd:=(.g [.b 22 .lss 21 20] (.join [1,5,19,20,21] (.i 22 .skip (.exit [5] 0)) (.join [1,5,19,20,21] (.block 1 (.g [.r 23 7 19 21,.d 24 7 23,.s 7 (.alloc 81 [.i 0,.i 0,(.str []),.i 0,.i 0,.i 0,(.str [])]),.w 7 7 24] (.z [7] (.g [.d 25 9 1,.d 26 7 7,.g' 27 125 25 26,.u 28 27,.c 29 0] (.block 2 (.loop [1,5,7,19,20,21,27,28,29] [] B67_0)))))) (.reg [.v 40 .add 21 1,.m 21 40]))))
def B67_2:Cd:=(.g [.s 43 (.nxt (.t 42)),.j 44 0 43] (.join [10,42] (.i 44 .skip (.exit [10] 4)) (.block 5 (.g [.s 45 (.act .ent [.t 42]),.j 46 0 45,.s 11 (.alloc 120 [.i 0,.i 0]),.w 2 11 46] (.z [11] (.reg [.m 47 10,.d 48 2 11,.s 49 (.bslice 120 2 [.t 48]),.s 50 (.append 120 2 16 (.t 47) (.t 49)),.m 10 50]))))))
theorem F67:compF Tryz.prog 67=some ⟨54,[.tmp 2,.tmp 3],(.g [.q 1 31 0,.s 2 (.mv (.c .nils)),.c 3 0] (.z [1] (.join [1] (.g [.d 12 9 1,.f 13 37 12,.m 4 13] (.g [.m 14 4,.v 15 .neq 14 0] (.i 15 (.g [.m 16 4,.s 2 (.mv (.c .nils)),.m 3 16] (.ret [2,3])) .skip))) (.g [.s 17 (.act .mkmap []),.m 5 17] (.join [5] (.g [.a 18 3 1,.l 19 18,.u 20 19,.c 21 0] (.block 0 (.loop [1,5,19,20,21] [] B67_1))) (.g [.s 10 (.mv (.c .nils))] (.join [10] (.g [.m 41 5,.s 42 (.act .rng [.t 41])] (.block 4 (.loop [10,42] [(10,(120,2))] B67_2))) (.g [.m 51 10,.s 52 (.f 126 [.t 51,(.c (.fn (.func 127) [] []))])] (.g [.m 53 10,.m 2 53,.c 3 0] (.ret [2,3]))))))))))⟩:=by kernel_rfl
end Go.Proofs.YtdkokbhcjmapdaaGreatDoor

namespace Go.Proofs.YtdkokbhcjmapdaaGreatDoor
open Go.Sha
set_option maxRecDepth 100000
variable {g:List (Nat×Obj)}{n:Nat}
theorem mapO_map {α:Type}{F:V→Option V}{f:α→V}:∀{l:List α},(∀x,F (f x)=some (f x))→mapO F (l.map f)=some (l.map f)
 |[],_=>rfl
 |x::l,h=>by rw[List.map_cons,mapO,h,mapO_map h]
theorem prof_len {s:Sho}(hs:shoC s=0){q:Prof}(hq:q∈s.profs):q.feats.length≤16:=by
 have h:=(shoC_parts hs).2.2.1
 unfold profsCR at h
 split at h
 ·cases h
 ·have:=profsR_all (j:=0) rfl h q hq
  unfold profR at this
  repeat' split at this
  all_goals first|(rename_i a;exact absurd this a)|cases this|omega
def parS (s:Sho):List Prm:=if shoC s=0 then parP s else[]
theorem fix_chan {s:Sho}(hs:shoC s=0):∀x∈s.fixts,1≤x.chan∧x.chan≤999:=fun x hx=>by
 have:=rng_ok (aloC_ok ((fix_ok (shoC_parts hs).2.2.2.1).2.2.2 x hx)).1;omega
end Go.Proofs.YtdkokbhcjmapdaaGreatDoor

namespace Go.Proofs.YtdkokbhcjmapdaaGreatDoor
open Go.Sha
set_option maxRecDepth 100000
variable {g:List (Nat×Obj)}{n:Nat}
def esP (a:List Prm):List (V×V):=a.map fun p=>(p.v,.bool true)
theorem same_prm {p q:Prm}:sameV p.v q.v=some (decide (p=q)):=by
 cases p;cases q
 rw[show ∀a b c d:Int,sameV (Prm.v ⟨a,b⟩) (Prm.v ⟨c,d⟩)=some ((a == c)&&((b == d)&&true)) from fun a b c d=>rfl]
 simp only[Prm.mk.injEq,Bool.and_true,Option.some.injEq]
 rw[Bool.eq_iff_iff];simp
theorem find_esP {p:Prm}:∀{a:List Prm}{i:Nat},(p ∉ a→findV p.v (esP a) i=some none)∧(p∈a→∃j,a[j]?=some p∧findV p.v (esP a) i=some (some (i+j,.bool true)))
 |[],i=>⟨fun _=>rfl,fun h=>by simp at h⟩
 |q::r,i=>by
  obtain⟨i1,i2⟩:=find_esP (p:=p) (a:=r) (i:=i+1)
  have e:findV p.v (esP (q::r)) i=match(some (decide (p=q)):Option Bool) with
   |some true=>some (some (i,.bool true))
   |some false=>findV p.v (esP r) (i+1)
   |none=>none:=by rw[←same_prm];rfl
  rw[e]
  by_cases h:p=q
  ·subst h
   simp only[decide_true]
   exact⟨fun h=>absurd (List.mem_cons_self ..) h,fun _=>⟨0,rfl,rfl⟩⟩
  ·simp only[decide_eq_false h]
   refine⟨fun h'=>i1 fun h2=>h' (List.mem_cons_of_mem _ h2),fun h'=>?_⟩
   obtain⟨j,j1,j2⟩:=i2 ((List.mem_cons.1 h').resolve_left h)
   exact⟨j+1,j1,by rw[j2,show i+1+j=i+(j+1) by omega]⟩
theorem mset_esP {st:St}{i:Nat}{a:List Prm}{p:Prm}:msetB st i (esP a) p.v (.bool true) (findV p.v (esP a) 0)=some (.und,⟨st.nx,st.mem,st.arr,⟨updO st.x.obj i (.map (esP (insK a p))),st.x.gl,st.x.ty⟩⟩):=by
 by_cases h:p∈a
 ·obtain⟨j,j1,j2⟩:=(find_esP (i:=0)).2 h
  rw[j2,insK,if_pos h,Nat.zero_add]
  have e:(esP a).set j (p.v,.bool true)=esP a:=by
   have hj:=(List.getElem?_eq_some_iff.1 j1).1
   apply List.ext_getElem?
   intro k
   rw[List.getElem?_set]
   split
   ·rename_i e;subst e
    rw[esP,List.getElem?_map,j1,List.length_map,if_pos hj];rfl
   ·rfl
  simp only[msetB,putM,e]
 ·rw[(find_esP (i:=0)).1 h,insK,if_neg h]
  simp[msetB,putM,esP]
@[push_cast]theorem esP_all {a:List Prm}:((esP a).all fun p=>p.1.bd n&&p.2.bd n)=true:=by simp[esP,V.bd,V.bdL]
@[push_cast]theorem esP_len {a:List Prm}:(esP a).length=a.length:=by simp[esP]
@[push_cast]theorem esP_nil:esP []=[]:=idq rfl
def stZ (g:List (Nat×Obj))(n:Nat)(a:List Prm):St:=⟨n,[],[],⟨[(1,.map (esP a))],g,[]⟩⟩
@[push_cast]theorem stZ_eq {a:List Prm}:stZ g n a=⟨n,[],[],⟨[(1,.map (esP a))],g,[]⟩⟩:=idq rfl
theorem L67_0 {l:List Ftr}{x:Fixt}{e1 e19 e20 e21:V}(hl:l.length<140737488355328)(b1:V.bd 3 e1=true)(b19:V.bd 3 e19=true)(b20:V.bd 3 e20=true)(b21:V.bd 3 e21=true):∀r j,l.drop j=r→∀a,
  runL Tryz.prog HH [1,5,7,19,20,21,27,28,29] 3 B67_0 [(1,e1),(5,.mp 1),(7,.ep x.v 0),(19,e19),(20,e20),(21,e21),(27,.sl (l.map Ftr.v)),(28,.int .i64 l.length),(29,.int .i64 j)] (stZ g 3 a)
   = some (.exit 2,[(1,e1),(5,.mp 1),(19,e19),(20,e20),(21,e21)],stZ g 3 ((r.map fun f=>(⟨x.chan,f.attr⟩:Prm)).foldl insK a)):=by
 refine drop_ind (fun j h a=>?_) (fun q r j h hx hd ih a=>?_)
 all_goals rw[runL_of B67_0.eq_1]
 ·have h1:¬(j:Int)<l.length:=by omega
  push_cast[h1,List.foldl_nil,List.map_nil,Ftr.v,Fixt.v]
 ·have h1:(j:Int)<l.length:=by omega
  have hw:=iw1 (j:=j) (by omega)
  have hm:=fun(st:St) (i:Nat)=>mset_esP (st:=st) (i:=i) (a:=a) (p:=⟨x.chan,q.attr⟩)
  have ih:=ih (insK a ⟨x.chan,q.attr⟩)
  push_cast[Prm.v]at hm
  push_cast[h1,hw,hx,Ftr.v,Fixt.v,List.foldl_cons,List.map_cons,b1,b19,b20,b21,hm]at ih ⊢
  exact dn_eq rfl ih
theorem L67_1 {s:Sho}(h0:s.ok)(hs:shoC s=0):∀r j,s.fixts.drop j=r→∀a,
  runL Tryz.prog HH [1,5,19,20,21] 2 B67_1 [(1,.ep s.v 0),(5,.mp 1),(19,.sl (s.fixts.map Fixt.v)),(20,.int .i64 s.fixts.length),(21,.int .i64 j)] (stZ g 2 a)
   = some (.exit 0,[(5,.mp 1)],stZ g 2 (r.foldl (fun a x=>(prmsX s.profs x).foldl insK a) a)):=by
 have hl:=h0.f.1
 have hf:=fix_ok (shoC_parts hs).2.2.2.1
 refine drop_ind (fun j h a=>?_) (fun x r j h hx hd ih a=>?_)
 all_goals rw[runL_of B67_1.eq_1]
 ·have h1:¬(j:Int)<s.fixts.length:=by omega
  push_cast[h1,List.foldl_nil,Sho.v,Fixt.v]
 ·have h1:(j:Int)<s.fixts.length:=by omega
  have hw:=iw1 (j:=j) (by omega)
  obtain⟨q,hq1⟩:=Option.isSome_iff_exists.1 (aloC_some (hf.2.2.2 x (mem_at hd)))
  have hq2:=prof_len hs (List.mem_of_find?_eq_some hq1)
  have h55:=fun(st:St)=>f125 (st:=st) h0.p.1 hq1
  have h0:=L67_0 (g:=g) (l:=q.feats) (x:=x) (e1:=.ep s.v 0) (e19:=.sl (s.fixts.map Fixt.v)) (e20:=.int .i64 s.fixts.length) (e21:=.int .i64 j) (by omega) (by simp[V.bd,V.bdL,bdL_map']) (by simp[V.bd,V.bdL,bdL_map']) rfl rfl _ 0 rfl a
  have e:prmsX s.profs x=q.feats.map fun f=>(⟨x.chan,f.attr⟩:Prm):=by simp[prmsX,ftsX,hq1]
  rw[List.drop_zero,←e]at h0
  have ih:=ih ((prmsX s.profs x).foldl insK a)
  push_cast[Sho.v,Fixt.v,Ftr.v]at h55 h0
  push_cast[h1,hw,hx,Sho.v,Fixt.v,Ftr.v,h55,h0,List.foldl_cons]at ih ⊢
  exact ih
theorem featsR_attr {foot c:Int}{l:List Ftr}:∀{r:List Ftr}{j:Nat},l.drop j=r→featsR foot c l r j=0→∀q∈r,0≤q.attr∧q.attr≤14
 |[],_,_,_,x,hx=>by simp at hx
 |q::r,j,hd,h0,x,hx=>by
  rw[featsR]at h0
  split at h0
  ·rename_i h1
   rcases List.mem_cons.1 hx with rfl|hx
   ·unfold featR at h1
    by_cases c1:x.attr<0∨15≤x.attr
    ·rw[if_pos c1]at h1;cases h1
    ·omega
   ·exact featsR_attr (drop_succ hd) h0 x hx
  ·rename_i h1;exact absurd h0 h1
theorem prof_attr {s:Sho}(hs:shoC s=0){q:Prof}(hq:q∈s.profs):∀f∈q.feats,0≤f.attr∧f.attr≤14:=by
 have h:=(shoC_parts hs).2.2.1
 unfold profsCR at h
 split at h
 ·cases h
 ·have:=profsR_all (j:=0) rfl h q hq
  unfold profR at this
  repeat' split at this
  all_goals first|(rename_i a;exact absurd this a)|cases this|skip
  exact featsR_attr (j:=0) rfl this
theorem keyP_rng {s:Sho}(hs:shoC s=0):∀p∈keyP s,(1≤p.chan∧p.chan≤999)∧0≤p.attr∧p.attr≤14:=fun p hp=>by
 obtain⟨x,hx,hp⟩:=(keyP_ok.2 p).1 hp
 obtain⟨f,hf,rfl⟩:=List.mem_map.1 hp
 refine⟨fix_chan hs x hx,?_⟩
 unfold ftsX at hf
 cases e:pfx s.profs x.prof with
 |none=>rw[e]at hf;simp at hf
 |some q=>rw[e]at hf;exact prof_attr hs (List.mem_of_find?_eq_some e) f hf
theorem keyP_len {s:Sho}(hs:shoC s=0):(keyP s).length≤20000:=by
 have h1:=keyP_rng hs
 have h2:(keyP s).Perm (patC s 1 999):=(List.mergeSort_perm (keyP s) leP).symm.trans (by rw[←par_eq (fix_chan hs)];exact .refl _)
 have h3:(keyP s).length≤64*16:=by
  have:∀(r:List Fixt) (a:List Prm),(∀x∈r,(ftsX s.profs x).length≤16)→(r.foldl (fun a x=>(prmsX s.profs x).foldl insK a) a).length≤a.length+r.length*16:=by
   intro r
   induction r with
   |nil=>intro a _;simp
   |cons x r ih =>
    intro a hx
    have k1:=ih ((prmsX s.profs x).foldl insK a) (fun y hy=>hx y (List.mem_cons_of_mem _ hy))
    have k2:∀(l a:List Prm),(l.foldl insK a).length≤a.length+l.length:=by
     intro l
     induction l with
     |nil=>intro a;simp
     |cons p l ih=>intro a;have:=ih (insK a p);have:(insK a p).length≤a.length+1:=by { unfold insK;split<;>simp };simp only[List.foldl_cons,List.length_cons];omega
    have k3:=k2 (prmsX s.profs x) a
    have k4:=hx x (List.mem_cons_self ..)
    have k5:(prmsX s.profs x).length=(ftsX s.profs x).length:=by simp[prmsX]
    simp only[List.foldl_cons,List.length_cons];omega
  have h4:=this s.fixts [] fun x _=>by
   unfold ftsX
   cases e:pfx s.profs x.prof with
   |none=>simp
   |some q=>exact prof_len hs (List.mem_of_find?_eq_some e)
  have:=(fix_ok (shoC_parts hs).2.2.2.1).2.1
  unfold keyP;simp only[List.length_nil]at *;omega
 omega
def pre13 : Cd := (.g [.s 1 (.box 31 (.t 0)),.s 2 (.mv (.c .nils)),.s 3 (.mv (.i 0))]
 (.z [1] (.join [1] (.g [.s 12 (.load (some 9) (.t 1)),.s 13 (.f 37 [(.t 12)]),.s 4 (.m 13)]
 (.g [.s 14 (.m 4),.s 15 (.bin .neq (.t 14) (.i 0))]
 (.i 15 (.g [.s 16 (.m 4),.s 2 (.mv (.c .nils)),.s 3 (.m 16)]
 (.ret [2, 3]))
 .skip)))
 (.g [.s 17 (.act .mkmap []),.s 5 (.m 17)]
 (.join [5] (.g [.s 18 (.a 3 1),.s 19 (.l 18),.s 20 (.len (.t 19)),.s 21 (.mv (.i 0))]
 (.block 0 (.loop [1, 5, 19, 20, 21] [] B67_1)))
 (.g [.s 10 (.mv (.c .nils))] .skip))))))
def post13 : Cd := (.g [.s 51 (.m 10),.s 52 (.f 126 [(.t 51), (.c (.fn (.func 127) [] []))])]
 (.g [.s 53 (.m 10),.s 2 (.m 53),.s 3 (.mv (.i 0))]
 (.ret [2, 3])))
def mid13 : Cd := (.join [10] (.g [.s 41 (.m 5),.s 42 (.act .rng [(.t 41)])]
 (.block 4 (.loop [10, 42] [(10, (120, 2))] B67_2))) post13)
theorem run_pre {s:Sho}(h:s.ok)(hs:shoC s=0):runC Tryz.prog HH pre13 (argEnv 0 [s.v]) (stN g 0)=some (.normal,[(10,.nils),(5,.mp 1)],stZ g 2 (keyP s)):=by
 have h15:=fun(st:St)=>f37 (st:=st) h
 have h0:=L67_1 (g:=g) h hs _ 0 rfl []
 rw[List.drop_zero,show s.fixts.foldl (fun a x=>(prmsX s.profs x).foldl insK a) []=keyP s from rfl]at h0
 rw[pre13]
 push_cast[Sho.v,Fixt.v]at h15 h0
 push_cast[Sho.v,Fixt.v,h15,h0,hs]
def seeP (s:Sho)(l:List Nat):List Prm:=l.map fun j=>(keyP s).getD j default
def stY (g:List (Nat×Obj))(s:Sho)(seen:List Nat):St:=⟨4,[],[(3,⟨120,2,(seeP s seen).map Prm.v,true,false⟩)],⟨[(2,.iter 1 (esP (keyP s)).length seen),(1,.map (esP (keyP s)))],g,[]⟩⟩
theorem es_get {a:List Prm}{j:Nat}{kv:V×V}(h:(esP a)[j]?=some kv):kv=((a.getD j default).v,.bool true)∧j<a.length:=by
 rw[esP,List.getElem?_map]at h
 obtain⟨p,hp,rfl⟩:=Option.map_eq_some_iff.1 h
 exact⟨by rw[List.getD_eq_getElem?_getD,hp];rfl,(List.getElem?_eq_some_iff.1 hp).1⟩
def k67 : Cd := (.join [10, 42] (.i 44 .skip (.exit [10] 4)) (.block 5 (.g [.s 45 (.act .ent [(.t 42)]),.s 46 (.ext 0 (.t 45)),.s 11 (.alloc 120 [(.i 0), (.i 0)]),.n (.store 2 (.t 11) (.t 46))]
 (.z [11] (.reg [.s 47 (.m 10),.s 48 (.load (some 2) (.t 11)),.s 49 (.bslice 120 2 [(.t 48)]),.s 50 (.append 120 2 16 (.t 47) (.t 49)),.s 10 (.m 50)])))))
theorem run_end {s:Sho}{seen:List Nat}:runC Tryz.prog HH k67 ((44,.bool false)::(43,.tup [.bool false])::[(10,.osl 3 seen.length),(42,.ptr 2 0)]) (stY g s seen)=some (.exit 4,[(10,.osl 3 seen.length)],stY g s seen):=by
 rw[k67,stY]
 push_cast
theorem run_step {s:Sho}{seen:List Nat}{j:Nat}(hj:j<(keyP s).length)(hlen:seen.length<100000):∃e2 s2,runC Tryz.prog HH k67 ((44,.bool true)::(43,.tup [.bool true,((keyP s).getD j default).v,.bool true])::[(10,.osl 3 seen.length),(42,.ptr 2 0)]) ⟨4,[],[(3,⟨120,2,(seeP s seen).map Prm.v,true,false⟩)],⟨[(2,.iter 1 (esP (keyP s)).length (seen++[j])),(1,.map (esP (keyP s)))],g,[]⟩⟩=some (.normal,e2,s2)
  ∧ WeakEnv 4 e2 [(10,.osl 3 (seen++[j]).length),(42,.ptr 2 0)]∧Weak 4 s2 (stY g s (seen++[j])):=by
 have he:(esP (keyP s))[j]?=some (((keyP s).getD j default).v,.bool true):=by
  rw[esP,List.getElem?_map,List.getElem?_eq_getElem hj,List.getD_eq_getElem?_getD,List.getElem?_eq_getElem hj];rfl
 have hE:actV .ent [.ptr 2 0] ⟨4,[],[(3,⟨120,2,(seeP s seen).map Prm.v,true,false⟩)],⟨[(2,.iter 1 (esP (keyP s)).length (seen++[j])),(1,.map (esP (keyP s)))],g,[]⟩⟩=some (.tup [((keyP s).getD j default).v,.bool true],⟨4,[],[(3,⟨120,2,(seeP s seen).map Prm.v,true,false⟩)],⟨[(2,.iter 1 (esP (keyP s)).length (seen++[j])),(1,.map (esP (keyP s)))],g,[]⟩⟩):=by
  simp[actV,entV,Sha.look,he]
 have h4:roomV (seen.length+1) 16=true:=roomV_lit (by omega) (by omega)
 have hs:(seeP s seen).length=seen.length:=by simp[seeP]
 have hn:seeP s (seen++[j])=seeP s seen++[(keyP s).getD j default]:=by simp[seeP]
 generalize (keyP s).getD j default=p at *
 refine⟨[(10,.osl 3 (seen.length+1)),(50,.osl 3 (seen.length+1)),(49,.osl 5 1),(48,p.v),(47,.osl 3 seen.length),(11,.ep p.v 0),(11,.ptr 4 0),(46,p.v),(45,.tup [p.v,.bool true]),(10,.osl 3 seen.length),(42,.ptr 2 0)],
  ⟨6,[],[(5,⟨120,2,[p.v],false,false⟩),(3,⟨120,2,(seeP s seen).map Prm.v++[p.v],true,false⟩)],⟨[(2,.iter 1 (keyP s).length (seen++[j])),(1,.map (esP (keyP s)))],g,[]⟩⟩,?_,fun i v hv=>?_,?_⟩
 ·rw[k67]
  push_cast[Prm.v]at hE
  push_cast[hE,Prm.v,h4,hs]
 ·simp only[Sha.look]at hv
  split at hv
  ·rename_i e;subst e;cases hv;exact⟨rfl,by simp[Sha.look]⟩
  ·split at hv
   ·rename_i e;subst e;cases hv;exact⟨rfl,by simp[Sha.look]⟩
   ·cases hv
 ·have e:stY g s (seen++[j])=cutS 4 ⟨6,[],[(5,⟨120,2,[p.v],false,false⟩),(3,⟨120,2,(seeP s seen).map Prm.v++[p.v],true,false⟩)],⟨[(2,.iter 1 (keyP s).length (seen++[j])),(1,.map (esP (keyP s)))],g,[]⟩⟩:=by
   rw[stY,hn]
   simp[cutS,keepL,esP]
  rw[e]
  refine cutS_weak ?_
  push_cast[cutB,belowL,Prm.v,Ob.bd]
def stX (g:List (Nat×Obj))(s:Sho)(seen:List Nat):St:=⟨4,[],[(3,⟨120,2,((seeP s seen).map Prm.v).mergeSort leV,true,false⟩)],⟨[(2,.iter 1 (esP (keyP s)).length seen),(1,.map (esP (keyP s)))],g,[]⟩⟩
theorem ok_prm {p:Prm}(h:(1≤p.chan∧p.chan≤999)∧0≤p.attr∧p.attr≤14):okPV p.v=true:=by
 simp only[Prm.v,okPV,Bool.and_eq_true,decide_eq_true_eq];omega
theorem seeP_perm {s:Sho}{seen:List Nat}(h:seen.Perm (List.range (keyP s).length)):(seeP s seen).Perm (keyP s):=by
 refine(h.map _).trans ?_
 have:(List.range (keyP s).length).map (fun j=>(keyP s).getD j default)=keyP s:=by
  apply List.ext_getElem?
  intro i
  rw[List.getElem?_map]
  by_cases hi:i<(keyP s).length
  ·rw[List.getElem?_range hi,Option.map_some,List.getD_eq_getElem?_getD,List.getElem?_eq_getElem hi];rfl
  ·rw[List.getElem?_eq_none (by simpa using hi),List.getElem?_eq_none (by omega)];rfl
 rw[this]
theorem see_sort {s:Sho}{seen:List Nat}(h:seen.Perm (List.range (keyP s).length)):((seeP s seen).map Prm.v).mergeSort leV=(parP s).map Prm.v:=by
 rw[←List.map_mergeSort (r:=leP) (f:=Prm.v) (fun a _ b _=>by cases a;cases b;rfl),sort_perm (seeP_perm h)];rfl
theorem run_post {s:Sho}(hs:shoC s=0){seen:List Nat}(h:seen.Perm (List.range (keyP s).length)):runC Tryz.prog HH post13 [(10,.osl 3 seen.length)] (stY g s seen)=some (.ret,[(2,.osl 3 seen.length),(3,.int .i64 0)],stX g s seen):=by
 have hp:=seeP_perm h
 have h56:run Tryz.prog HH 126 [.osl 3 seen.length,.fn (.func 127) [] []] (stY g s seen)=some (.ret (.tup []),stX g s seen):=by
  refine run_H ?_
  have hl:=h.length_eq
  have:=keyP_len hs
  rw[List.length_range]at hl
  have hc:((seeP s seen).map Prm.v).length=seen.length∧seen.length≤100000000∧2=2∧true=true∧((seeP s seen).map Prm.v).all okPV=true:=by
   refine⟨by simp[seeP],by omega,rfl,rfl,?_⟩
   rw[List.all_map,List.all_eq_true]
   intro p hpm
   exact ok_prm (keyP_rng hs p (hp.mem_iff.1 hpm))
  show(if((seeP s seen).map Prm.v).length=seen.length∧seen.length≤100000000∧2=2∧true=true∧((seeP s seen).map Prm.v).all okPV=true then _ else _)=_
  rw[if_pos hc];rfl
 rw[post13]
 rw[stY,stX]at *
 push_cast at h56
 push_cast[h56]
theorem mixed:Tryz.prog.follows .mixedOrders=true:=by kernel_rfl
theorem v67 (hH:ESound Tryz.prog HH){s:Sho}(h:s.ok){st:St}:VCalls Tryz.prog 67 [s.v] st (fun x y=>x=.ret (.tup [.sl ((parS s).map Prm.v),.int .i64 (shoC s)])∧y=st):=by
 by_cases hs:shoC s=0
 ·refine VCalls_shutW (by simp) (VCalls_WD F67 (Nat.le_of_ble_eq_true rfl) fun N=>?_)
  show WD _ ⟨N,[]⟩ (pre13.put mid13) (argEnv 0 [s.v]) (stN st.x.gl 0) _
  refine WD.run mixed hH (run_pre h hs) ?_
  show WD _ _ mid13 _ _ _
  refine WD.join (WD.seq (WD.ev mixed hH (x:=.normal) (e:=[(42,.ptr 2 0),(41,.mp 1),(10,.nils),(5,.mp 1)]) (s:=⟨3,[],[],⟨[(2,.iter 1 (esP (keyP s)).length []),(1,.map (esP (keyP s)))],st.x.gl,[]⟩⟩) ?_ ?_))
  ·have hR:actV .rng [.mp 1] ⟨2,[],[],⟨[(1,.map (esP (keyP s)))],st.x.gl,[]⟩⟩=some (.ptr 2 0,⟨3,[],[],⟨[(2,.iter 1 (esP (keyP s)).length []),(1,.map (esP (keyP s)))],st.x.gl,[]⟩⟩):=rfl
   push_cast at hR
   push_cast[hR]
  ·show WD _ _ (.block 4 _) _ _ _
   refine WD.block (WD.ownW rfl ?_)
   show WD _ _ (.loop [10,42] [] (.seq (.reg [⟨some 43,.nxt (.t 42),none⟩,⟨some 44,.ext 0 (.t 43),none⟩]) k67)) _ _ _
   refine WD.rng (it:=2) (mp:=1) (es:=esP (keyP s)) (fun seen e z=>e=[(10,.osl 3 seen.length),(42,.ptr 2 0)]∧z=stY st.x.gl s seen∧seen.length≤20000) 4 (by decide) ?_ ?_ (Nat.le_refl _) ?_ ?_
   ·rintro seen e z ⟨rfl,rfl,_⟩
    exact⟨rfl,rfl,rfl,rfl⟩
   ·refine⟨_,_,⟨rfl,rfl,by simp⟩,fun i v hv=>?_,?_⟩
    ·simp only[Sha.look]at hv
     split at hv
     ·rename_i e;subst e;cases hv;exact⟨rfl,by simp[Sha.look]⟩
     ·split at hv
      ·rename_i e;subst e;cases hv;exact⟨rfl,by simp[Sha.look]⟩
      ·cases hv
    ·have e:stY st.x.gl s []=cutS 4 ⟨4,[],[(3,⟨120,2,[],true,false⟩)],⟨[(2,.iter 1 (esP (keyP s)).length []),(1,.map (esP (keyP s)))],st.x.gl,[]⟩⟩:=rfl
     rw[e]
     refine cutS_weak ?_
     push_cast[cutB,belowL,Prm.v,Ob.bd]
   ·rintro seen e z ⟨rfl,rfl,_⟩ hp
    rw[esP_len]at hp
    refine WD.ev mixed hH run_end ?_
    show WD _ _ post13 [(10,.osl 3 seen.length)] (stY st.x.gl s seen) _
    refine WD.ev mixed hH (run_post hs hp) ⟨.ret (.tup [.osl 3 seen.length,.int .i64 0]),stX st.x.gl s seen,rfl,?_⟩
    have e:=see_sort hp
    have hlen:(parP s).length=seen.length:=by rw[parP,List.length_mergeSort,←(seeP_perm hp).length_eq];simp[seeP]
    rw[stX,parS,if_pos hs,hs,e]
    push_cast[hlen,Prm.v]
   ·rintro seen j e z kv ⟨rfl,rfl,hl⟩ hj hn hlt2
    have:=keyP_len hs
    rw[esP_len]at hlt2
    obtain⟨rfl,hlt⟩:=es_get hj
    obtain⟨e2,s2,a1,a2,a3⟩:=run_step (g:=st.x.gl) (s:=s) (seen:=seen) hlt (by omega)
    exact WD.ev mixed hH a1 ⟨_,_,⟨rfl,rfl,by rw[List.length_append,List.length_singleton];omega⟩,a2,a3⟩
 ·refine(run_sound mixed hH) 67 _ _ _ _ ?_
  have h15:=fun(st:St)=>f37 (st:=st) h
  push_cast[Sho.v,Prm.v]at h15
  rw[run_shut F67 rfl rfl (by simp)]
  push_cast[Sho.v,Prm.v,h15,hs,parS,List.map_nil]
end Go.Proofs.YtdkokbhcjmapdaaGreatDoor

namespace Go.Proofs.YtdkokbhcjmapdaaGreatDoor
open Go.Sha
set_option maxRecDepth 10000
end Go.Proofs.YtdkokbhcjmapdaaGreatDoor

namespace Go.Proofs.YtdkokbhcjmapdaaGreatDoor
open Go.Sha
set_option maxRecDepth 100000
variable {g:List (Nat×Obj)}{n:Nat}
def bsI (c:Nat→Int)(i j:Nat):Nat:=if h:i<j then if c ((i+j) / 2)<0 then bsI c ((i+j) / 2+1) j else bsI c i ((i+j) / 2) else i
termination_by j-i
theorem bsI_ok {c:Nat→Int}{N:Nat}(hm:∀a b,a<b→b<N→c b≤0→c a<0):∀{i j:Nat},i≤j→j≤N→(∀k<i,c k<0)→(∀k,j≤k→k<N→0≤c k)→i≤bsI c i j∧bsI c i j≤j∧(∀k<bsI c i j,c k<0)∧∀k,bsI c i j≤k→k<N→0≤c k:=by
 intro i j
 induction i,j using bsI.induct c with
 |case1 i j h h2 ih =>
  intro hij hj h3 h4
  rw[bsI,dif_pos h,if_pos h2]
  have:=ih (by omega) hj (fun k hk=>by
   rcases Nat.lt_or_ge k ((i+j) / 2) with e|e
   ·exact hm k ((i+j) / 2) e (by omega) (by omega)
   ·rw[show k=(i+j) / 2 by omega];exact h2) h4
  exact⟨by omega,this.2.1,this.2.2.1,this.2.2.2⟩
 |case2 i j h h2 ih =>
  intro hij hj h3 h4
  rw[bsI,dif_pos h,if_neg h2]
  have:=ih (by omega) (by omega) h3 (fun k hk hk2=>by
   rcases Nat.lt_or_ge ((i+j) / 2) k with e|e
   ·apply Classical.byContradiction;intro e2
    exact h2 (hm ((i+j) / 2) k e hk2 (by omega))
   ·rw[show k=(i+j) / 2 by omega];omega)
  exact⟨this.1,by omega,this.2.2.1,this.2.2.2⟩
 |case3 i j h =>
  intro hij hj h3 h4
  rw[bsI,dif_neg h]
  exact⟨Nat.le_refl _,hij,h3,fun k hk hk2=>h4 k (by omega) hk2⟩
theorem bs_find {α:Type}[Inhabited α]{l:List α}{c:α→Int}(hs:l.Pairwise fun a b=>c b≤0→c a<0) :
  let r:=bsI (fun k=>c (l.getD k default)) 0 l.length
  r≤l.length∧(∀x,l.find? (fun x=>decide (c x=0))=some x→r<l.length∧(∀d,l.getD r d=x)∧c x=0)∧(l.find? (fun x=>decide (c x=0))=none→¬(r<l.length∧c (l.getD r default)=0)):=by
 intro r
 have hg:∀k d,k<l.length→l.getD k d∈l∧l[k]?=some (l.getD k d):=fun k d hk=>by
  rw[List.getD_eq_getElem?_getD,List.getElem?_eq_getElem hk];exact⟨List.getElem_mem hk,rfl⟩
 have hm:∀a b,a<b→b<l.length→c (l.getD b default)≤0→c (l.getD a default)<0:=fun a b hab hb h=>by
  have h1:=(hg a default (by omega)).2
  have h2:=(hg b default hb).2
  rw[List.getElem?_eq_getElem (by omega)]at h1 h2
  have:=List.pairwise_iff_getElem.1 hs a b (by omega) hb hab
  rw[Option.some.inj h1,Option.some.inj h2]at this
  exact this h
 obtain⟨_,r1,r2,r3⟩:=bsI_ok (c:=fun k=>c (l.getD k default)) hm (i:=0) (j:=l.length) (by omega) (Nat.le_refl _) (fun k hk=>by omega) (fun k h1 h2=>by omega)
 refine⟨r1,fun x hx=>?_,fun hx h=>?_⟩
 ·have h0:c x=0:=by simpa using List.find?_some hx
  obtain⟨k,hk⟩:=List.mem_iff_getElem?.1 (List.mem_of_find?_eq_some hx)
  have hkl:=(List.getElem?_eq_some_iff.1 hk).1
  have hkx:∀d,l.getD k d=x:=fun d=>by rw[List.getD_eq_getElem?_getD,hk];rfl
  have e1:r≤k:=by
   apply Classical.byContradiction;intro e
   have:=r2 k (by omega);rw[hkx]at this;omega
  have e2:r=k:=by
   apply Classical.byContradiction;intro e
   have a:=hm r k (by omega) hkl (by rw[hkx];omega)
   have b:=r3 r (Nat.le_refl _) (by omega)
   omega
  rw[e2];exact⟨hkl,hkx,h0⟩
 ·have:=List.find?_eq_none.1 hx _ (hg r default h.1).1
  rw[decide_eq_true_eq]at this;exact this h.2
theorem halfI {i j:Nat}(h:i+j<4611686018427387904):IntKind.i64.wrap ((IntKind.u64.wrap (IntKind.i64.wrap ((i:Int)+j))).fdiv (2 ^ min 1 IntKind.u64.bits))=(((i+j) / 2:Nat):Int):=by
 have w1:IntKind.i64.wrap ((i:Int)+j)=((i+j:Nat):Int):=by rw[←Int.natCast_add];exact iwrap (by omega) (by omega)
 have w2:IntKind.u64.wrap ((i+j:Nat):Int)=((i+j:Nat):Int):=by
  unfold IntKind.wrap;simp[IntKind.bits,IntKind.signed];omega
 rw[w1,w2,show(2 ^ min 1 IntKind.u64.bits:Int)=2 from rfl,Int.fdiv_eq_ediv_of_nonneg _ (by omega),show(((i+j:Nat):Int) / 2)=(((i+j) / 2:Nat):Int) by simp]
 exact iwrap (by omega) (by omega)
theorem palsR_all {l:List Pal}:∀{r:List Pal}{j:Nat},l.drop j=r→palsR l r j=0→(∀q∈r,1≤q.num∧q.num≤1048576∧hueLR q.hues=0)∧((l.take j).Pairwise (fun a b=>a.num<b.num)→l.Pairwise fun a b=>a.num<b.num)
 |[],j,hd,_=>by
  have:l.length≤j:=List.drop_eq_nil_iff.1 hd
  rw[List.take_of_length_le this];exact⟨by simp,fun h=>h⟩
 |q::r,j,hd,h=>by
  rw[palsR]at h
  split at h
  ·cases h
  ·rename_i h1
   split at h
   ·cases h
   ·rename_i h2
    split at h
    ·rename_i h3
     obtain⟨a,b⟩:=palsR_all (drop_succ hd) h
     refine⟨fun x hx=>?_,fun hp=>b ?_⟩
     ·rcases List.mem_cons.1 hx with rfl|hx
      ·exact⟨by omega,by omega,h3⟩
      ·exact a x hx
     ·rw[take_snoc hd]
      refine List.pairwise_append.2 ⟨hp,List.pairwise_singleton ..,fun y hy z hz=>?_⟩
      rw[List.mem_singleton.1 hz]
      obtain⟨k,hk⟩:=List.mem_iff_getElem?.1 hy
      have hj:=drop_le hd
      rw[List.getElem?_take]at hk
      split at hk
      ·rename_i hkj
       have e:l.getD (j-1) default=l[j-1]:=by rw[List.getD_eq_getElem?_getD,List.getElem?_eq_getElem (by omega)];rfl
       rw[e]at h2
       rcases Nat.lt_or_ge k (j-1) with hk2|hk2
       ·have hm:=List.pairwise_iff_getElem.1 hp k (j-1) (by simp;omega) (by simp;omega) hk2
        rw[List.getElem_take,List.getElem_take]at hm
        rw[List.getElem?_eq_getElem (by omega)]at hk
        rw[←Option.some.inj hk];omega
       ·have:k=j-1:=by omega
        subst this
        rw[List.getElem?_eq_getElem (by omega)]at hk
        rw[←Option.some.inj hk];omega
      ·cases hk
    ·rename_i h3;exact absurd h h3
end Go.Proofs.YtdkokbhcjmapdaaGreatDoor

namespace Go.Proofs.YtdkokbhcjmapdaaGreatDoor
open Go.Sha
set_option maxRecDepth 100000
variable {g:List (Nat×Obj)}{n:Nat}
theorem find_congr {α:Type}{p q:α→Bool}:∀{l:List α},(∀x∈l,p x=q x)→l.find? p=l.find? q
 |[],_=>rfl
 |x::r,h=>by
  rw[List.find?_cons,List.find?_cons,h x (List.mem_cons_self ..),find_congr (l:=r) fun y hy=>h y (List.mem_cons_of_mem _ hy)]
end Go.Proofs.YtdkokbhcjmapdaaGreatDoor

namespace Go.Proofs.YtdkokbhcjmapdaaGreatDoor
open Go.Sha
set_option maxRecDepth 10000
end Go.Proofs.YtdkokbhcjmapdaaGreatDoor

namespace Go.Proofs.YtdkokbhcjmapdaaGreatDoor
open Go.Sha
set_option maxRecDepth 100000
variable {g:List (Nat×Obj)}{n:Nat}
end Go.Proofs.YtdkokbhcjmapdaaGreatDoor

namespace Go.Proofs.YtdkokbhcjmapdaaGreatDoor
open Go.Sha
set_option maxRecDepth 10000
end Go.Proofs.YtdkokbhcjmapdaaGreatDoor

namespace Go.Proofs.YtdkokbhcjmapdaaGreatDoor
open Go.Sha
set_option maxRecDepth 100000
variable {g:List (Nat×Obj)}{n:Nat}
def theatre:Sho:=⟨[],[],[⟨[115,112,111,116],3,0,[⟨0,8,0,0,0,0,0,255,false,[]⟩,⟨1,16,1,2,0,32768,0,65535,false,[]⟩]⟩],[⟨1,1,[115,112,111,116],1,1,1,[]⟩,⟨2,1,[115,112,111,116],1,4,1,[]⟩],[],[⟨5,[⟨0,1,100⟩]⟩],[⟨7,0,[]⟩],[],[]⟩
end Go.Proofs.YtdkokbhcjmapdaaGreatDoor

namespace Go.Proofs.YtdkokbhcjmapdaaGreatDoor
open Go.Sha
set_option maxRecDepth 100000
def thS:Sho:={ theatre with lsts:=[⟨7,0,[⟨[49],[],[⟨⟨1,0⟩,⟨0,32768⟩,1⟩,⟨⟨2,1⟩,⟨5,0⟩,1⟩],[⟨1500,0,0,0,0,0⟩],false,false,-1,[],0⟩]⟩] }
def hPar:List V→Option VRes
 |[v]=>if V.beq v thS.v=true then some (.ret (.tup [.sl ([⟨1,0⟩,⟨1,1⟩,⟨2,0⟩,⟨2,1⟩].map Prm.v),.int .i64 0])) else none
 |_=>none
def hNoE:List V→Option VRes
 |[v]=>some (.ret v)
 |_=>none
def HK:EvF:=⟨HH.raw,fun f args st=>bif Nat.beq f 178 then(hNoE args).map fun r=>(r,st) else bif Nat.beq f 67 then(hPar args).map fun r=>(r,st) else HH f args st⟩
@[push_cast]theorem HK_raw:HK.raw=[126,80,155,215,216,292,348]:=idq rfl
abbrev Row:Type:=List (List UInt8)
@[reducible] def rowV (r:Row):V:=.sl (r.map .str)
@[reducible] def tabV (l:List Row):V:=.sl (l.map rowV)
end Go.Proofs.YtdkokbhcjmapdaaGreatDoor

namespace Go.Proofs.YtdkokbhcjmapdaaGreatDoor
open Go.Sha
set_option maxRecDepth 10000
def B45_0:Cd:=(.join [0,1,5] (.g [.m 11 5,.m 12 0,.u 13 12,.b 14 .lss 11 13] (.i 14 .skip (.exit [] 0))) (.join [0,1,5] (.block 1 (.q (.dreg 9 [.m 17 0,.m 18 5,.r 19 1 17 18,.l 20 19,.m 21 1,.m 22 5,.r 23 1 21 22,.l 24 23,.b 25 .neq 20 24]) (.i 25 (.g [.k 4 false] (.ret [4])) .skip))) (.reg [.m 15 5,.v 16 .add 15 1,.m 5 16])))
theorem F45:compF Tryz.prog 45=some ⟨26,[.tmp 4],(.g [.k 4 false] (.join [0,1] (.g [.m 6 0,.u 7 6,.m 8 1,.u 9 8,.b 10 .neq 7 9] (.i 10 (.g [.k 4 false] (.ret [4])) .skip)) (.join [] (.g [.c 5 0] (.block 0 (.loop [0,1,5] [] B45_0))) (.g [.k 4 true] (.ret [4])))))⟩:=by kernel_rfl
def B108_0:Cd:=(.g [.b 27 .lss 26 25] (.join [0,3,11,12,13,24,25,26] (.i 27 .skip (.exit [0,3,11,12,13] 2)) (.join [0,3,11,12,13,24,25,26] (.block 3 (.g [.r 28 1 24 26,.l 29 28,.m 7 29] (.g [.m 30 7,.m 31 3,.g' 32 177 30 31,.v 33 .geq 32 0] (.i 33 (.g [.c 2 3] (.ret [2])) .skip)))) (.reg [.v 34 .add 26 1,.m 26 34]))))
end Go.Proofs.YtdkokbhcjmapdaaGreatDoor

namespace Go.Proofs.YtdkokbhcjmapdaaGreatDoor
open Go.Sha
set_option maxRecDepth 100000
variable {g:List (Nat×Obj)}{n:Nat}
theorem f177 {s:List UInt8}{st:St}:run Tryz.prog HK 177 [.str s,.fn (.func 176) [] []] st=some (.ret (.int .i64 (oddI s)),st):=run_H rfl
theorem odd_ge {s:List UInt8}:(0≤oddI s)=¬(s.all plainB=true):=by
 unfold oddI
 rw[eq_iff_iff]
 split
 ·rename_i i h
  obtain⟨hi,h1,_⟩:=List.findIdx?_eq_some_iff_getElem.1 h
  refine⟨fun _ ha=>?_,fun _=>by omega⟩
  rw[List.all_eq_true]at ha
  rw[ha _ (List.getElem_mem hi)]at h1
  simp at h1
 ·rename_i h
  refine⟨fun h=>by omega,fun ha=>absurd ?_ ha⟩
  rw[List.findIdx?_eq_none_iff]at h
  rw[List.all_eq_true]
  intro x hx
  have:=h x hx
  simpa using this
def celE:Row→Int
 |[]=>0
 |s::r=>if s.all plainB=true then celE r else 3
theorem L108_0 {l:List Row}{c:Row}{i:Nat}(hl:c.length<140737488355328):∀r j,c.drop j=r→runL Tryz.prog HK [0,3,11,12,13,24,25,26] n B108_0 [(0,.sl (l.map rowV)),(3,.fn (.func 176) [] []),(11,.sl (l.map rowV)),(12,.int .i64 l.length),(13,.int .i64 i),(24,.sl (c.map .str)),(25,.int .i64 c.length),(26,.int .i64 j)] (stN g n)=lpX 2 (stN g n) [(0,.sl (l.map rowV)),(3,.fn (.func 176) [] []),(11,.sl (l.map rowV)),(12,.int .i64 l.length),(13,.int .i64 i)] 2 (celE r):=by
 refine drop_ind (fun j h=>?_) (fun q r j h hx hd ih=>?_)
 all_goals rw[runL_of B108_0.eq_1]
 ·have h1:¬(j:Int)<c.length:=by omega
  push_cast[h1,celE]
 ·have h1:(j:Int)<c.length:=by omega
  have hw:=iw1 (j:=j) (by omega)
  push_cast[h1,hw,hx,f177,odd_ge,rowV]at ih ⊢
  simp only[ih,celE,lps,Int.reduceEq,not_false_eq_true]
  all_goals first|with_reducible rfl|exact dn_eq (by omega) (by with_reducible rfl)|((repeat' split)<;>(try simp_all)<;>(try (with_reducible refine dn_eq ?_ ?_<;>first|trivial|omega|rfl))<;>(try omega))
theorem L45 {a:Row}(hl:a.length<140737488355328):∀r j,a.drop j=r→runL Tryz.prog HK [0,1,5] n B45_0 [(0,.sl (a.map .str)),(1,.sl (a.map .str)),(5,.int .i64 j)] (stN g n)=some (.exit 0,[],stN g n):=by
 refine drop_ind (fun j h=>?_) (fun q r j h hx hd ih=>?_)
 all_goals rw[runL_of B45_0.eq_1]
 ·have h1:¬(j:Int)<a.length:=by omega
  push_cast[h1]
 ·have h1:(j:Int)<a.length:=by omega
  have hw:=iw1 (j:=j) (by omega)
  push_cast[h1,hw,hx]at ih ⊢
  simp only[ih,lps,Int.reduceEq,not_false_eq_true]
  all_goals first|with_reducible rfl|exact dn_eq (by omega) (by with_reducible rfl)|((repeat' split)<;>(try simp_all)<;>(try (with_reducible refine dn_eq ?_ ?_<;>first|trivial|omega|rfl))<;>(try omega))
theorem f45 {a:Row}(hl:a.length<140737488355328){st:St}:run Tryz.prog HK 45 [.sl (a.map .str),.sl (a.map .str)] st=some (.ret (.bool true),st):=by
 rw[run_shut F45 rfl rfl (by simp)]
 have hL0:=fun n=>L45 (g:=st.x.gl) (n:=n) hl _ 0 rfl
 push_cast at hL0
 push_cast[hL0,lpE,lpX,lpI,lpB]
 all_goals first|with_reducible rfl|exact dn_eq (by omega) (by with_reducible rfl)|((repeat' split)<;>(try simp_all)<;>(try (with_reducible refine dn_eq ?_ ?_<;>first|trivial|omega|rfl))<;>(try omega))
end Go.Proofs.YtdkokbhcjmapdaaGreatDoor

namespace Go.Proofs.YtdkokbhcjmapdaaGreatDoor
open Go.Sha
set_option maxRecDepth 10000
def B28_0:Cd:=(.g [.b 56 .lss 55 54] (.join [3,12,53,54,55] (.i 56 .skip (.exit [3,12] 0)) (.join [3,12,53,54,55] (.block 1 (.g [.r 57 4 53 55,.d 58 4 57,.s 14 (.alloc 144 [.i 0,.i 0,.i 0,.i 0]),.w 4 14 58] (.z [14] (.reg [.m 59 12,.a 60 0 14,.d 61 2 60,.a 62 2 14,.d 63 2 62,.n (.act (.mset (.a [.i,.i])) [.t 59,.t 61,.t 63])])))) (.reg [.v 64 .add 55 1,.m 55 64]))))
def B28_1:Cd:=(.g [.b 79 .lss 78 77] (.join [3,12,16,17,76,77,78] (.i 79 .skip (.exit [16] 2)) (.join [3,12,16,17,76,77,78] (.block 3 (.g [.r 80 2 76 78,.d 81 2 80,.s 19 (.alloc 120 [.i 0,.i 0]),.w 2 19 81] (.z [19] (.join [3,12,16,17,19,76,77,78] (.g [.a 82 0 19,.l 83 82,.m 84 17,.b 85 .neq 83 84] (.i 85 (.g [.m 86 16,.a 87 0 19,.l 88 87,.f 89 33 88,.s 90 (.bslice 9 1 [.t 89,(.w []),(.w [])]),.f 91 31 90,.s 92 (.bslice 59 1 [.t 91]),.s 93 (.append 59 1 24 (.t 86) (.t 92)),.m 16 93] (.reg [.a 94 0 19,.l 95 94,.m 17 95])) .skip)) (.g [.m 97 12,.d 98 2 19,.s 99 (.act (.look (.a [.i,.i]) (.agg [.i 0,.i 0]) true) [.t 97,.t 98]),.m 96 99,.j 100 0 96,.j 101 1 96,.s 20 (.alloc 122 [.i 0,.i 0]),.w 2 20 100,.m 21 101] (.join [3,12,16,17,19,20,76,77,78] (.g [.m 102 21,.z 103 102] (.i 103 (.reg [.s 104 (.build [.i 0,.i 0] [(0,1,(.i (-1)))]),.w 2 20 104]) .skip)) (.g [.d 106 9 3,.d 107 2 19,.d 108 2 20,.s 109 (.f 68 [.t 106,.t 107,.t 108]),.m 105 109,.j 110 0 105,.j 111 1 105,.m 22 110,.m 23 111] (.g [.m 113 22,.f 114 69 113,.m 112 114,.j 115 0 112,.j 116 1 112,.m 24 115,.m 25 116] (.g [.m 117 16,.m 118 16,.u 119 118,.v 120 .sub 119 1,.r 121 1 117 120,.l 122 121,.m 26 122] (.join [3,12,16,17,19,24,26,76,77,78] (.g [.a 123 1 19,.l 124 123,.v 125 .eql 124 0] (.i 125 (.g [.m 126 26,.m 127 24,.s 128 (.iadr 1 (.t 126) (.i 1)),.w 1 128 127] (.exit [3,12,16,17,76,77,78] 3)) .skip)) (.g [.a 130 1 19,.l 131 130,.f 132 70 131,.m 129 132,.j 133 0 129,.j 134 1 129,.m 27 133,.m 28 134] (.join [3,12,16,17,24,26,27,76,77,78] (.g [.m 135 26,.s 136 (.iadr 1 (.t 135) (.i 2)),.l 137 136,.s 138 (.bin .neq (.t 137) (.w []))] (.i 138 (.reg [.m 139 26,.s 140 (.iadr 1 (.t 139) (.i 2)),.l 141 140,.s 142 (.bin .add (.t 141) (.w [44,32])),.s 143 (.iadr 1 (.t 139) (.i 2)),.w 1 143 142]) .skip)) (.reg [.m 144 26,.s 145 (.iadr 1 (.t 144) (.i 2)),.l 146 145,.m 147 27,.s 148 (.bin .add (.t 147) (.w [32])),.m 149 24,.b 150 .add 148 149,.b 151 .add 146 150,.s 152 (.iadr 1 (.t 144) (.i 2)),.w 1 152 151]))))))))))))) (.reg [.v 153 .add 78 1,.m 78 153]))))
theorem F28:compF Tryz.prog 28=some ⟨155,[.tmp 6,.tmp 7],(.g [.q 3 31 0,.s 6 (.mv (.c .nils)),.c 7 0] (.z [3] (.g [.d 30 9 3,.m 31 1,.g' 32 30 30 31,.m 29 32,.j 33 0 29,.j 34 1 29,.s 8 (.alloc 57 [.i 0,.i 0,.nils]),.w 3 8 33,.m 9 34] (.z [8] (.join [2,3,8] (.g [.m 35 9,.v 36 .neq 35 0] (.i 36 (.g [.m 37 9,.s 6 (.mv (.c .nils)),.m 7 37] (.ret [6,7])) .skip)) (.join [2,3,8] (.g [.m 38 2,.f 39 65 38,.m 10 39] (.g [.m 40 10,.v 41 .neq 40 0] (.i 41 (.g [.m 42 10,.s 6 (.mv (.c .nils)),.m 7 42] (.ret [6,7])) .skip))) (.g [.d 44 3 8,.m 45 2,.g' 46 66 44 45,.m 43 46,.j 47 0 43,.j 48 1 43,.m 11 47,.m 9 48] (.join [3,11] (.g [.m 49 9,.v 50 .neq 49 0] (.i 50 (.g [.m 51 9,.s 6 (.mv (.c .nils)),.m 7 51] (.ret [6,7])) .skip)) (.g [.s 52 (.act .mkmap []),.m 12 52] (.join [3,12] (.g [.m 53 11,.u 54 53,.c 55 0] (.block 0 (.loop [3,12,53,54,55] [] B28_0))) (.g [.d 66 9 3,.f 67 67 66,.m 65 67,.j 68 0 65,.j 69 1 65,.m 15 68,.m 9 69] (.join [3,12,15] (.g [.m 70 9,.v 71 .neq 70 0] (.i 71 (.g [.m 72 9,.s 6 (.mv (.c .nils)),.m 7 72] (.ret [6,7])) .skip)) (.g [.s 73 (.bslice 9 1 [(.w [99,104,97,110,110,101,108]),(.w [105,110,116,101,110,115,105,116,121]),(.w [111,116,104,101,114,115])]),.f 74 31 73,.s 75 (.bslice 59 1 [.t 74]),.m 16 75] (.g [.c 17 0] (.join [16] (.g [.m 76 15,.u 77 76,.c 78 0] (.block 2 (.loop [3,12,16,17,76,77,78] [(16,(59,1))] B28_1))) (.g [.m 154 16,.m 6 154,.c 7 0] (.ret [6,7])))))))))))))))))⟩:=by kernel_rfl
theorem F31:compF Tryz.prog 31=some ⟨4,[.tmp 2],(.g [.s 2 (.mv (.c .nils))] (.g [.m 3 0,.m 2 3] (.ret [2])))⟩:=by kernel_rfl
end Go.Proofs.YtdkokbhcjmapdaaGreatDoor

namespace Go.Proofs.YtdkokbhcjmapdaaGreatDoor
open Go.Sha Go.RowKit
set_option maxRecDepth 100000
variable {g:List (Nat×Obj)}{n:Nat}{T:EvF}
theorem callable31:Callable Tryz.prog 31:=⟨_,Tryz.func31,by kernel_rfl,by kernel_rfl⟩
theorem v31 (d:V)(st:St):VCalls Tryz.prog 31 [d] st fun r s=>r=.ret d∧s=st:=by
 refine .inl ⟨callable31,fun w A vs hs hr=>?_⟩
 obtain⟨u,rfl,h1⟩:=hr.one
 have hc:Calls Tryz.prog 31 #[u] w fun e w'=>e=.returned u∧Below w.heap.size w w':=by
  go_enter Tryz.func31,Tryz.ntmps31
  go_wp2
  go_ret
  exact⟨rfl,Below.refl _ _⟩
 refine hc.mono fun e w' ⟨he,hb⟩=>?_
 subst he
 exact⟨.ret d,A,st,⟨rfl,rfl⟩,h1.mono (Ext.below hs hb),hs.below hb,Ext.below hs hb⟩
structure QT (T:EvF):Prop where
 raw:T.raw=[126,80,155,215,216,292,348]
 n55:∀args st,T 31 args st=none
theorem f31 (hT:QT T){l:List V}(hb:V.bdL 0 l=true){st:St}:run Tryz.prog T 31 [.sl l] st=some (.ret (.sl l),st):=by
 rw[run_shut F31 (hT.n55 _ _) rfl (by simpa [V.bdL,V.bd] using hb)]
 push_cast[hb]
def esV (a:List (Prm×Val)):List (V×V):=a.map fun x=>(x.1.v,x.2.v)
def mapF (a:List (Prm×Val))(p:Prm):Option (Nat×Val):=(a.findIdx? fun x=>decide (p=x.1)).map fun i=>(i,(a.getD i default).2)
theorem find_esV {p:Prm}:∀{a:List (Prm×Val)}{i:Nat},findV p.v (esV a) i=some ((mapF a p).map fun x=>(i+x.1,x.2.v))
 |[],i=>rfl
 |q::r,i=>by
  have ih:=find_esV (p:=p) (a:=r) (i:=i+1)
  have e:findV p.v (esV (q::r)) i=match(some (decide (p=q.1)):Option Bool) with
   |some true=>some (some (i,q.2.v))
   |some false=>findV p.v (esV r) (i+1)
   |none=>none:=by rw[←same_prm];rfl
  rw[e]
  by_cases h:p=q.1
  ·simp[h,mapF,List.findIdx?_cons]
  ·simp only[decide_eq_false h,ih,mapF,List.findIdx?_cons]
   cases hr:r.findIdx? fun x=>decide (p=x.1) with
   |none=>simp[hr]
   |some j=>simp[hr];omega
def insMg (a:List (Prm×Val))(x:Prm×Val):List (Prm×Val):=match mapF a x.1 with
 |some (i,_)=>a.set i x
 |none=>a++[x]
theorem mset_esV {st:St}{i:Nat}{a:List (Prm×Val)}{p:Prm}{v:Val}:msetB st i (esV a) p.v v.v (findV p.v (esV a) 0)=some (.und,⟨st.nx,st.mem,st.arr,⟨updO st.x.obj i (.map (esV (insMg a (p,v)))),st.x.gl,st.x.ty⟩⟩):=by
 rw[find_esV,insMg]
 cases mapF a p with
 |none=>simp[msetB,putM,esV]
 |some x=>simp[msetB,putM,esV,List.map_set]
def pre26:Cd:=(.g [.q 3 31 0,.s 6 (.mv (.c .nils)),.c 7 0] (.z [3] (.g [.d 30 9 3,.m 31 1,.g' 32 30 30 31,.m 29 32,.j 33 0 29,.j 34 1 29,.s 8 (.alloc 57 [.i 0,.i 0,.nils]),.w 3 8 33,.m 9 34] (.z [8] (.join [2,3,8] (.g [.m 35 9,.v 36 .neq 35 0] (.i 36 (.g [.m 37 9,.s 6 (.mv (.c .nils)),.m 7 37] (.ret [6,7])) .skip)) (.join [2,3,8] (.g [.m 38 2,.f 39 65 38,.m 10 39] (.g [.m 40 10,.v 41 .neq 40 0] (.i 41 (.g [.m 42 10,.s 6 (.mv (.c .nils)),.m 7 42] (.ret [6,7])) .skip))) (.g [.d 44 3 8,.m 45 2,.g' 46 66 44 45,.m 43 46,.j 47 0 43,.j 48 1 43,.m 11 47,.m 9 48] (.join [3,11] (.g [.m 49 9,.v 50 .neq 49 0] (.i 50 (.g [.m 51 9,.s 6 (.mv (.c .nils)),.m 7 51] (.ret [6,7])) .skip)) (.g [.s 52 (.act .mkmap []),.m 12 52] (.join [3,12] (.g [.m 53 11,.u 54 53,.c 55 0] (.block 0 (.loop [3,12,53,54,55] [] B28_0))) (.g [.d 66 9 3,.f 67 67 66,.m 65 67,.j 68 0 65,.j 69 1 65,.m 15 68,.m 9 69] (.join [3,12,15] (.g [.m 70 9,.v 71 .neq 70 0] (.i 71 (.g [.m 72 9,.s 6 (.mv (.c .nils)),.m 7 72] (.ret [6,7])) .skip)) (.g [.s 73 (.bslice 9 1 [(.w [99,104,97,110,110,101,108]),(.w [105,110,116,101,110,115,105,116,121]),(.w [111,116,104,101,114,115])]),.f 74 31 73,.s 75 (.bslice 59 1 [.t 74]),.m 16 75] (.g [.c 17 0] .skip))))))))))))))
def mid26:Cd:=(.join [16] (.g [.m 76 15,.u 77 76,.c 78 0] (.block 2 (.loop [3,12,16,17,76,77,78] [(16,(59,1))] B28_1))) (.g [.m 154 16,.m 6 154,.c 7 0] (.ret [6,7])))
theorem F28':compF Tryz.prog 28=some ⟨155,[.tmp 6,.tmp 7],pre26.put mid26⟩:=F28
@[reducible] def entV (x:Prm×Val):V:=.agg [.int .i64 x.1.chan,.int .i64 x.1.attr,.int .i64 x.2.pal,.int .i64 x.2.lev]
def stMg (g:List (Nat×Obj))(n:Nat)(a:List (Prm×Val)):St:=⟨n,[],[],⟨[(2,.map (esV a))],g,[]⟩⟩
@[push_cast]theorem stMg_eq {a:List (Prm×Val)}:stMg g n a=⟨n,[],[],⟨[(2,.map (esV a))],g,[]⟩⟩:=idq rfl
@[push_cast]theorem esV_all {a:List (Prm×Val)}:((esV a).all fun p=>p.1.bd n&&p.2.bd n)=true:=by simp[esV,V.bd,V.bdL]
@[push_cast]theorem esV_nil:esV []=[]:=idq rfl
theorem L28_0 {l:List (Prm×Val)}{v3:V}(hl:l.length<140737488355328)(b3:V.bd 3 v3=true):∀r j,l.drop j=r→∀a,
  runL Tryz.prog T [3,12,53,54,55] 3 B28_0 [(3,v3),(12,.mp 2),(53,.sl (l.map entV)),(54,.int .i64 l.length),(55,.int .i64 j)] (stMg g 3 a)
   = some (.exit 0,[(3,v3),(12,.mp 2)],stMg g 3 (r.foldl insMg a)):=by
 refine drop_ind (fun j h a=>?_) (fun q r j h hx hd ih a=>?_)
 all_goals rw[runL_of B28_0.eq_1]
 ·have h1:¬(j:Int)<l.length:=by omega
  push_cast[h1,List.foldl_nil]
 ·have h1:(j:Int)<l.length:=by omega
  have hw:=iw1 (j:=j) (by omega)
  have hm:=fun(st:St) (i:Nat)=>mset_esV (st:=st) (i:=i) (a:=a) (p:=q.1) (v:=q.2)
  have ih:=ih (insMg a q)
  push_cast[Prm.v,Val.v]at hm
  push_cast[h1,hw,hx,List.foldl_cons,b3,hm,entV]at ih ⊢
  exact dn_eq rfl ih
abbrev RunAt (T:EvF)(g:List (Nat×Obj))(k:FuncId)(args:List V)(r:VRes):Prop:=∀nx mem arr obj ty,run Tryz.prog T k args ⟨nx,mem,arr,⟨obj,g,ty⟩⟩=some (r,⟨nx,mem,arr,⟨obj,g,ty⟩⟩)
structure MagH (T:EvF) (g:List (Nat×Obj)) (s:Sho) (lst:Int) (cue:List UInt8) (L:Lst) (lk:List (Prm×Val)) (ps:List Prm):Prop where
 r65:RunAt T g 30 [s.v,.int .i64 lst] (.ret (.tup [L.v,.int .i64 0]))
 r80:RunAt T g 65 [.str cue] (.ret (.int .i64 0))
 r39:RunAt T g 66 [L.v,.str cue] (.ret (.tup [.sl (lk.map entV),.int .i64 0]))
 r40:RunAt T g 67 [s.v] (.ret (.tup [.sl (ps.map Prm.v),.int .i64 0]))
 ll:lk.length<140737488355328
 lp:ps.length<1000000
 q:QT T
abbrev hdM:Row:=[[99,104,97,110,110,101,108],[105,110,116,101,110,115,105,116,121],[111,116,104,101,114,115]]
def stPg (g:List (Nat×Obj))(a:List (Prm×Val)):St:=⟨5,[],[(4,⟨59,1,[rowV hdM],false,false⟩),(3,⟨9,1,hdM.map .str,false,false⟩)],⟨[(2,.map (esV a))],g,[]⟩⟩
theorem run_pre26 {s:Sho}{lst:Int}{cue:List UInt8}{L:Lst}{lk:List (Prm×Val)}{ps:List Prm}(h:MagH T g s lst cue L lk ps):runC Tryz.prog T pre26 (argEnv 0 [s.v,.int .i64 lst,.str cue]) (stN g 0)
  = some (.normal,[(17,.int .i64 0),(16,.osl 4 1),(75,.osl 4 1),(74,rowV hdM),(73,.osl 3 3),(3,.ep s.v 0),(12,.mp 2),(15,.sl (ps.map Prm.v))],stPg g (lk.foldl insMg [])):=by
 have h65:=h.r65
 have h80:=h.r80
 have h39:=h.r39
 have h40:=h.r40
 have h0:=L28_0 (T:=T) (g:=g) (v3:=.ep s.v 0) h.ll (by simp[V.bd,V.bdL,bdL_map']) _ 0 rfl []
 rw[List.drop_zero]at h0
 have h66:=fun(st:St)=>f31 h.q (l:=[.str [99,104,97,110,110,101,108],.str [105,110,116,101,110,115,105,116,121],.str [111,116,104,101,114,115]]) rfl (st:=st)
 rw[pre26]
 push_cast[Sho.v,Lst.v,Prm.v]at h65 h80 h39 h40 h0
 push_cast[h.q.raw,Sho.v,Lst.v,Prm.v,h65,h80,h39,h40,h0,h66,stPg,rowV,List.map_cons,List.map_nil]
end Go.Proofs.YtdkokbhcjmapdaaGreatDoor

namespace Go.Proofs.YtdkokbhcjmapdaaGreatDoor
open Go.Sha Go.RowKit
set_option maxRecDepth 100000
variable {g:List (Nat×Obj)}{n:Nat}{T:EvF}
def Y26:Cd:=(.g [.m 97 12,.d 98 2 19,.s 99 (.act (.look (.a [.i,.i]) (.agg [.i 0,.i 0]) true) [.t 97,.t 98]),.m 96 99,.j 100 0 96,.j 101 1 96,.s 20 (.alloc 122 [.i 0,.i 0]),.w 2 20 100,.m 21 101] (.join [3,12,16,17,19,20,76,77,78] (.g [.m 102 21,.z 103 102] (.i 103 (.reg [.s 104 (.build [.i 0,.i 0] [(0,1,(.i (-1)))]),.w 2 20 104]) .skip)) (.g [.d 106 9 3,.d 107 2 19,.d 108 2 20,.s 109 (.f 68 [.t 106,.t 107,.t 108]),.m 105 109,.j 110 0 105,.j 111 1 105,.m 22 110,.m 23 111] (.g [.m 113 22,.f 114 69 113,.m 112 114,.j 115 0 112,.j 116 1 112,.m 24 115,.m 25 116] (.g [.m 117 16,.m 118 16,.u 119 118,.v 120 .sub 119 1,.r 121 1 117 120,.l 122 121,.m 26 122] (.join [3,12,16,17,19,24,26,76,77,78] (.g [.a 123 1 19,.l 124 123,.v 125 .eql 124 0] (.i 125 (.g [.m 126 26,.m 127 24,.s 128 (.iadr 1 (.t 126) (.i 1)),.w 1 128 127] (.exit [3,12,16,17,76,77,78] 3)) .skip)) (.g [.a 130 1 19,.l 131 130,.f 132 70 131,.m 129 132,.j 133 0 129,.j 134 1 129,.m 27 133,.m 28 134] (.join [3,12,16,17,24,26,27,76,77,78] (.g [.m 135 26,.s 136 (.iadr 1 (.t 135) (.i 2)),.l 137 136,.s 138 (.bin .neq (.t 137) (.w []))] (.i 138 (.reg [.m 139 26,.s 140 (.iadr 1 (.t 139) (.i 2)),.l 141 140,.s 142 (.bin .add (.t 141) (.w [44,32])),.s 143 (.iadr 1 (.t 139) (.i 2)),.w 1 143 142]) .skip)) (.reg [.m 144 26,.s 145 (.iadr 1 (.t 144) (.i 2)),.l 146 145,.m 147 27,.s 148 (.bin .add (.t 147) (.w [32])),.m 149 24,.b 150 .add 148 149,.b 151 .add 146 150,.s 152 (.iadr 1 (.t 144) (.i 2)),.w 1 152 151])))))))))
def valM (a:List (Prm×Val))(p:Prm):Val:=match mapF a p with
 |some (_,v)=>v
 |none=>⟨-1,0⟩
structure ParH (T:EvF) (g:List (Nat×Obj)) (s:Sho) (a:List (Prm×Val)) (p:Prm) (lev:Int) (dig txt wrd:List UInt8):Prop where
 r43:∃e,RunAt T g 68 [s.v,p.v,(valM a p).v] (.ret (.tup [.int .i64 lev,.int .i64 e]))
 r81:∃e,RunAt T g 69 [.int .i64 lev] (.ret (.tup [.str txt,.int .i64 e]))
 r82:∃e,RunAt T g 70 [.int .i64 p.attr] (.ret (.tup [.str wrd,.int .i64 e]))
 r68:RunAt T g 33 [.int .i64 p.chan] (.ret (.str dig))
 lt:txt.length≤1000
 lw:wrd.length≤1000
 q:QT T
def cell2 (t wrd txt:List UInt8):List UInt8:=if t=[] then wrd++32::txt else t++44::32::(wrd++32::txt)
def rowM (p:Prm)(c i t wrd txt:List UInt8):Row:=if p.attr=0 then[c,txt,t] else[c,i,cell2 t wrd txt]
theorem run_Y {s:Sho}{a:List (Prm×Val)}{p:Prm}{lev:Int}{dig txt wrd c i t:List UInt8}{N rid k:Nat}{last:Int}{X:List V}{v76 v77 v54:V}(h:ParH T g s a p lev dig txt wrd)(hr:rid≠4)(hX:X.length=k+1)(hk:k<100000)(hg:X.getD k .und=.osl rid 3)(ht:t.length≤10000000000) :
  ∃x e' m',runC Tryz.prog T Y26 [(3,.ep s.v 0),(12,.mp 2),(16,.osl 4 (k+1)),(17,.int .i64 last),(19,.ep p.v 0),(76,v76),(77,v77),(78,v54)] ⟨N,[],[(rid,⟨9,1,[.str c,.str i,.str t],true,false⟩),(4,⟨59,1,X,false,false⟩)],⟨[(2,.map (esV a))],g,[]⟩⟩
   = some (x,e',⟨N+1,[(N,m')],[(rid,⟨9,1,(rowM p c i t wrd txt).map .str,true,false⟩),(4,⟨59,1,X,false,false⟩)],⟨[(2,.map (esV a))],g,[]⟩⟩)∧(x=.normal∨x=.exit 3)∧V.bdL (N+1) m'=true ∧
   restr [3,12,16,17,76,77,78] e'=[(3,.ep s.v 0),(12,.mp 2),(16,.osl 4 (k+1)),(17,.int .i64 last),(76,v76),(77,v77),(78,v54)]:=by
 obtain⟨e43,h43⟩:=h.r43
 obtain⟨e81,h81⟩:=h.r81
 obtain⟨e82,h82⟩:=h.r82
 have hlt:=h.lt
 have hlw:=h.lw
 have hr':¬4=rid:=fun e=>hr e.symm
 have hw:IntKind.i64.wrap ((k:Int)+1-1)=(k:Int):=by rw[iwrap (by omega) (by omega)];omega
 have hkl:(k:Int)<k+1:=by omega
 have hf:=find_esV (p:=p) (a:=a) (i:=0)
 have hkv:keyV (KT.a [Kd.i,Kd.i]) (.agg [.int .i64 p.chan,.int .i64 p.attr])=true:=rfl
 generalize hz:runC Tryz.prog T Y26 _ _=z
 rw[Y26]at hz
 unfold valM at h43
 cases hm:mapF a p with
 |none =>
  rw[hm]at h43 hf
  simp only[Option.map_none]at hf h43
  by_cases ha:p.attr=0
  ·push_cast[Sho.v,Prm.v,Val.v,ha]at h43 h81 h82 hf hkv
   push_cast[h.q.raw,Sho.v,Prm.v,Val.v,h43,h81,h82,hr,hr',hX,hw,hkl,hg,hf,ha,hkv,List.set_cons_succ,List.set_cons_zero]at hz
   subst hz
   exact⟨_,_,_,by rw[rowM,if_pos ha];rfl,.inr rfl,rfl,rfl⟩
  ·push_cast[Sho.v,Prm.v,Val.v]at h43 h81 h82 hf
   by_cases h0:t=[]
   ·push_cast[h.q.raw,Sho.v,Prm.v,Val.v,h43,h81,h82,hr,hr',hX,hw,hkl,hg,hf,ha,hkv,h0,List.set_cons_succ,List.set_cons_zero]at hz
    have hz:=(dn_eq (by omega) rfl).symm.trans hz
    subst hz
    exact⟨_,_,_,by rw[rowM,if_neg ha,cell2,if_pos h0];rfl,.inl rfl,rfl,rfl⟩
   ·push_cast[h.q.raw,Sho.v,Prm.v,Val.v,h43,h81,h82,hr,hr',hX,hw,hkl,hg,hf,ha,hkv,h0,List.set_cons_succ,List.set_cons_zero,List.length_cons,List.length_nil,List.getD_cons_succ,List.getD_cons_zero,V.cells]at hz
    have hz:=(dn_eq (by omega) rfl).symm.trans hz
    subst hz
    exact⟨_,_,_,by rw[rowM,if_neg ha,cell2,if_neg h0];rfl,.inl rfl,rfl,rfl⟩
 |some x =>
  obtain⟨j,v⟩:=x
  rw[hm]at h43 hf
  simp only[Option.map_some]at hf h43
  by_cases ha:p.attr=0
  ·push_cast[Sho.v,Prm.v,Val.v,ha]at h43 h81 h82 hf hkv
   push_cast[h.q.raw,Sho.v,Prm.v,Val.v,h43,h81,h82,hr,hr',hX,hw,hkl,hg,hf,ha,hkv,List.set_cons_succ,List.set_cons_zero]at hz
   subst hz
   exact⟨_,_,_,by rw[rowM,if_pos ha];rfl,.inr rfl,rfl,rfl⟩
  ·push_cast[Sho.v,Prm.v,Val.v]at h43 h81 h82 hf
   by_cases h0:t=[]
   ·push_cast[h.q.raw,Sho.v,Prm.v,Val.v,h43,h81,h82,hr,hr',hX,hw,hkl,hg,hf,ha,hkv,h0,List.set_cons_succ,List.set_cons_zero]at hz
    have hz:=(dn_eq (by omega) rfl).symm.trans hz
    subst hz
    exact⟨_,_,_,by rw[rowM,if_neg ha,cell2,if_pos h0];rfl,.inl rfl,rfl,rfl⟩
   ·push_cast[h.q.raw,Sho.v,Prm.v,Val.v,h43,h81,h82,hr,hr',hX,hw,hkl,hg,hf,ha,hkv,h0,List.set_cons_succ,List.set_cons_zero,List.length_cons,List.length_nil,List.getD_cons_succ,List.getD_cons_zero,V.cells]at hz
    have hz:=(dn_eq (by omega) rfl).symm.trans hz
    subst hz
    exact⟨_,_,_,by rw[rowM,if_neg ha,cell2,if_neg h0];rfl,.inl rfl,rfl,rfl⟩
end Go.Proofs.YtdkokbhcjmapdaaGreatDoor

namespace Go.Proofs.YtdkokbhcjmapdaaGreatDoor
open Go.Sha Go.RowKit
set_option maxRecDepth 100000
variable {g:List (Nat×Obj)}{n:Nat}{T:EvF}
def dIns:List Ins:=[.m 86 16,.a 87 0 19,.l 88 87,.f 89 33 88,.s 90 (.bslice 9 1 [.t 89,(.w []),(.w [])]),.f 91 31 90,.s 92 (.bslice 59 1 [.t 91]),.s 93 (.append 59 1 24 (.t 86) (.t 92)),.m 16 93]
def D26:Cd:=.g dIns (.reg [.a 94 0 19,.l 95 94,.m 17 95])
def C26:Cd:=.g [.a 82 0 19,.l 83 82,.m 84 17,.b 85 .neq 83 84] (.i 85 D26 .skip)
abbrev eL (s:Sho)(k:Nat)(last:Int)(p:Prm)(v76 v77 v54:V):Env:=[(3,.ep s.v 0),(12,.mp 2),(16,.osl 4 k),(17,.int .i64 last),(19,.ep p.v 0),(76,v76),(77,v77),(78,v54)]
abbrev L2:List Nat:=[3,12,16,17,19,76,77,78]
theorem newRow {F:Fr}{s:Sho}{a:List (Prm×Val)}{p:Prm}{dig:List UInt8}{N k:Nat}{last:Int}{X:List V}{v76 v77 v54:V}{Q:Post}(hH:ESound Tryz.prog T)(h68:RunAt T g 33 [.int .i64 p.chan] (.ret (.str dig)))(hN:4<N)(hX:X.length=k)(hXc:∀x∈X,x.cells.length=1)(hk:k<100000)
  (hq:∀e:Env,Sha.look e 16=some (.osl 4 (k+1))→(∀i,i∈[3,12,17,19,76,77,78]→Sha.look e i=Sha.look (eL s k last p v76 v77 v54) i)→Q .normal e ⟨N+2,[],[(N+1,⟨59,1,[.osl N 3],false,false⟩),(N,⟨9,1,[.str dig,.str [],.str []],true,false⟩),(4,⟨59,1,X++[.osl N 3],false,false⟩)],⟨[(2,.map (esV a))],g,[]⟩⟩) :
  WD Tryz.prog F (.reg dIns) (eL s k last p v76 v77 v54) ⟨N,[],[(4,⟨59,1,X,false,false⟩)],⟨[(2,.map (esV a))],g,[]⟩⟩ Q:=by
 refine WD.regR [none,none,none,none,some true,none,some false,some true,none] ?_
 have hn1:¬N=4:=by omega
 have hn2:¬N+1=4:=by omega
 have hn3:¬N=N+1:=by omega
 have hroom:roomV (k+1) 24=true:=by
  have h1:k+1≤maxLen:=by unfold maxLen;omega
  have h2:(k+1)*24≤140737488355328:=by omega
  unfold roomV
  rw[decide_eq_true h1,decide_eq_true h2];rfl
 rw[dIns]
 refine vcR_op rfl (v:=.osl 4 k) rfl ?_
 refine vcR_op rfl (v:=.ep p.v 0) rfl ?_
 refine vcR_op rfl (v:=.int .i64 p.chan) rfl ?_
 refine vcR_call ?_
 show VCalls Tryz.prog 33 [.int .i64 p.chan] _ _
 refine(run_sound mixed hH 33 _ _ _ _ (h68 _ _ _ _ _)).mono ?_
 rintro _ _ ⟨rfl,rfl⟩
 refine vcR_raw true (v:=.osl N 3) (st':=⟨N+1,[],[(N,⟨9,1,[.str dig,.str [],.str []],true,false⟩),(4,⟨59,1,X,false,false⟩)],⟨[(2,.map (esV a))],g,[]⟩⟩) rfl ?_
 refine vcR_call ?_
 show VCalls Tryz.prog 31 [.osl N 3] _ _
 refine(v31 _ _).mono ?_
 rintro _ _ ⟨rfl,rfl⟩
 refine vcR_raw false (v:=.osl (N+1) 1) (st':=⟨N+2,[],[(N+1,⟨59,1,[.osl N 3],false,false⟩),(N,⟨9,1,[.str dig,.str [],.str []],true,false⟩),(4,⟨59,1,X,false,false⟩)],⟨[(2,.map (esV a))],g,[]⟩⟩) ?_ ?_
 ·simp[Sha.stR,bslR,Opd.get,setD,Sha.look,partOk,V.cells,newArr]
 refine vcR_raw true (v:=.osl 4 (k+1)) (st':=⟨N+2,[],[(N+1,⟨59,1,[.osl N 3],false,false⟩),(N,⟨9,1,[.str dig,.str [],.str []],true,false⟩),(4,⟨59,1,X++[.osl N 3],false,false⟩)],⟨[(2,.map (esV a))],g,[]⟩⟩) ?_ ?_
 ·have hX':X.length=k:=hX
  simp[Sha.stR,appR,Opd.get,setD,Sha.look,V.cells,elemsV,appG,appA,hn1,hn2,hn3,updA,hroom,hX']
 refine vcR_op rfl (v:=.osl 4 (k+1)) rfl ?_
 refine hq _ rfl (fun i hi=>?_)
 simp only[List.mem_cons,List.not_mem_nil,or_false]at hi
 rcases hi with rfl|rfl|rfl|rfl|rfl|rfl|rfl<;>rfl
end Go.Proofs.YtdkokbhcjmapdaaGreatDoor

namespace Go.Proofs.YtdkokbhcjmapdaaGreatDoor
open Go.Sha Go.RowKit
set_option maxRecDepth 100000
variable {g:List (Nat×Obj)}{n:Nat}{T:EvF}
abbrev Trip:Type:=List UInt8×List UInt8×List UInt8
structure Sht where
 cl:List Row
 op:Option Trip
 last:Int
def Trip.row (r:Trip):Row:=[r.1,r.2.1,r.2.2]
def Sht.rows (x:Sht):List Row:=x.cl++(match x.op with|none=>[]|some r=>[Trip.row r])
def rowT (p:Prm)(r:Trip)(wrd txt:List UInt8):Trip:=if p.attr=0 then(r.1,txt,r.2.2) else(r.1,r.2.1,cell2 r.2.2 wrd txt)
theorem rowM_T {p:Prm}{r:Trip}{wrd txt:List UInt8}:rowM p r.1 r.2.1 r.2.2 wrd txt=Trip.row (rowT p r wrd txt):=by
 unfold rowM rowT Trip.row;split<;>rfl
def openM (dig:List UInt8)(x:Sht)(p:Prm):Sht:=if p.chan=x.last then x else⟨x.rows,some (dig,[],[]),p.chan⟩
def Sht.len (x:Sht):Nat:=x.rows.length
def arrS (rid:Nat)(x:Sht):List (Nat×Arr):=match x.op with
 |none=>[(4,⟨59,1,x.cl.map rowV,false,false⟩)]
 |some r=>[(rid,⟨9,1,[.str r.1,.str r.2.1,.str r.2.2],true,false⟩),(4,⟨59,1,x.cl.map rowV++[.osl rid 3],false,false⟩)]
def stSh (g:List (Nat×Obj))(a:List (Prm×Val))(N rid:Nat)(x:Sht):St:=⟨N,[],arrS rid x,⟨[(2,.map (esV a))],g,[]⟩⟩
theorem sho_bd {s:Sho}:V.bd n (.ep s.v 0)=true:=by simp[V.bd,V.bdL,bdL_map']
theorem weL {e:Env}{s:Sho}{k N:Nat}{last:Int}{p:Prm}{v76 v77 v54:V}(hN:4<N)(b1:V.bd N v76=true)(b2:V.bd N v77=true)(b3:V.bd N v54=true)(h:∀i,i∈L2→Sha.look e i=Sha.look (eL s k last p v76 v77 v54) i):WeakEnv N e (eL s k last p v76 v77 v54):=by
 intro i v hv
 have hi:i∈L2:=by
  simp only[Sha.look]at hv
  (repeat' split at hv)<;>first|(cases hv;done)|(rename_i e;rw[←e];simp)
 refine⟨?_,(h i hi).trans hv⟩
 simp only[Sha.look]at hv
 (repeat' split at hv)<;>first
  |(cases hv;done)
  |(cases hv;first|exact sho_bd|assumption|(simp[V.bd];done)|(simp[V.bd];omega))
theorem map_bd {a:List (Prm×Val)}:(Ob.map (esV a)).bd n=true:=esV_all
theorem rowsV_bd {l:List Row}:V.bdL n (l.map rowV)=true:=by rw[bdL_map'];simp[V.bd,bdL_map']
theorem str3_bd {r:Trip}:V.bdL n [.str r.1,.str r.2.1,.str r.2.2]=true:=by simp[V.bdL,V.bd]
theorem weak4 {g:List (Nat×Obj)}{a:List (Prm×Val)}{N:Nat}{A:List (Nat×Arr)}{X:List V}(hN:4<N)(hA:Sha.look A 4=some ⟨59,1,X,false,false⟩)(hb:V.bdL N X=true):Weak N ⟨N,[],A,⟨[(2,.map (esV a))],g,[]⟩⟩ ⟨N,[],[(4,⟨59,1,X,false,false⟩)],⟨[(2,.map (esV a))],g,[]⟩⟩ where
 nx:=rfl
 le:=Nat.le_refl _
 mem id cs h:=by cases h
 arr id ar h:=by
  simp only[Sha.look]at h
  split at h
  ·rename_i e;subst e;cases h;exact⟨hN,hA⟩
  ·cases h
 bdm id cs h:=by cases h
 bda id ar h:=by
  simp only[Sha.look]at h
  split at h
  ·cases h;exact hb
  ·cases h
 x:=by
  refine⟨fun id o h=>?_,rfl,fun id T h=>by cases h⟩
  simp only[Sha.look]at h
  split at h
  ·rename_i e;subst e;cases h;exact⟨by show 2<N;omega,rfl⟩
  ·cases h
 bdx id o h:=by
  simp only[Sha.look]at h
  split at h
  ·cases h;exact map_bd
  ·cases h
theorem weak5 {g:List (Nat×Obj)}{a:List (Prm×Val)}{N rid:Nat}{A:List (Nat×Arr)}{M:List (Nat×List V)}{Y X:List V}(hN:4<N)(hr:rid<N)(hA:Sha.look A 4=some ⟨59,1,X,false,false⟩)(hR:Sha.look A rid=some ⟨9,1,Y,true,false⟩)(hb:V.bdL N X=true)(hb2:V.bdL N Y=true):Weak N ⟨N,M,A,⟨[(2,.map (esV a))],g,[]⟩⟩ ⟨N,[],[(rid,⟨9,1,Y,true,false⟩),(4,⟨59,1,X,false,false⟩)],⟨[(2,.map (esV a))],g,[]⟩⟩ where
 nx:=rfl
 le:=Nat.le_refl _
 mem id cs h:=by cases h
 arr id ar h:=by
  simp only[Sha.look]at h
  split at h
  ·rename_i e;subst e;cases h;exact⟨hr,hR⟩
  ·split at h
   ·rename_i e;subst e;cases h;exact⟨hN,hA⟩
   ·cases h
 bdm id cs h:=by cases h
 bda id ar h:=by
  simp only[Sha.look]at h
  split at h
  ·cases h;exact hb2
  ·split at h
   ·cases h;exact hb
   ·cases h
 x:=by
  refine⟨fun id o h=>?_,rfl,fun id T h=>by cases h⟩
  simp only[Sha.look]at h
  split at h
  ·rename_i e;subst e;cases h;exact⟨by show 2<N;omega,rfl⟩
  ·cases h
 bdx id o h:=by
  simp only[Sha.look]at h
  split at h
  ·cases h;exact map_bd
  ·cases h
theorem closeRow {F:Fr}{c:Cd}{e e':Env}{a:List (Prm×Val)}{N rid:Nat}{x:Sht}{Q:Post}(hr:rid≠4)(hN:4<N)(hrN:rid<N)(he:WeakEnv N e e')(k:WD Tryz.prog F c e' ⟨N,[],[(4,⟨59,1,x.rows.map rowV,false,false⟩)],⟨[(2,.map (esV a))],g,[]⟩⟩ Q):WD Tryz.prog F c e (stSh g a N rid x) Q:=by
 unfold stSh arrS
 unfold Sht.rows at k
 cases hx:x.op with
 |none =>
  rw[hx]at k
  simp only[List.append_nil]at k
  exact WD.weak (Nat.le_refl _) (weak4 hN (by simp[Sha.look]) rowsV_bd) he k
 |some r =>
  rw[hx]at k
  have hr':¬4=rid:=fun e=>hr e.symm
  refine WD.freeze (id:=rid) (ar:=⟨9,1,[.str r.1,.str r.2.1,.str r.2.2],true,false⟩) (by simp[Sha.look]) ?_
  refine WD.snapEl (o:=4) (j:=x.cl.length) (x:=.osl rid 3) (y:=.sl [.str r.1,.str r.2.1,.str r.2.2]) (ro:=⟨59,1,x.cl.map rowV++[.osl rid 3],false,false⟩) (by simp[updA,Sha.look,hr,hr']) (by simp) (by simp[snapA_osl,updA,Sha.look,snapO]) ?_
  refine WD.weak (Nat.le_refl _) (weak4 (X:=(x.cl++[Trip.row r]).map rowV) hN ?_ rowsV_bd) he k
  simp[updA,Sha.look,hr,hr',List.set_append,Trip.row]
end Go.Proofs.YtdkokbhcjmapdaaGreatDoor

namespace Go.Proofs.YtdkokbhcjmapdaaGreatDoor
open Go.Sha Go.RowKit
set_option maxRecDepth 100000
variable {g:List (Nat×Obj)}{n:Nat}{T:EvF}
theorem len_some {x:Sht}{r:Trip}(h:x.op=some r):x.rows=x.cl++[Trip.row r]:=by rw[Sht.rows,h]
theorem WD_C {F:Fr}{s:Sho}{a:List (Prm×Val)}{p:Prm}{dig:List UInt8}{N rid:Nat}{x:Sht}{v76 v77 v54:V}{Q:Post}(hH:ESound Tryz.prog T)(h68:RunAt T g 33 [.int .i64 p.chan] (.ret (.str dig)))(hN:4<N)(hr:4<rid)(hrN:rid<N)(hx:x.rows.length<100000)
  (b1:∀n,V.bd n v76=true) (b2:∀n,V.bd n v77=true) (b3:∀n,V.bd n v54=true)
  (hq:∀e N' rid',restr L2 e=eL s (openM dig x p).rows.length p.chan p v76 v77 v54→4<rid'→rid'<N'→N≤N'→Q .normal e (stSh g a N' rid' (openM dig x p))) :
  WD Tryz.prog F C26 (eL s x.rows.length x.last p v76 v77 v54) (stSh g a N rid x) Q:=by
 have hrun:∀st:St,runC Tryz.prog T (.reg [.a 82 0 19,.l 83 82,.m 84 17,.b 85 .neq 83 84]) (eL s x.rows.length x.last p v76 v77 v54) st=some (.normal,(85,.bool (p.chan != x.last))::(84,.int .i64 x.last)::(83,.int .i64 p.chan)::(82,.ep p.v 0)::eL s x.rows.length x.last p v76 v77 v54,st):=fun st=>by
  push_cast[Prm.v]
 refine WD.seq (WD.ev mixed hH (hrun _) ?_)
 show WD _ _ (.i 85 D26 .skip) _ _ _
 by_cases hc:p.chan=x.last
 ·have e1:openM dig x p=x:=by rw[openM,if_pos hc]
  rw[e1]at hq
  refine WD.cond (t:=false) (by simp[Opd.get,Sha.look,hc]) (fun h=>by cases h) (fun _=>?_)
  refine WD.ev mixed hH (x:=.normal) (e:=(85,.bool (p.chan != x.last))::(84,.int .i64 x.last)::(83,.int .i64 p.chan)::(82,.ep p.v 0)::eL s x.rows.length x.last p v76 v77 v54) (s:=stSh g a N rid x) (by push_cast) ?_
  refine hq _ _ _ ?_ hr hrN (Nat.le_refl _)
  rw[hc];rfl
 ·have e1:openM dig x p=⟨x.rows,some (dig,[],[]),p.chan⟩:=by rw[openM,if_neg hc]
  rw[e1]at hq
  refine WD.cond (t:=true) (by simp[Opd.get,Sha.look,hc]) (fun _=>?_) (fun h=>by cases h)
  refine closeRow (e':=eL s x.rows.length x.last p v76 v77 v54) (by omega) hN hrN (weL hN (b1 _) (b2 _) (b3 _) (fun i hi=>?_)) ?_
  ·simp only[List.mem_cons,List.not_mem_nil,or_false]at hi
   rcases hi with rfl|rfl|rfl|rfl|rfl|rfl|rfl|rfl<;>rfl
  refine WD.seq (newRow hH h68 hN (by simp) (fun y hy=>by obtain⟨r,_,rfl⟩:=List.mem_map.1 hy;rfl) hx (fun e h16 ho=>?_))
  show WD _ _ (.reg [.a 94 0 19,.l 95 94,.m 17 95]) _ _ _
  have hn1:¬N=4:=by omega
  have hn3:¬N=3:=by omega
  have hn2:¬N+1=4:=by omega
  refine WD.weak (n:=N+2) (env':=eL s (x.rows.length+1) x.last p v76 v77 v54) (Nat.le_refl _) (weak5 (N:=N+2) (rid:=N) (X:=x.rows.map rowV++[.osl N 3]) (Y:=[.str dig,.str [],.str []]) (by omega) (by omega) (by simp[Sha.look,hn1,hn2,hn3]) (by simp[Sha.look]) ?_ (by simp[V.bdL,V.bd])) (weL (by omega) (b1 _) (b2 _) (b3 _) (fun i hi=>?_)) ?_
  ·rw[bdL_append,rowsV_bd];simp[V.bdL,V.bd]
  ·simp only[List.mem_cons,List.not_mem_nil,or_false]at hi
   rcases hi with rfl|rfl|rfl|rfl|rfl|rfl|rfl|rfl<;>first|exact h16|exact ho _ (by simp)
  refine WD.ev mixed hH (x:=.normal) (e:=(17,.int .i64 p.chan)::(95,.int .i64 p.chan)::(94,.ep p.v 0)::eL s (x.rows.length+1) x.last p v76 v77 v54) (s:=⟨N+2,[],[(N,⟨9,1,[.str dig,.str [],.str []],true,false⟩),(4,⟨59,1,x.rows.map rowV++[.osl N 3],false,false⟩)],⟨[(2,.map (esV a))],g,[]⟩⟩) (by push_cast[Prm.v]) ?_
  refine hq _ (N+2) N ?_ hN (by omega) (by omega)
  simp only[Sht.rows,List.length_append,List.length_cons,List.length_nil]
  rfl
abbrev L1:List Nat:=[3,12,16,17,76,77,78]
def X26:Cd:=.g [.r 80 2 76 78,.d 81 2 80,.s 19 (.alloc 120 [.i 0,.i 0]),.w 2 19 81] (.z [19] (.join L2 C26 Y26))
theorem B26_eq:B28_1=.g [.b 79 .lss 78 77] (.join L1 (.i 79 .skip (.exit [16] 2)) (.join L1 (.block 3 X26) (.reg [.v 153 .add 78 1,.m 78 153]))):=rfl
abbrev eH (s:Sho)(ps:List Prm)(k:Nat)(last:Int)(j:Nat):Env:=[(3,.ep s.v 0),(12,.mp 2),(16,.osl 4 k),(17,.int .i64 last),(76,.sl (ps.map Prm.v)),(77,.int .i64 ps.length),(78,.int .i64 j)]
def stpM (dig wrd txt:Prm→List UInt8)(x:Sht)(p:Prm):Sht:=⟨(openM (dig p) x p).cl,(openM (dig p) x p).op.map fun r=>rowT p r (wrd p) (txt p),p.chan⟩
theorem prms_bd {ps:List Prm}:V.bd n (.sl (ps.map Prm.v))=true:=by simp[V.bd,bdL_map',V.bdL]
theorem weH {e:Env}{s:Sho}{ps:List Prm}{k N j:Nat}{last:Int}(hN:4<N)(h:∀i,i∈L1→Sha.look e i=Sha.look (eH s ps k last j) i):WeakEnv N e (eH s ps k last j):=by
 intro i v hv
 have hi:i∈L1:=by
  simp only[Sha.look]at hv
  (repeat' split at hv)<;>first|(cases hv;done)|(rename_i e;rw[←e];simp)
 refine⟨?_,(h i hi).trans hv⟩
 simp only[Sha.look]at hv
 (repeat' split at hv)<;>first
  |(cases hv;done)
  |(cases hv;first|exact sho_bd|exact prms_bd|(simp[V.bd];done)|(simp[V.bd];omega))
theorem open_some {s:Sht}{p:Prm}{dig:List UInt8}(h0:s.op=none→s.last=0)(hc:p.chan≠0):∃r,(openM dig s p).op=some r:=by
 unfold openM
 split
 ·rename_i h
  cases hs:s.op with
  |none=>exact absurd (h.trans (h0 hs)) hc
  |some r=>exact⟨r,rfl⟩
 ·exact⟨_,rfl⟩
theorem stSh_none {a:List (Prm×Val)}{N r r':Nat}{x:Sht}(h:x.op=none):stSh g a N r x=stSh g a N r' x:=by simp only[stSh,arrS,h]
theorem WD_round {F:Fr}{s:Sho}{a:List (Prm×Val)}{ps:List Prm}{p:Prm}{lev:Int}{dig wrd txt:List UInt8}{N rid j:Nat}{x:Sht}{Q:Post}(hH:ESound Tryz.prog T)(hP:ParH T g s a p lev dig txt wrd)(hc0:p.chan≠0)(hN:4<N)(hr:x.op≠none→4<rid∧rid<N)(h0:x.op=none→x.last=0)
  (hj:j<ps.length) (hp:∀d,ps.getD j d=p) (hlp:ps.length≤50000) (hxl:x.rows.length≤j+1) (ht:∀r,x.op=some r→r.2.2.length≤j*3000)
  (hq:∀(r:Trip) (e:Env) (N' rid':Nat) m',(openM dig x p).op=some r→4<rid'→rid'<N'→(∀i,i∈L1→Sha.look e i=Sha.look (eH s ps (openM dig x p).rows.length p.chan (j+1)) i)→V.bdL (N'+1) m'=true →
   Q .normal e ⟨N'+1,[(N',m')],arrS rid' ⟨(openM dig x p).cl,some (rowT p r wrd txt),p.chan⟩,⟨[(2,.map (esV a))],g,[]⟩⟩) :
  WD Tryz.prog F B28_1 (eH s ps x.rows.length x.last j) (stSh g a N rid x) Q:=by
 rw[B26_eq]
 have hjl:(j:Int)<ps.length:=by omega
 have hrun:runC Tryz.prog T (.g [.b 79 .lss 78 77] (.join L1 (.i 79 .skip (.exit [16] 2)) .skip)) (eH s ps x.rows.length x.last j) (stSh g a N rid x)=some (.normal,eH s ps x.rows.length x.last j,stSh g a N rid x):=by
  push_cast[hjl]
 show WD _ _ (Cd.put (.g [.b 79 .lss 78 77] (.join L1 (.i 79 .skip (.exit [16] 2)) .skip)) (.join L1 (.block 3 X26) (.reg [.v 153 .add 78 1,.m 78 153]))) _ _ _
 refine WD.run mixed hH hrun (WD.join (WD.block ?_))
 have hrun2:∃e,runC Tryz.prog T (.g [.r 80 2 76 78,.d 81 2 80,.s 19 (.alloc 120 [.i 0,.i 0]),.w 2 19 81] (.z [19] .skip)) (eH s ps x.rows.length x.last j) (stSh g a N rid x)=some (.normal,e,stSh g a (N+1) rid x)∧∀i,i∈L2→Sha.look e i=Sha.look (eL s x.rows.length x.last p (.sl (ps.map Prm.v)) (.int .i64 ps.length) (.int .i64 j)) i:=by
  generalize hz:runC Tryz.prog T _ _ (stSh g a N rid x)=z
  unfold stSh at hz
  push_cast[hjl,hp,Prm.v]at hz
  subst hz
  refine⟨_,rfl,fun i hi=>?_⟩
  simp only[List.mem_cons,List.not_mem_nil,or_false]at hi
  rcases hi with rfl|rfl|rfl|rfl|rfl|rfl|rfl|rfl<;>rfl
 obtain⟨e2,hrun2,he2⟩:=hrun2
 show WD _ _ (Cd.put (.g [.r 80 2 76 78,.d 81 2 80,.s 19 (.alloc 120 [.i 0,.i 0]),.w 2 19 81] (.z [19] .skip)) (.join L2 C26 Y26)) _ _ _
 refine WD.run mixed hH hrun2 (WD.join ?_)
 refine WD.sub (env':=eL s x.rows.length x.last p (.sl (ps.map Prm.v)) (.int .i64 ps.length) (.int .i64 j)) (fun i v hv=>?_) ?_
 ·have hi:i∈L2:=by
   simp only[Sha.look]at hv
   (repeat' split at hv)<;>first|(cases hv;done)|(rename_i e;rw[←e];simp)
  exact(he2 i hi).trans hv
 obtain⟨rid1,h1,h2,h3⟩:∃rid1,4<rid1∧rid1<N+1∧stSh g a (N+1) rid x=stSh g a (N+1) rid1 x:=by
  cases ho:x.op with
  |none=>exact⟨5,by omega,by omega,stSh_none ho⟩
  |some r=>obtain⟨q1,q2⟩:=hr (by rw[ho];simp);exact⟨rid,q1,by omega,rfl⟩
 rw[h3]
 refine WD_C hH hP.r68 (by omega) h1 h2 (by omega) (fun n=>prms_bd) (fun n=>by simp[V.bd]) (fun n=>by simp[V.bd]) (fun e N' rid' he hr' hrN' hNN=>?_)
 show WD _ _ Y26 (restr L2 e) _ _
 rw[he]
 obtain⟨r,hro⟩:=open_some h0 hc0
 have hcl:(openM dig x p).cl.length≤j+1:=by
  unfold openM
  split
  ·have:=hxl;unfold Sht.rows at this;simp at this;omega
  ·exact hxl
 have hrl:r.2.2.length≤j*3000:=by
  unfold openM at hro
  split at hro
  ·exact ht r hro
  ·cases hro;simp
 have hlen:(openM dig x p).rows.length=(openM dig x p).cl.length+1:=by rw[len_some hro];simp
 rw[hlen]at hq ⊢
 generalize openM dig x p=y at *
 unfold stSh arrS
 rw[hro]
 dsimp only
 obtain⟨xx,e',m',hY,hxx,hm,hre⟩:=run_Y (g:=g) (N:=N') (rid:=rid') (k:=y.cl.length) (last:=p.chan) (c:=r.1) (i:=r.2.1) (t:=r.2.2) (X:=y.cl.map rowV++[.osl rid' 3]) (v76:=.sl (ps.map Prm.v)) (v77:=.int .i64 ps.length) (v54:=.int .i64 j) hP (by omega) (by simp) (by omega) (by simp) (by omega)
 refine WD.ev mixed hH hY ?_
 have key:WD Tryz.prog F (.reg [.v 153 .add 78 1,.m 78 153]) (restr L1 e') ⟨N'+1,[(N',m')],[(rid',⟨9,1,(rowM p r.1 r.2.1 r.2.2 wrd txt).map .str,true,false⟩),(4,⟨59,1,y.cl.map rowV++[.osl rid' 3],false,false⟩)],⟨[(2,.map (esV a))],g,[]⟩⟩ Q:=by
  rw[hre]
  have hw:=iw1 (j:=j) (by omega)
  refine WD.ev mixed hH (x:=.normal) (e:=(78,.int .i64 (j+1:Nat))::(153,.int .i64 (j+1:Nat))::[(3,.ep s.v 0),(12,.mp 2),(16,.osl 4 (y.cl.length+1)),(17,.int .i64 p.chan),(76,.sl (ps.map Prm.v)),(77,.int .i64 ps.length),(78,.int .i64 j)]) (s:=⟨N'+1,[(N',m')],[(rid',⟨9,1,(rowM p r.1 r.2.1 r.2.2 wrd txt).map .str,true,false⟩),(4,⟨59,1,y.cl.map rowV++[.osl rid' 3],false,false⟩)],⟨[(2,.map (esV a))],g,[]⟩⟩) (by push_cast[hw]) ?_
  rw[rowM_T]
  refine hq r _ N' rid' m' hro hr' hrN' (fun i hi=>?_) hm
  simp only[List.mem_cons,List.not_mem_nil,or_false]at hi
  rcases hi with rfl|rfl|rfl|rfl|rfl|rfl|rfl<;>rfl
 rcases hxx with rfl|rfl
 ·exact key
 ·exact(show ∀(Q1:Post) e s,Q1 .normal e s→blockPost 3 Q1 (.exit 3) e s from fun Q1 e s h=>by simp only[blockPost,if_true];exact h) _ _ _ key
end Go.Proofs.YtdkokbhcjmapdaaGreatDoor

namespace Go.Proofs.YtdkokbhcjmapdaaGreatDoor
open Go.Sha Go.RowKit
set_option maxRecDepth 100000
variable {g:List (Nat×Obj)}{n:Nat}{T:EvF}
def sh0:Sht:=⟨[hdM],none,0⟩
def shtM (dig wrd txt:Prm→List UInt8)(l:List Prm):Sht:=l.foldl (stpM dig wrd txt) sh0
def InvM (s:Sho)(a:List (Prm×Val))(ps:List Prm)(dig wrd txt:Prm→List UInt8)(g:List (Nat×Obj))(m:Nat)(e:Env)(st:St):Prop :=
 ∃j x N rid,m+j=ps.length∧e=eH s ps x.rows.length x.last j∧st=stSh g a N rid x∧4<N∧(x.op≠none→4<rid∧rid<N)∧(x.op=none→x.last=0)∧x.rows.length≤j+1∧(∀r,x.op=some r→r.2.2.length≤j*3000)∧x=shtM dig wrd txt (ps.take j)
def post26:Cd:=.g [.m 154 16,.m 6 154,.c 7 0] (.ret [6,7])
theorem rowT_len {p:Prm}{r:Trip}{wrd txt:List UInt8}(h1:wrd.length≤1000)(h2:txt.length≤1000):(rowT p r wrd txt).2.2.length≤r.2.2.length+3000:=by
 unfold rowT cell2
 split
 ·simp
 ·split<;>simp<;>omega
theorem v28 (hH:ESound Tryz.prog T){st:St}{s:Sho}{lst:Int}{cue:List UInt8}{L:Lst}{lk:List (Prm×Val)}{ps:List Prm}{lev:Prm→Int}{dig wrd txt:Prm→List UInt8}(hM:MagH T st.x.gl s lst cue L lk ps)(hP:∀p∈ps,ParH T st.x.gl s (lk.foldl insMg []) p (lev p) (dig p) (txt p) (wrd p)∧p.chan≠0)(hlp:ps.length≤50000) :
  VCalls Tryz.prog 28 [s.v,.int .i64 lst,.str cue] st fun x y=>x=.ret (.tup [.sl ((shtM dig wrd txt ps).rows.map rowV),.int .i64 0])∧y=st:=by
 refine VCalls_shutW (by simp) (VCalls_WD F28' (Nat.le_of_ble_eq_true rfl) fun N=>?_)
 show WD _ ⟨N,[]⟩ (pre26.put mid26) (argEnv 0 [s.v,.int .i64 lst,.str cue]) (stN st.x.gl 0) _
 refine WD.run mixed hH (run_pre26 hM) ?_
 show WD _ _ mid26 _ _ _
 refine WD.join (WD.seq (WD.ev mixed hH (x:=.normal) (e:=[(78,.int .i64 0),(77,.int .i64 ps.length),(76,.sl (ps.map Prm.v)),(17,.int .i64 0),(16,.osl 4 1),(75,.osl 4 1),(74,rowV hdM),(73,.osl 3 3),(3,.ep s.v 0),(12,.mp 2),(15,.sl (ps.map Prm.v))]) (s:=stPg st.x.gl (lk.foldl insMg [])) (by unfold stPg;push_cast) ?_))
 show WD _ _ (.block 2 (.loop [3,12,16,17,76,77,78] [(16,(31,1))] B28_1)) _ _ _
 generalize hg:st.x.gl=g at *
 generalize ha:lk.foldl insMg []=a at *
 refine WD.block (WD.loopG (InvM s a ps dig wrd txt g) (fun m e z ⟨j,x,N,rid,_,_,hz,hN,_⟩=>by subst hz;show 5≤N;omega) ?_ ?_)
 ·refine⟨ps.length,eH s ps 1 0 0,stSh g a 5 0 sh0,⟨0,sh0,5,0,by omega,rfl,rfl,by omega,fun h=>absurd rfl h,fun _=>rfl,by simp[sh0,Sht.rows],fun r h=>(by cases h),(by rw[List.take_zero];rfl)⟩,?_,?_⟩
  ·refine weH (by show 4<5;omega) (fun i hi=>?_)
   simp only[List.mem_cons,List.not_mem_nil,or_false]at hi
   rcases hi with rfl|rfl|rfl|rfl|rfl|rfl|rfl<;>rfl
  ·exact weak4 (N:=5) (by omega) rfl (by simp[V.bdL,V.bd,rowV])
 ·rintro m e z ⟨j,x,N',rid,hm,rfl,rfl,hN,hr,h0,hxl,ht,hx⟩
  by_cases hj:j<ps.length
  ·have hp:∀d,ps.getD j d=ps[j]:=fun d=>by rw[List.getD_eq_getElem?_getD,List.getElem?_eq_getElem hj];rfl
   obtain⟨hP1,hP2⟩:=hP _ (List.getElem_mem hj)
   generalize hpj:ps[j]=p at *
   refine WD_round hH hP1 hP2 hN hr h0 hj hp hlp hxl ht (fun r e N2 rid2 m2 hro h1 h2 he hm2=>?_)
   have hst:stpM dig wrd txt x p=⟨(openM (dig p) x p).cl,some (rowT p r (wrd p) (txt p)),p.chan⟩:=by rw[stpM,hro];rfl
   have hlen:(stpM dig wrd txt x p).rows.length=(openM (dig p) x p).rows.length:=by rw[hst,len_some hro];simp[Sht.rows]
   have hrl:r.2.2.length≤j*3000:=by
    unfold openM at hro
    split at hro
    ·exact ht r hro
    ·cases hro;simp
   refine⟨m-1,eH s ps (stpM dig wrd txt x p).rows.length p.chan (j+1),stSh g a (N2+1) rid2 (stpM dig wrd txt x p),by omega,⟨j+1,stpM dig wrd txt x p,N2+1,rid2,by omega,rfl,rfl,by omega,fun _=>⟨h1,by omega⟩,fun h=>(by rw[hst]at h;cases h),?_,?_,?_⟩,?_,?_⟩
   ·rw[hlen]
    unfold openM
    split
    ·omega
    ·simp[Sht.rows];unfold Sht.rows at hxl;simp at hxl;omega
   ·intro r2 hr2
    rw[hst]at hr2
    cases hr2
    have:=rowT_len (p:=p) (r:=r) hP1.lw hP1.lt
    omega
   ·rw[hx,shtM,shtM,List.take_succ_eq_append_getElem hj,List.foldl_append,hpj];rfl
   ·rw[hlen]
    exact weH (by show 4<N2+1;omega) he
   ·rw[hst]
    have hr4:¬rid2=4:=by omega
    exact weak5 (N:=N2+1) (rid:=rid2) (by omega) (by omega) (by simp[arrS,Sha.look,hr4]) (by simp[arrS,Sha.look]) (by rw[bdL_append,rowsV_bd];simp[V.bdL,V.bd];omega) str3_bd
  ·have hj':j=ps.length:=by omega
   have hjl:¬(j:Int)<ps.length:=by omega
   have hrun:runC Tryz.prog T B28_1 (eH s ps x.rows.length x.last j) (stSh g a N' rid x)=some (.exit 2,[(16,.osl 4 x.rows.length)],stSh g a N' rid x):=by
    rw[B26_eq]
    push_cast[hjl]
   refine WD.ev mixed hH hrun ?_
   refine(show ∀(K:Env→St→Prop) (Q1:Post) e s,Q1 .normal e s→seqPost K (blockPost 2 Q1) (.exit 2) e s from fun K Q1 e s h=>by simp only[seqPost,blockPost,if_true];exact h) _ _ _ _ ?_
   show WD _ _ post26 (restr [16] [(16,.osl 4 x.rows.length)]) _ _
   obtain⟨rid1,q1,q2,q3⟩:∃rid1,rid1≠4∧rid1<N'∧stSh g a N' rid x=stSh g a N' rid1 x:=by
    cases ho:x.op with
    |none=>exact⟨0,by omega,by omega,stSh_none ho⟩
    |some r=>obtain⟨q1,q2⟩:=hr (by rw[ho];simp);exact⟨rid,by omega,q2,rfl⟩
   rw[q3]
   refine closeRow (e':=[(16,.osl 4 x.rows.length)]) q1 hN q2 (fun i v hv=>?_) ?_
   ·simp only[Sha.look]at hv
    split at hv
    ·rename_i e;subst e;cases hv;exact⟨by simp[V.bd];omega,rfl⟩
    ·cases hv
   refine WD.ev mixed hH (x:=.ret) (e:=[(6,.osl 4 x.rows.length),(7,.int .i64 0)]) (s:=⟨N',[],[(4,⟨59,1,x.rows.map rowV,false,false⟩)],⟨[(2,.map (esV a))],g,[]⟩⟩) (by rw[post26];push_cast) ?_
   refine⟨.ret (.tup [.osl 4 x.rows.length,.int .i64 0]),_,rfl,?_⟩
   have hxe:x=shtM dig wrd txt ps:=by rw[hx,hj',List.take_length]
   rw[←hxe]
   push_cast[rowV]
end Go.Proofs.YtdkokbhcjmapdaaGreatDoor

namespace Go.Proofs.YtdkokbhcjmapdaaGreatDoor
open Go.Sha
set_option maxRecDepth 1000000
structure GV where
 a:TypeId
 b:TypeId
 c:TypeId
 x:Nat×Nat
 y:Nat×Nat
 z:Nat×Nat
 m:Int
def glK (v:GV):List (Nat×Obj):=[(3,.cells (Lib.pow10Tab.map fun n=>.int .u64 n).toArray v.a v.x),(0,.cells (Lib.asciiSpaceTab.map fun n=>.int .u8 n).toArray v.b v.y),(1,.cells #[.int .i64 v.m] v.c v.z)]
theorem at_gl {f:FuncId}{args:List V}{st:St}{r:VRes}(h:run Tryz.prog HK f args (stG st.x.gl)=some (r,stG st.x.gl))(hF:(compF Tryz.prog f).isSome=true)(hH:∀s:St,HK f args s=none)(hb:V.bdL 0 args=true):run Tryz.prog HK f args st=some (r,st):=by
 obtain⟨F,hF⟩:=Option.isSome_iff_exists.1 hF
 rw[run_eq (hH _) hF]at h ⊢
 unfold endF at h ⊢
 split at h
 ·rename_i hl
  rw[if_pos hl,if_pos hb]
  change shutR (stG st.x.gl) (rawE F.res (runC Tryz.prog HK F.c (argEnv 0 args) (stG st.x.gl)))=_ at h
  change shutR st (rawE F.res (runC Tryz.prog HK F.c (argEnv 0 args) (stG st.x.gl)))=_
  generalize rawE F.res (runC Tryz.prog HK F.c (argEnv 0 args) (stG st.x.gl))=X at h ⊢
  match X,h with
  |some (.ret v,s),h =>
   simp only[shutR]at h ⊢
   cases hg:(shutV s v).bd 0 with
   |true=>rw[hg]at h;simp only[guardT]at h ⊢;cases h;rfl
   |false=>rw[hg]at h;cases h
  |some (.pan v,s),h =>
   simp only[shutR]at h ⊢
   cases hg:(shutV s v).bd 0 with
   |true=>rw[hg]at h;simp only[guardT]at h ⊢;cases h;rfl
   |false=>rw[hg]at h;cases h
 ·cases h
def thH:List Row:=[[[99,104,97,110,110,101,108],[112,114,111,102,105,108,101],[117,110,105,118,101,114,115,101],[97,100,100,114,101,115,115],[112,104,97,115,101],[99,97,98,108,101]],[[49],[115,112,111,116],[49],[49],[49],[]],[[50],[115,112,111,116],[49],[52],[49],[]]]
def thL:Row:=[[99,104,97,110,110,101,108,32,32,112,114,111,102,105,108,101,32,32,117,110,105,118,101,114,115,101,32,32,97,100,100,114,101,115,115,32,32,112,104,97,115,101,32,32,99,97,98,108,101],[49,32,32,32,32,32,32,32,32,115,112,111,116,32,32,32,32,32,49,32,32,32,32,32,32,32,32,32,49,32,32,32,32,32,32,32,32,49],[50,32,32,32,32,32,32,32,32,115,112,111,116,32,32,32,32,32,49,32,32,32,32,32,32,32,32,32,52,32,32,32,32,32,32,32,32,49]]
def thC:List Row:=[[[99,117,101],[108,97,98,101,108],[109,111,118,101,115],[117,112],[100,111,119,110],[100,101,108,97,121],[102,108,97,103,115],[102,111,108,108,111,119],[108,105,110,107]],[[49],[],[50],[49,46,53],[48],[48],[],[],[]]]
def thA:List Row:=[[[117,110,105,118,101,114,115,101],[102,114,111,109],[116,111],[99,104,97,110,110,101,108],[112,114,111,102,105,108,101]],[[49],[49],[51],[49],[115,112,111,116]],[[49],[52],[54],[50],[115,112,111,116]]]
def thM:List Row:=[[[99,104,97,110,110,101,108],[105,110,116,101,110,115,105,116,121],[111,116,104,101,114,115]],[[49],[53,48],[112,97,110,32,53,48]],[[50],[48],[112,97,110,32,48,46,49,53,50]]]
def thP:List Row:=[[[112,97,108,101,116,116,101],[104,117,101,115],[99,117,101,115]],[[53],[49],[55,32,47,32,49]]]
def tabR (l:List Row):VRes:=.ret (.tup [tabV l,.int .i64 0])
end Go.Proofs.YtdkokbhcjmapdaaGreatDoor

namespace Go.Proofs.YtdkokbhcjmapdaaGreatDoor
open Go.Sha
set_option maxRecDepth 1000000
variable {v:GV}
theorem e49:evK Tryz.prog HK 40 60 26 [] (stG (glK v))=some (.ret thS.v,stG (glK v)):=by kernel_rfl
theorem e16:evK Tryz.prog HK 60 60 27 [tabV thH] (stG (glK v))=some (.ret (.tup [rowV thL,.int .i64 0]),stG (glK v)):=by kernel_rfl
theorem e23:evK Tryz.prog HK 40 60 9 [thS.v] (stG (glK v))=some (tabR thH,stG (glK v)):=by kernel_rfl
end Go.Proofs.YtdkokbhcjmapdaaGreatDoor

namespace Go.Proofs.YtdkokbhcjmapdaaGreatDoor
open Go.Sha
set_option maxRecDepth 1000000
variable {v:GV}
theorem e21:evK Tryz.prog HK 60 60 7 [thS.v,.int .i64 7] (stG (glK v))=some (tabR thC,stG (glK v)):=by kernel_rfl
theorem e32:evK Tryz.prog HK 60 60 12 [thS.v] (stG (glK v))=some (tabR thA,stG (glK v)):=by kernel_rfl
end Go.Proofs.YtdkokbhcjmapdaaGreatDoor

namespace Go.Proofs.YtdkokbhcjmapdaaGreatDoor
open Go.Sha
set_option maxRecDepth 1000000
variable {v:GV}
theorem e35:evK Tryz.prog HK 60 60 16 [thS.v] (stG (glK v))=some (tabR thP,stG (glK v)):=by kernel_rfl
def thL7:Lst:=⟨7,0,[⟨[49],[],[⟨⟨1,0⟩,⟨0,32768⟩,1⟩,⟨⟨2,1⟩,⟨5,0⟩,1⟩],[⟨1500,0,0,0,0,0⟩],false,false,-1,[],0⟩]⟩
theorem e65:evK Tryz.prog HK 60 60 30 [thS.v,.int .i64 7] (stG (glK v))=some (.ret (.tup [thL7.v,.int .i64 0]),stG (glK v)):=by kernel_rfl
theorem e80:evK Tryz.prog HK 60 60 65 [.str [49]] (stG (glK v))=some (.ret (.int .i64 0),stG (glK v)):=by kernel_rfl
theorem e39:evK Tryz.prog HK 60 60 66 [thL7.v,.str [49]] (stG (glK v))=some (.ret (.tup [.sl [.agg [.int .i64 1,.int .i64 0,.int .i64 0,.int .i64 32768],.agg [.int .i64 2,.int .i64 1,.int .i64 5,.int .i64 0]],.int .i64 0]),stG (glK v)):=by kernel_rfl
theorem e43a:evK Tryz.prog HK 60 60 68 [thS.v,(⟨1,0⟩:Prm).v,(⟨0,32768⟩:Val).v] (stG (glK v))=some (.ret (.tup [.int .i64 32768,.int .i64 0]),stG (glK v)):=by kernel_rfl
theorem e43b:evK Tryz.prog HK 60 60 68 [thS.v,(⟨1,1⟩:Prm).v,(⟨-1,0⟩:Val).v] (stG (glK v))=some (.ret (.tup [.int .i64 32768,.int .i64 0]),stG (glK v)):=by kernel_rfl
theorem e43c:evK Tryz.prog HK 60 60 68 [thS.v,(⟨2,0⟩:Prm).v,(⟨-1,0⟩:Val).v] (stG (glK v))=some (.ret (.tup [.int .i64 0,.int .i64 0]),stG (glK v)):=by kernel_rfl
theorem e43d:evK Tryz.prog HK 60 60 68 [thS.v,(⟨2,1⟩:Prm).v,(⟨5,0⟩:Val).v] (stG (glK v))=some (.ret (.tup [.int .i64 100,.int .i64 0]),stG (glK v)):=by kernel_rfl
theorem e81a:evK Tryz.prog HK 60 60 69 [.int .i64 32768] (stG (glK v))=some (.ret (.tup [.str [53,48],.int .i64 0]),stG (glK v)):=by kernel_rfl
theorem e81b:evK Tryz.prog HK 60 60 69 [.int .i64 0] (stG (glK v))=some (.ret (.tup [.str [48],.int .i64 0]),stG (glK v)):=by kernel_rfl
theorem e81c:evK Tryz.prog HK 60 60 69 [.int .i64 100] (stG (glK v))=some (.ret (.tup [.str [48,46,49,53,50],.int .i64 0]),stG (glK v)):=by kernel_rfl
theorem e82a:evK Tryz.prog HK 60 60 70 [.int .i64 0] (stG (glK v))=some (.ret (.tup [.str [105,110,116,101,110,115,105,116,121],.int .i64 0]),stG (glK v)):=by kernel_rfl
theorem e82b:evK Tryz.prog HK 60 60 70 [.int .i64 1] (stG (glK v))=some (.ret (.tup [.str [112,97,110],.int .i64 0]),stG (glK v)):=by kernel_rfl
theorem e68a:evK Tryz.prog HK 60 60 33 [.int .i64 1] (stG (glK v))=some (.ret (.str [49]),stG (glK v)):=by kernel_rfl
theorem e68b:evK Tryz.prog HK 60 60 33 [.int .i64 2] (stG (glK v))=some (.ret (.str [50]),stG (glK v)):=by kernel_rfl
end Go.Proofs.YtdkokbhcjmapdaaGreatDoor

namespace Go.Proofs.YtdkokbhcjmapdaaGreatDoor
open Go.Sha
set_option maxRecDepth 10000
theorem F6:compF Tryz.prog 6=some ⟨124,[.tmp 0],(.g [.k 0 false] (.g [.s 14 (.f 26 []),.s 1 (.alloc 31 [(.str []),.nils,.nils,.nils,.nils,.nils,.nils,.nils,.nils]),.w 9 1 14] (.z [1] (.g [.d 16 9 1,.f 17 9 16,.m 15 17,.j 18 0 15,.j 19 1 15,.m 2 18,.m 3 19] (.g [.m 21 2,.f 22 27 21,.m 20 22,.j 23 0 20,.j 24 1 20,.m 4 23,.m 5 24] (.g [.d 26 9 1,.s 27 (.f 7 [.t 26,.i 7]),.m 25 27,.j 28 0 25,.j 29 1 25,.m 6 28,.m 7 29] (.g [.d 31 9 1,.f 32 12 31,.m 30 32,.j 33 0 30,.j 34 1 30,.m 8 33,.m 9 34] (.g [.d 36 9 1,.s 37 (.f 28 [.t 36,.i 7,(.w [49])]),.m 35 37,.j 38 0 35,.j 39 1 35,.m 10 38,.m 11 39] (.g [.d 41 9 1,.f 42 16 41,.m 40 42,.j 43 0 40,.j 44 1 40,.m 12 43,.m 13 44] (.join [6,8,10,12] (.join [6,8,10,12,62] (.reg [.m 45 3,.m 46 5,.b 47 .add 45 46,.m 48 7,.b 49 .add 47 48,.m 50 9,.b 51 .add 49 50,.m 52 11,.b 53 .add 51 52,.m 54 13,.b 55 .add 53 54,.v 56 .neq 55 0,.m 57 56,.mx 58 4 57,.x 59 (.bslice 9 1 [(.w [99,104,97,110,110,101,108,32,32,112,114,111,102,105,108,101,32,32,117,110,105,118,101,114,115,101,32,32,97,100,100,114,101,115,115,32,32,112,104,97,115,101,32,32,99,97,98,108,101]),(.w [49,32,32,32,32,32,32,32,32,115,112,111,116,32,32,32,32,32,49,32,32,32,32,32,32,32,32,32,49,32,32,32,32,32,32,32,32,49]),(.w [50,32,32,32,32,32,32,32,32,115,112,111,116,32,32,32,32,32,49,32,32,32,32,32,32,32,32,32,52,32,32,32,32,32,32,32,32,49])]) 57,.x 60 (.f 29 [.t 58,.t 59]) 57,.x 61 (.un .not (.t 60)) 57,.o 62 57 61]) (.i 62 (.g [.k 0 false] (.ret [0])) .skip)) (.join [10,12] (.join [10,12,94] (.reg [.m 63 6,.u 64 63,.v 65 .neq 64 2,.m 66 65,.mx 67 6 66,.x 68 (.iadr 1 (.t 67) (.i 1)) 66,.lx 69 68 66,.x 70 (.bslice 9 1 [(.w [49]),(.w []),(.w [50]),(.w [49,46,53]),(.w [48]),(.w [48]),(.w []),(.w []),(.w [])]) 66,.x 71 (.f 29 [.t 69,.t 70]) 66,.x 72 (.un .not (.t 71)) 66,.o 73 66 72,.m 74 73,.mx 75 8 74,.x 76 (.len (.t 75)) 74,.vx 77 .neq 76 3 74,.o 78 74 77,.m 79 78,.mx 80 8 79,.x 81 (.iadr 1 (.t 80) (.i 1)) 79,.lx 82 81 79,.x 83 (.bslice 9 1 [(.w [49]),(.w [49]),(.w [51]),(.w [49]),(.w [115,112,111,116])]) 79,.x 84 (.f 29 [.t 82,.t 83]) 79,.x 85 (.un .not (.t 84)) 79,.o 86 79 85,.m 87 86,.mx 88 8 87,.x 89 (.iadr 1 (.t 88) (.i 2)) 87,.lx 90 89 87,.x 91 (.bslice 9 1 [(.w [49]),(.w [52]),(.w [54]),(.w [50]),(.w [115,112,111,116])]) 87,.x 92 (.f 29 [.t 90,.t 91]) 87,.x 93 (.un .not (.t 92)) 87,.o 94 87 93]) (.i 94 (.g [.k 0 false] (.ret [0])) .skip)) (.join [0] (.reg [.m 95 10,.u 96 95,.v 97 .eql 96 3,.m 98 97,.my 99 10 98,.y 100 (.iadr 1 (.t 99) (.i 1)) 98,.ly 101 100 98,.y 102 (.bslice 9 1 [(.w [49]),(.w [53,48]),(.w [112,97,110,32,53,48])]) 98,.y 103 (.f 29 [.t 101,.t 102]) 98,.e 104 98 103,.m 105 104,.my 106 10 105,.y 107 (.iadr 1 (.t 106) (.i 2)) 105,.ly 108 107 105,.y 109 (.bslice 9 1 [(.w [50]),(.w [48]),(.w [112,97,110,32,48,46,49,53,50])]) 105,.y 110 (.f 29 [.t 108,.t 109]) 105,.e 111 105 110,.m 112 111,.my 113 12 112,.y 114 (.len (.t 113)) 112,.vy 115 .eql 114 2 112,.e 116 112 115,.m 117 116,.my 118 12 117,.y 119 (.iadr 1 (.t 118) (.i 1)) 117,.ly 120 119 117,.y 121 (.bslice 9 1 [(.w [53]),(.w [49]),(.w [55,32,47,32,49])]) 117,.y 122 (.f 29 [.t 120,.t 121]) 117,.e 123 117 122,.m 0 123]) (.ret [0])))))))))))))⟩:=by kernel_rfl
def B29_0:Cd:=(.g [.b 14 .lss 13 12] (.join [0,1,12,13] (.i 14 .skip (.exit [] 0)) (.join [0,1,12,13] (.block 1 (.g [.m 15 13,.m 5 15] (.q (.dreg 9 [.m 16 0,.m 17 5,.r 18 1 16 17,.l 19 18,.m 20 1,.m 21 5,.r 22 1 20 21,.l 23 22,.b 24 .neq 19 23]) (.i 24 (.g [.k 4 false] (.ret [4])) .skip)))) (.reg [.v 25 .add 13 1,.m 13 25]))))
theorem F29:compF Tryz.prog 29=some ⟨26,[.tmp 4],(.g [.k 4 false] (.join [0,1] (.g [.m 6 0,.u 7 6,.m 8 1,.u 9 8,.b 10 .neq 7 9] (.i 10 (.g [.k 4 false] (.ret [4])) .skip)) (.join [] (.g [.m 11 0,.u 12 11,.c 13 0] (.block 0 (.loop [0,1,12,13] [] B29_0))) (.g [.k 4 true] (.ret [4])))))⟩:=by kernel_rfl
end Go.Proofs.YtdkokbhcjmapdaaGreatDoor

namespace Go.Proofs.YtdkokbhcjmapdaaGreatDoor
open Go.Sha
set_option maxRecDepth 100000
variable {g:List (Nat×Obj)}{n:Nat}{v:GV}
theorem runAt {m k f:Nat}{args:List V}{r:VRes}(h:evK Tryz.prog HK m k f args (stG (glK v))=some (r,stG (glK v)))(hF:(compF Tryz.prog f).isSome=true)(hH:∀s:St,HK f args s=none)(hb:V.bdL 0 args=true):RunAt HK (glK v) f args r:=fun nx mem arr obj ty=>at_gl (st:=⟨nx,mem,arr,⟨obj,glK v,ty⟩⟩) (evK_run h) hF hH hb
def lkT:List (Prm×Val):=[(⟨1,0⟩,⟨0,32768⟩),(⟨2,1⟩,⟨5,0⟩)]
def psT:List Prm:=[⟨1,0⟩,⟨1,1⟩,⟨2,0⟩,⟨2,1⟩]
def levT (p:Prm):Int:=if p.chan=1 then 32768 else if p.attr=0 then 0 else 100
def txtT (p:Prm):List UInt8:=if p.chan=1 then[53,48] else if p.attr=0 then[48] else[48,46,49,53,50]
def wrdT (p:Prm):List UInt8:=if p.attr=0 then[105,110,116,101,110,115,105,116,121] else[112,97,110]
def digT (p:Prm):List UInt8:=if p.chan=1 then[49] else[50]
theorem thS_bd:V.bd 0 thS.v=true:=Sho.bd thS
theorem qHK:QT HK:=⟨rfl,fun _ _=>rfl⟩
theorem magT:MagH HK (glK v) thS 7 [49] thL7 lkT psT where
 r65:=runAt e65 (by kernel_rfl) (fun _=>rfl) (by simp[V.bdL,thS_bd,V.bd])
 r80:=runAt e80 (by kernel_rfl) (fun _=>rfl) (by simp[V.bdL,V.bd])
 r39:=runAt e39 (by kernel_rfl) (fun _=>rfl) (by simp[V.bdL,V.bd,Lst.bd])
 r40:=fun nx mem arr obj ty=>run_H (by kernel_rfl)
 ll:=by decide
 lp:=by decide
 q:=qHK
theorem b43 {p:Prm}{v:Val}:V.bdL 0 [thS.v,p.v,v.v]=true:=by simp[V.bdL,thS_bd,V.bd]
theorem parT:∀p∈psT,ParH HK (glK v) thS (lkT.foldl insMg []) p (levT p) (digT p) (txtT p) (wrdT p)∧p.chan≠0:=by
 intro p hp
 simp only[psT,List.mem_cons,List.not_mem_nil,or_false]at hp
 rcases hp with rfl|rfl|rfl|rfl
 ·exact⟨⟨⟨_,runAt e43a (by kernel_rfl) (fun _=>rfl) b43⟩,⟨_,runAt e81a (by kernel_rfl) (fun _=>rfl) (by simp[V.bdL,V.bd])⟩,⟨_,runAt e82a (by kernel_rfl) (fun _=>rfl) (by simp[V.bdL,V.bd])⟩,runAt e68a (by kernel_rfl) (fun _=>rfl) (by simp[V.bdL,V.bd]),by decide,by decide,qHK⟩,by decide⟩
 ·exact⟨⟨⟨_,runAt e43b (by kernel_rfl) (fun _=>rfl) b43⟩,⟨_,runAt e81a (by kernel_rfl) (fun _=>rfl) (by simp[V.bdL,V.bd])⟩,⟨_,runAt e82b (by kernel_rfl) (fun _=>rfl) (by simp[V.bdL,V.bd])⟩,runAt e68a (by kernel_rfl) (fun _=>rfl) (by simp[V.bdL,V.bd]),by decide,by decide,qHK⟩,by decide⟩
 ·exact⟨⟨⟨_,runAt e43c (by kernel_rfl) (fun _=>rfl) b43⟩,⟨_,runAt e81b (by kernel_rfl) (fun _=>rfl) (by simp[V.bdL,V.bd])⟩,⟨_,runAt e82a (by kernel_rfl) (fun _=>rfl) (by simp[V.bdL,V.bd])⟩,runAt e68b (by kernel_rfl) (fun _=>rfl) (by simp[V.bdL,V.bd]),by decide,by decide,qHK⟩,by decide⟩
 ·exact⟨⟨⟨_,runAt e43d (by kernel_rfl) (fun _=>rfl) b43⟩,⟨_,runAt e81c (by kernel_rfl) (fun _=>rfl) (by simp[V.bdL,V.bd])⟩,⟨_,runAt e82b (by kernel_rfl) (fun _=>rfl) (by simp[V.bdL,V.bd])⟩,runAt e68b (by kernel_rfl) (fun _=>rfl) (by simp[V.bdL,V.bd]),by decide,by decide,qHK⟩,by decide⟩
theorem rowsT:(shtM digT wrdT txtT psT).rows=thM:=by kernel_rfl
def argM:List V:=[thS.v,.int .i64 7,.str [49]]
theorem v26T (hH:ESound Tryz.prog HK){st:St}(hg:st.x.gl=glK v):VCalls Tryz.prog 28 argM st fun x y=>x=tabR thM∧y=st:=by
 have hM:MagH HK st.x.gl thS 7 [49] thL7 lkT psT:=hg▸magT
 have hP:∀p∈psT,ParH HK st.x.gl thS (lkT.foldl insMg []) p (levT p) (digT p) (txtT p) (wrdT p)∧p.chan≠0:=hg▸parT
 have:=v28 hH hM hP (by decide)
 rw[rowsT]at this
 exact this
open Classical in
noncomputable def hMag (gl:List (Nat×Obj))(args:List V):Option VRes:=if(∃v,gl=glK v)∧args=argM then some (tabR thM) else none
def memA:List Nat:=[60,27,45,7,9,121,62,12,16,26]
def inL (k:Nat):List Nat→Bool
 |[]=>false
 |x::r=>bif Nat.beq k x then true else inL k r
noncomputable def HA:EvF:=⟨[],fun f args st=>bif Nat.beq f 28 then(hMag st.x.gl args).map (fun r=>(r,st)) else bif inL f memA then run Tryz.prog HK f args st else none⟩
@[push_cast]theorem HA_raw:HA.raw=[]:=idq rfl
theorem HA_ok (hH:ESound Tryz.prog HK):ESound Tryz.prog HA:=fun f args st r s h=>by
 simp only[HA]at h
 by_cases hf:f=28
 ·subst hf
  simp only[show Nat.beq 28 28=true from rfl,cond_true]at h
  obtain⟨z,hz,e⟩:=Option.map_eq_some_iff.1 h
  cases e
  unfold hMag at hz
  split at hz
  ·rename_i hx
   obtain⟨⟨v,hg⟩,rfl⟩:=hx
   cases hz
   exact v26T hH hg
  ·cases hz
 ·have:Nat.beq f 28=false:=by cases e:Nat.beq f 28 with
   |false=>rfl
   |true=>exact absurd (Nat.eq_of_beq_eq_true e) hf
  simp only[this,cond_false]at h
  cases hi:inL f memA with
  |false=>rw[hi]at h;cases h
  |true=>rw[hi]at h;exact run_sound mixed hH _ _ _ _ _ h
theorem upA {k:Nat}{args:List V}{st:St}{r:VRes×St}(h:run Tryz.prog HK k args st=some r)(h1:Nat.beq k 28=false:=by rfl)(h2:inL k memA=true:=by rfl):run Tryz.prog HA k args st=some r:=by
 refine run_H ?_
 simp only[HA,h1,h2,cond_false,cond_true,h]
theorem L29 {a:Row}(hl:a.length<140737488355328):∀r j,a.drop j=r→runL Tryz.prog HA [0,1,12,13] n B29_0 [(0,.sl (a.map .str)),(1,.sl (a.map .str)),(12,.int .i64 a.length),(13,.int .i64 j)] (stN g n)=some (.exit 0,[],stN g n):=by
 refine drop_ind (fun j h=>?_) (fun q r j h hx hd ih=>?_)
 all_goals rw[runL_of B29_0.eq_1]
 ·have h1:¬(j:Int)<a.length:=by omega
  push_cast[h1]
 ·have h1:(j:Int)<a.length:=by omega
  have hw:=iw1 (j:=j) (by omega)
  push_cast[h1,hw,hx]at ih ⊢
  simp only[ih,lps,Int.reduceEq,not_false_eq_true]
  all_goals first|with_reducible rfl|exact dn_eq (by omega) (by with_reducible rfl)|((repeat' split)<;>(try simp_all)<;>(try (with_reducible refine dn_eq ?_ ?_<;>first|trivial|omega|rfl))<;>(try omega))
theorem f29 {a:Row}(hl:a.length<140737488355328){st:St}:run Tryz.prog HA 29 [.sl (a.map .str),.sl (a.map .str)] st=some (.ret (.bool true),st):=by
 rw[run_shut F29 rfl rfl (by simp)]
 have hL0:=fun n=>L29 (g:=st.x.gl) (n:=n) hl _ 0 rfl
 push_cast at hL0
 push_cast[hL0,lpE,lpX,lpI,lpB]
 all_goals first|with_reducible rfl|exact dn_eq (by omega) (by with_reducible rfl)|((repeat' split)<;>(try simp_all)<;>(try (with_reducible refine dn_eq ?_ ?_<;>first|trivial|omega|rfl))<;>(try omega))
end Go.Proofs.YtdkokbhcjmapdaaGreatDoor

namespace Go.Proofs.YtdkokbhcjmapdaaGreatDoor
open Go.Sha
set_option maxRecDepth 100000
variable {g:List (Nat×Obj)}{n:Nat}{v:GV}
abbrev RunA (g:List (Nat×Obj))(k:FuncId)(args:List V)(r:VRes):Prop:=∀nx mem arr obj ty,run Tryz.prog HA k args ⟨nx,mem,arr,⟨obj,g,ty⟩⟩=some (r,⟨nx,mem,arr,⟨obj,g,ty⟩⟩)
theorem runA {m k f:Nat}{args:List V}{r:VRes}(h:evK Tryz.prog HK m k f args (stG (glK v))=some (r,stG (glK v)))(hF:(compF Tryz.prog f).isSome=true)(hH:∀s:St,HK f args s=none)(hb:V.bdL 0 args=true)(h1:Nat.beq f 28=false:=by rfl)(h2:inL f memA=true:=by rfl):RunA (glK v) f args r:=fun nx mem arr obj ty=>upA (runAt h hF hH hb nx mem arr obj ty) h1 h2
theorem a26:RunA (glK v) 28 argM (tabR thM):=fun nx mem arr obj ty=>run_H (by
 have:hMag (glK v) argM=some (tabR thM):=by unfold hMag;rw[if_pos ⟨⟨v,rfl⟩,rfl⟩]
 simp only[HA,show Nat.beq 28 28=true from rfl,cond_true,this,Option.map_some])
theorem f6:RunA (glK v) 6 [] (.ret (.bool true)):=by
 intro nx mem arr obj ty
 have h49:RunA (glK v) 26 [] _:=runA e49 (by kernel_rfl) (fun _=>rfl) rfl
 have h16:RunA (glK v) 27 _ _:=runA e16 (by kernel_rfl) (fun _=>rfl) (by simp[V.bdL])
 have h23:RunA (glK v) 9 _ _:=runA e23 (by kernel_rfl) (fun _=>rfl) (by simp[V.bdL])
 have h21:RunA (glK v) 7 _ _:=runA e21 (by kernel_rfl) (fun _=>rfl) (by simp[V.bdL,V.bd])
 have h32:RunA (glK v) 12 _ _:=runA e32 (by kernel_rfl) (fun _=>rfl) (by simp[V.bdL])
 have h35:RunA (glK v) 16 _ _:=runA e35 (by kernel_rfl) (fun _=>rfl) (by simp[V.bdL])
 have h26:=a26 (v:=v)
 generalize glK v=g at *
 have h50:=fun(a:Row) (hl:a.length<140737488355328) (st:St)=>f29 (st:=st) hl
 have hL:=h50 thL (by decide)
 have hC:=h50 (thC.getD 1 []) (by decide)
 have hA1:=h50 (thA.getD 1 []) (by decide)
 have hA2:=h50 (thA.getD 2 []) (by decide)
 have hM1:=h50 (thM.getD 1 []) (by decide)
 have hM2:=h50 (thM.getD 2 []) (by decide)
 have hP1:=h50 (thP.getD 1 []) (by decide)
 have hs:thS.v=.agg [.str thS.title,.sl (thS.curves.map Pt.vs),.sl (thS.profs.map Prof.v),.sl (thS.fixts.map Fixt.v),.sl (thS.grps.map Grp.v),.sl (thS.pals.map Pal.v),.sl (thS.lsts.map Lst.v),.sl (thS.subs.map Sb.v),.sl (thS.effs.map Eff.v)]:=rfl
 simp only[tabR,tabV,rowV,argM,hs,thH,thL,thC,thA,thM,thP,List.map_cons,List.map_nil,List.getD_cons_succ,List.getD_cons_zero]at h49 h16 h23 h21 h32 h35 h26 hL hC hA1 hA2 hM1 hM2 hP1
 generalize thS.title=t1 at *
 generalize thS.curves=t2 at *
 generalize thS.profs=t3 at *
 generalize thS.fixts=t4 at *
 generalize thS.grps=t5 at *
 generalize thS.pals=t6 at *
 generalize thS.lsts=t7 at *
 generalize thS.subs=t8 at *
 generalize thS.effs=t9 at *
 rw[run_shut F6 rfl rfl rfl]
 push_cast at h49 h16 h23 h21 h32 h35 h26 hL hC hA1 hA2 hM1 hM2 hP1
 push_cast[h49,h16,h23,h21,h32,h35,h26,hL,hC,hA1,hA2,hM1,hM2,hP1,List.length_cons,List.length_nil,List.getD_cons_succ,List.getD_cons_zero]
end Go.Proofs.YtdkokbhcjmapdaaGreatDoor

namespace Go.Proofs.YtdkokbhcjmapdaaGreatDoor
open Go.Sha
set_option maxRecDepth 10000
theorem F117:compF Tryz.prog 117=some ⟨13,[.tmp 4,.tmp 5,.tmp 6],(.g [.s 4 (.mv (.w [])),.s 5 (.mv (.w [])),.k 6 false] (.g [.m 7 0,.m 8 1,.g' 9 185 7 8,.j 10 0 9,.j 11 1 9,.j 12 2 9,.m 4 10,.m 5 11,.m 6 12] (.ret [4,5,6])))⟩:=by kernel_rfl
theorem F121:compF Tryz.prog 121=some ⟨8,[.tmp 4],(.g [.k 4 false] (.g [.m 5 0,.m 6 1,.g' 7 188 5 6,.m 4 7] (.ret [4])))⟩:=by kernel_rfl
theorem F186:compF Tryz.prog 186=some ⟨9,[.tmp 4],(.g [.k 4 false] (.g [.m 5 0,.m 6 1,.g' 7 177 5 6,.v 8 .geq 7 0,.m 4 8] (.ret [4])))⟩:=by kernel_rfl
theorem F185:compF Tryz.prog 185=some ⟨23,[.tmp 4,.tmp 5,.tmp 6],(.g [.s 4 (.mv (.w [])),.s 5 (.mv (.w [])),.k 6 false] (.join [0] (.g [.m 8 0,.m 9 1,.g' 10 243 8 9,.m 7 10] (.g [.m 11 7,.v 12 .geq 11 0] (.i 12 (.q (.dreg 12 [.m 13 0,.m 14 7,.s 15 (.slices (.t 13) none (some (.t 14))),.m 16 0,.m 17 7,.m 18 1,.s 19 (.lens (.t 18)),.b 20 .add 17 19,.s 21 (.slices (.t 16) (some (.t 20)) none),.m 4 15,.m 5 21,.k 6 true]) (.ret [4,5,6])) .skip))) (.g [.m 22 0,.m 4 22,.s 5 (.mv (.w [])),.k 6 false] (.ret [4,5,6]))))⟩:=by kernel_rfl
theorem F188:compF Tryz.prog 188=some ⟨21,[.tmp 4],(.g [.k 4 false] (.join [4] (.reg [.m 5 0,.s 6 (.lens (.t 5)),.m 7 1,.s 8 (.lens (.t 7)),.b 9 .geq 6 8,.m 10 9,.my 11 0 10,.my 12 0 10,.y 13 (.lens (.t 12)) 10,.my 14 1 10,.y 15 (.lens (.t 14)) 10,.by' 16 .sub 13 15 10,.y 17 (.slices (.t 11) (some (.t 16)) none) 10,.my 18 1 10,.by' 19 .eql 17 18 10,.e 20 10 19,.m 4 20]) (.ret [4])))⟩:=by kernel_rfl
theorem F177:compF Tryz.prog 177=some ⟨8,[.tmp 4],(.g [.c 4 0] (.g [.m 5 0,.m 6 1,.s 7 (.f 239 [.t 5,.t 6,(.c (.bool true))]),.m 4 7] (.ret [4])))⟩:=by kernel_rfl
theorem F327:compF Tryz.prog 327=some ⟨43,[.tmp 4],(.g [.s 4 (.mv (.w []))] (.join [0,1] (.join [0,1,12] (.reg [.m 7 0,.s 8 (.bin .eql (.t 7) (.w [])),.m 9 8,.mx 10 1 9,.x 11 (.bin .eql (.t 10) (.w [])) 9,.o 12 9 11]) (.i 12 (.g [.m 13 0,.m 4 13] (.ret [4])) .skip)) (.join [0,1] (.join [0,1,21] (.reg [.m 14 1,.s 15 (.lens (.t 14)),.v 16 .eql 15 1,.m 17 16,.my 18 1 17,.y 19 (.ichr (.t 18) (.i 0)) 17,.y 20 (.bin .lss (.t 19) (.c (.int .u8 128))) 17,.e 21 17 20]) (.i 21 (.q (.dreg 8 [.m 22 0,.m 23 1,.s 24 (.ichr (.t 23) (.i 0)),.g' 25 113 22 24,.m 26 1,.s 27 (.ichr (.t 26) (.i 0)),.g' 28 362 25 27,.m 4 28]) (.ret [4])) .skip)) (.join [0,1] (.g [.m 30 1,.f 31 114 30,.m 29 31,.j 32 0 29,.j 33 1 29,.s 5 (.alloc 201 (List.replicate 256 (.bool false))),.w 256 5 32,.m 6 33] (.z [5] (.g [.m 34 6] (.i 34 (.g [.m 35 0,.g' 36 115 35 5,.g' 37 363 36 5,.m 4 37] (.ret [4])) .skip)))) (.g [.m 38 0,.m 39 1,.g' 40 116 38 39,.m 41 1,.g' 42 364 40 41,.m 4 42] (.ret [4]))))))⟩:=by kernel_rfl
def B363_0:Cd:=(.join [0,1] (.g [.m 5 0,.s 6 (.lens (.t 5)),.v 7 .gtr 6 0] (.i 7 .skip (.exit [0] 0))) (.block 1 (.join [0,1] (.g [.m 8 1,.m 9 0,.s 10 (.ichr (.t 9) (.i 0)),.g' 11 182 8 10,.z 12 11] (.i 12 (.exit [0] 0) .skip)) (.reg [.m 13 0,.s 14 (.slices (.t 13) (some (.i 1)) none),.m 0 14]))))
theorem F363:compF Tryz.prog 363=some ⟨16,[.tmp 4],(.g [.s 4 (.mv (.w []))] (.join [0] (.block 0 (.loop [0,1] [] B363_0)) (.g [.m 15 0,.m 4 15] (.ret [4]))))⟩:=by kernel_rfl
def B115_0:Cd:=(.join [0,1] (.g [.m 5 0,.s 6 (.lens (.t 5)),.v 7 .gtr 6 0] (.i 7 .skip (.exit [0] 0))) (.block 1 (.join [0,1] (.g [.m 8 1,.m 9 0,.m 10 0,.s 11 (.lens (.t 10)),.v 12 .sub 11 1,.s 13 (.ichr (.t 9) (.t 12)),.g' 14 182 8 13,.z 15 14] (.i 15 (.exit [0] 0) .skip)) (.reg [.m 16 0,.m 17 0,.s 18 (.lens (.t 17)),.v 19 .sub 18 1,.s 20 (.slices (.t 16) none (some (.t 19))),.m 0 20]))))
theorem F115:compF Tryz.prog 115=some ⟨22,[.tmp 4],(.g [.s 4 (.mv (.w []))] (.join [0] (.block 0 (.loop [0,1] [] B115_0)) (.g [.m 21 0,.m 4 21] (.ret [4]))))⟩:=by kernel_rfl
theorem F182:compF Tryz.prog 182=some ⟨10,[.tmp 4],(.g [.k 4 false] (.g [.m 5 0,.m 6 1,.s 7 (.k 5),.s 8 (.iadra 256 1 (.t 7) (.t 6)),.l 9 8,.m 4 9] (.ret [4])))⟩:=by kernel_rfl
end Go.Proofs.YtdkokbhcjmapdaaGreatDoor

namespace Go.Proofs
open Go.Shelf
def Tryz.lays156_ren:Go.Shelf.Ren:=⟨fun|156=>54|165=>103|166=>61|169=>64|240=>109|241=>168|276=>178|277=>234|n=>n,fun|31=>59|9=>9|3=>3|4=>4|0=>0|20=>20|72=>130|76=>133|70=>127|37=>128|75=>132|127=>206|164=>259|5=>5|80=>137|n=>n,fun|n=>n⟩
theorem Tryz.lays156:Go.Proofs.Lays.n156 Tryz.prog Tryz.lays156_ren:={
 mixed:=by kernel_rfl
 f156:=Tryz.func54.trans (congrArg some (by kernel_rfl))
 f165:=Tryz.func103.trans (congrArg some (by kernel_rfl))
 f166:=Tryz.func61.trans (congrArg some (by kernel_rfl))
 f169:=Tryz.func64.trans (congrArg some (by kernel_rfl))
 f240:=Tryz.func109.trans (congrArg some (by kernel_rfl))
 f241:=Tryz.func168.trans (congrArg some (by kernel_rfl))
 f276:=Tryz.func178.trans (congrArg some (by kernel_rfl))
 f277:=Tryz.func234.trans (congrArg some (by kernel_rfl))
 t0:=Tryz.underlying0
 a0:=Tryz.isAgg0
 z0:=Tryz.sizeOf0
 v0:=Tryz.zeroValue0
 t3:=Tryz.underlying3
 a3:=Tryz.isAgg3
 z3:=Tryz.sizeOf3
 v3:=Tryz.zeroValue3
 t4:=Tryz.underlying4
 a4:=Tryz.isAgg4
 z4:=Tryz.sizeOf4
 v4:=Tryz.zeroValue4
 t9:=Tryz.underlying9
 a9:=Tryz.isAgg9
 z9:=Tryz.sizeOf9
 v9:=Tryz.zeroValue9
 t20:=Tryz.underlying20
 a20:=Tryz.isAgg20
 z20:=Tryz.sizeOf20
 v20:=Tryz.zeroValue20
 t31:=Tryz.underlying59
 a31:=Tryz.isAgg59
 z31:=Tryz.sizeOf59
 v31:=Tryz.zeroValue59
 t37:=Tryz.underlying128
 a37:=Tryz.isAgg128
 z37:=Tryz.sizeOf128
 v37:=Tryz.zeroValue128
 t70:=Tryz.underlying127
 a70:=Tryz.isAgg127
 z70:=Tryz.sizeOf127
 v70:=Tryz.zeroValue127
 t72:=Tryz.underlying130
 a72:=Tryz.isAgg130
 z72:=Tryz.sizeOf130
 v72:=Tryz.zeroValue130
 t75:=Tryz.underlying132
 a75:=Tryz.isAgg132
 z75:=Tryz.sizeOf132
 v75:=Tryz.zeroValue132
 t76:=Tryz.underlying133
 a76:=Tryz.isAgg133
 z76:=Tryz.sizeOf133
 v76:=Tryz.zeroValue133
 t127:=Tryz.underlying206
 a127:=Tryz.isAgg206
 z127:=Tryz.sizeOf206
 v127:=Tryz.zeroValue206
 t164:=Tryz.underlying259
 a164:=Tryz.isAgg259
 z164:=Tryz.sizeOf259
 v164:=Tryz.zeroValue259 }
theorem Tryz.Builder_Extra_156:Builder.Extra Tryz.prog Tryz.lays156_ren:={
 sizeBuilder:=by kernel_rfl
 liesBuilder:=by kernel_rfl
 t5:=Tryz.underlying5
 a5:=Tryz.isAgg5
 z5:=Tryz.sizeOf5
 v5:=Tryz.zeroValue5
 infoByte:=by kernel_rfl
 cellsByte:=by kernel_rfl
 sizeByte:=by kernel_rfl
 neB5:=by decide }
open Go.RowKit in
theorem Tryz.strings_Join_none (a:Option Addr)(c:Nat)(sep:ByteArray)(w:World) :
  Calls Tryz.prog 54 #[.slice a 0 c,.string sep] w fun e w'=>e=.returned (.string ⟨#[]⟩)∧w'=w:=Any.strings_Join_none Tryz.lays156 Tryz.Builder_Extra_156 a c sep w
open Go.RowKit in
theorem Tryz.strings_Join (bk o c:Nat)(xs:List ByteArray)(sep:ByteArray)(w:World)(hcells:∀(j:Nat) x,xs[j]?=some x→w.cell? ⟨bk,o+j,none⟩=some (.string x))(hbk:bk<w.heap.size)(hN:xs.length≤140737488355328)(hcap:xs.length≤c)(hlen:(Lib.join (xs.map (·.data.toList)) sep.data.toList).length≤140737488355328) :
  Calls Tryz.prog 54 #[.slice (some ⟨bk,o,none⟩) xs.length c,.string sep] w fun e w'=>e=.returned (.string ⟨(Lib.join (xs.map (·.data.toList)) sep.data.toList).toArray⟩)∧Below w.heap.size w w':=Any.strings_Join Tryz.lays156 Tryz.Builder_Extra_156 bk o c xs sep w hcells hbk hN hcap hlen
def Tryz.laysM171_ren:Go.Shelf.Ren:=⟨fun|171=>73|243=>140|246=>205|283=>270|284=>271|285=>272|286=>273|129=>259|317=>323|318=>324|319=>325|320=>326|337=>360|338=>361|n=>n,fun|3=>3|9=>9|2=>2|4=>4|171=>339|0=>0|53=>264|37=>128|5=>5|173=>341|212=>381|51=>261|20=>20|213=>382|46=>194|232=>422|233=>423|n=>n,fun|17=>3|18=>6|19=>7|n=>n⟩
theorem Tryz.laysM171:Go.Proofs.LaysM.n171 Tryz.prog Tryz.laysM171_ren:={
 mixed:=by kernel_rfl
 f129:=Tryz.func259.trans (congrArg some (by kernel_rfl))
 f171:=Tryz.func73.trans (congrArg some (by kernel_rfl))
 f243:=Tryz.func140.trans (congrArg some (by kernel_rfl))
 f246:=Tryz.func205.trans (congrArg some (by kernel_rfl))
 f283:=Tryz.func270.trans (congrArg some (by kernel_rfl))
 f284:=Tryz.func271.trans (congrArg some (by kernel_rfl))
 f285:=Tryz.func272.trans (congrArg some (by kernel_rfl))
 f286:=Tryz.func273.trans (congrArg some (by kernel_rfl))
 f317:=Tryz.func323.trans (congrArg some (by kernel_rfl))
 f318:=Tryz.func324.trans (congrArg some (by kernel_rfl))
 f319:=Tryz.func325.trans (congrArg some (by kernel_rfl))
 f320:=Tryz.func326.trans (congrArg some (by kernel_rfl))
 f337:=Tryz.func360.trans (congrArg some (by kernel_rfl))
 f338:=Tryz.func361.trans (congrArg some (by kernel_rfl))
 t0:=Tryz.underlying0
 a0:=Tryz.isAgg0
 z0:=Tryz.sizeOf0
 v0:=Tryz.zeroValue0
 t2:=Tryz.underlying2
 a2:=Tryz.isAgg2
 z2:=Tryz.sizeOf2
 v2:=Tryz.zeroValue2
 t3:=Tryz.underlying3
 a3:=Tryz.isAgg3
 z3:=Tryz.sizeOf3
 v3:=Tryz.zeroValue3
 t4:=Tryz.underlying4
 a4:=Tryz.isAgg4
 z4:=Tryz.sizeOf4
 v4:=Tryz.zeroValue4
 t5:=Tryz.underlying5
 a5:=Tryz.isAgg5
 z5:=Tryz.sizeOf5
 v5:=Tryz.zeroValue5
 t9:=Tryz.underlying9
 a9:=Tryz.isAgg9
 z9:=Tryz.sizeOf9
 v9:=Tryz.zeroValue9
 t20:=Tryz.underlying20
 a20:=Tryz.isAgg20
 z20:=Tryz.sizeOf20
 v20:=Tryz.zeroValue20
 t37:=Tryz.underlying128
 a37:=Tryz.isAgg128
 z37:=Tryz.sizeOf128
 v37:=Tryz.zeroValue128
 t46:=Tryz.underlying194
 a46:=Tryz.isAgg194
 z46:=Tryz.sizeOf194
 v46:=Tryz.zeroValue194
 t51:=Tryz.underlying261
 a51:=Tryz.isAgg261
 z51:=Tryz.sizeOf261
 v51:=Tryz.zeroValue261
 t53:=Tryz.underlying264
 a53:=Tryz.isAgg264
 z53:=Tryz.sizeOf264
 v53:=Tryz.zeroValue264
 t171:=Tryz.underlying339
 a171:=Tryz.isAgg339
 z171:=Tryz.sizeOf339
 v171:=Tryz.zeroValue339
 t173:=Tryz.underlying341
 a173:=Tryz.isAgg341
 z173:=Tryz.sizeOf341
 v173:=Tryz.zeroValue341
 t212:=Tryz.underlying381
 a212:=Tryz.isAgg381
 z212:=Tryz.sizeOf381
 v212:=Tryz.zeroValue381
 t213:=Tryz.underlying382
 a213:=Tryz.isAgg382
 z213:=Tryz.sizeOf382
 t232:=Tryz.underlying422
 a232:=Tryz.isAgg422
 z232:=Tryz.sizeOf422
 v232:=Tryz.zeroValue422
 t233:=Tryz.underlying423
 a233:=Tryz.isAgg423
 z233:=Tryz.sizeOf423
 v233:=Tryz.zeroValue423
 g17:=by kernel_rfl
 g18:=by kernel_rfl
 g19:=by kernel_rfl
 i0:=by kernel_rfl
 i2:=by kernel_rfl
 i3:=by kernel_rfl
 i4:=by kernel_rfl
 i5:=by kernel_rfl
 i9:=by kernel_rfl
 i20:=by kernel_rfl
 i37:=by kernel_rfl
 i46:=by kernel_rfl
 i51:=by kernel_rfl
 i53:=by kernel_rfl
 i171:=by kernel_rfl
 i173:=by kernel_rfl
 i212:=by kernel_rfl
 i232:=by kernel_rfl
 i233:=by kernel_rfl
 m17:=by kernel_rfl
 m18:=by kernel_rfl
 m19:=by kernel_rfl }
open Go.RowKit Go.Sort Go.Lib in
theorem Tryz.strconv_Itoa (n:Int)(h0:-9223372036854775808≤n)(h1:n≤9223372036854775807)(w:World)(htab:Lib.TabIs Tryz.prog w "internal/strconv.uint64pow10" .u64 Lib.pow10Tab) :
  Calls Tryz.prog 73 #[.int .i64 n] w fun e w'=>e=.returned (.string ⟨(Lib.itoa n).toArray⟩)∧∃k os,w'=grow (w.drewN k) os:=Any.strconv_Itoa Tryz.laysM171 n h0 h1 w htab
def Tryz.laysC172_ren:Go.Shelf.Ren:=⟨fun|172=>378|244=>385|245=>386|247=>388|279=>389|280=>390|281=>391|282=>392|287=>393|316=>394|171=>73|205=>395|321=>396|322=>397|243=>140|246=>205|283=>270|284=>271|285=>272|286=>273|129=>259|317=>323|318=>324|319=>325|320=>326|337=>360|338=>361|n=>n,fun|9=>9|3=>3|75=>132|76=>133|4=>4|5=>5|167=>432|37=>128|0=>0|85=>433|2=>2|168=>435|53=>264|175=>438|46=>194|210=>442|127=>206|145=>447|143=>445|21=>21|171=>339|173=>341|212=>381|51=>261|20=>20|213=>382|232=>422|233=>423|80=>137|n=>n,fun|15=>8|16=>9|17=>3|18=>6|19=>7|n=>n⟩
theorem Tryz.laysC172:Go.Proofs.LaysC.n172 Tryz.prog Tryz.laysC172_ren:={
 mixed:=by kernel_rfl
 f129:=Tryz.func259.trans (congrArg some (by kernel_rfl))
 f171:=Tryz.func73.trans (congrArg some (by kernel_rfl))
 f172:=Tryz.func378.trans (congrArg some (by kernel_rfl))
 f205:=Tryz.func395.trans (congrArg some (by kernel_rfl))
 f243:=Tryz.func140.trans (congrArg some (by kernel_rfl))
 f244:=Tryz.func385.trans (congrArg some (by kernel_rfl))
 f245:=Tryz.func386.trans (congrArg some (by kernel_rfl))
 f246:=Tryz.func205.trans (congrArg some (by kernel_rfl))
 f247:=Tryz.func388.trans (congrArg some (by kernel_rfl))
 f279:=Tryz.func389.trans (congrArg some (by kernel_rfl))
 f280:=Tryz.func390.trans (congrArg some (by kernel_rfl))
 f281:=Tryz.func391.trans (congrArg some (by kernel_rfl))
 f282:=Tryz.func392.trans (congrArg some (by kernel_rfl))
 f283:=Tryz.func270.trans (congrArg some (by kernel_rfl))
 f284:=Tryz.func271.trans (congrArg some (by kernel_rfl))
 f285:=Tryz.func272.trans (congrArg some (by kernel_rfl))
 f286:=Tryz.func273.trans (congrArg some (by kernel_rfl))
 f287:=Tryz.func393.trans (congrArg some (by kernel_rfl))
 f316:=Tryz.func394.trans (congrArg some (by kernel_rfl))
 f317:=Tryz.func323.trans (congrArg some (by kernel_rfl))
 f318:=Tryz.func324.trans (congrArg some (by kernel_rfl))
 f319:=Tryz.func325.trans (congrArg some (by kernel_rfl))
 f320:=Tryz.func326.trans (congrArg some (by kernel_rfl))
 f321:=Tryz.func396.trans (congrArg some (by kernel_rfl))
 f322:=Tryz.func397.trans (congrArg some (by kernel_rfl))
 f337:=Tryz.func360.trans (congrArg some (by kernel_rfl))
 f338:=Tryz.func361.trans (congrArg some (by kernel_rfl))
 t0:=Tryz.underlying0
 a0:=Tryz.isAgg0
 z0:=Tryz.sizeOf0
 v0:=Tryz.zeroValue0
 t2:=Tryz.underlying2
 a2:=Tryz.isAgg2
 z2:=Tryz.sizeOf2
 v2:=Tryz.zeroValue2
 t3:=Tryz.underlying3
 a3:=Tryz.isAgg3
 z3:=Tryz.sizeOf3
 v3:=Tryz.zeroValue3
 t4:=Tryz.underlying4
 a4:=Tryz.isAgg4
 z4:=Tryz.sizeOf4
 v4:=Tryz.zeroValue4
 t5:=Tryz.underlying5
 a5:=Tryz.isAgg5
 z5:=Tryz.sizeOf5
 v5:=Tryz.zeroValue5
 t9:=Tryz.underlying9
 a9:=Tryz.isAgg9
 z9:=Tryz.sizeOf9
 v9:=Tryz.zeroValue9
 t20:=Tryz.underlying20
 a20:=Tryz.isAgg20
 z20:=Tryz.sizeOf20
 v20:=Tryz.zeroValue20
 t21:=Tryz.underlying21
 a21:=Tryz.isAgg21
 z21:=Tryz.sizeOf21
 v21:=Tryz.zeroValue21
 t37:=Tryz.underlying128
 a37:=Tryz.isAgg128
 z37:=Tryz.sizeOf128
 v37:=Tryz.zeroValue128
 t46:=Tryz.underlying194
 a46:=Tryz.isAgg194
 z46:=Tryz.sizeOf194
 v46:=Tryz.zeroValue194
 t51:=Tryz.underlying261
 a51:=Tryz.isAgg261
 z51:=Tryz.sizeOf261
 v51:=Tryz.zeroValue261
 t53:=Tryz.underlying264
 a53:=Tryz.isAgg264
 z53:=Tryz.sizeOf264
 v53:=Tryz.zeroValue264
 t75:=Tryz.underlying132
 a75:=Tryz.isAgg132
 z75:=Tryz.sizeOf132
 v75:=Tryz.zeroValue132
 t76:=Tryz.underlying133
 a76:=Tryz.isAgg133
 z76:=Tryz.sizeOf133
 v76:=Tryz.zeroValue133
 t85:=Tryz.underlying433
 a85:=Tryz.isAgg433
 z85:=Tryz.sizeOf433
 v85:=Tryz.zeroValue433
 t127:=Tryz.underlying206
 a127:=Tryz.isAgg206
 z127:=Tryz.sizeOf206
 v127:=Tryz.zeroValue206
 t143:=Tryz.underlying445
 a143:=Tryz.isAgg445
 z143:=Tryz.sizeOf445
 v143:=Tryz.zeroValue445
 t145:=Tryz.underlying447
 a145:=Tryz.isAgg447
 z145:=Tryz.sizeOf447
 v145:=Tryz.zeroValue447
 t167:=Tryz.underlying432
 a167:=Tryz.isAgg432
 z167:=Tryz.sizeOf432
 v167:=Tryz.zeroValue432
 t168:=Tryz.underlying435
 a168:=Tryz.isAgg435
 z168:=Tryz.sizeOf435
 v168:=Tryz.zeroValue435
 t171:=Tryz.underlying339
 a171:=Tryz.isAgg339
 z171:=Tryz.sizeOf339
 v171:=Tryz.zeroValue339
 t173:=Tryz.underlying341
 a173:=Tryz.isAgg341
 z173:=Tryz.sizeOf341
 v173:=Tryz.zeroValue341
 t175:=Tryz.underlying438
 a175:=Tryz.isAgg438
 z175:=Tryz.sizeOf438
 v175:=Tryz.zeroValue438
 t210:=Tryz.underlying442
 a210:=Tryz.isAgg442
 z210:=Tryz.sizeOf442
 v210:=Tryz.zeroValue442
 t212:=Tryz.underlying381
 a212:=Tryz.isAgg381
 z212:=Tryz.sizeOf381
 v212:=Tryz.zeroValue381
 t213:=Tryz.underlying382
 a213:=Tryz.isAgg382
 z213:=Tryz.sizeOf382
 t232:=Tryz.underlying422
 a232:=Tryz.isAgg422
 z232:=Tryz.sizeOf422
 v232:=Tryz.zeroValue422
 t233:=Tryz.underlying423
 a233:=Tryz.isAgg423
 z233:=Tryz.sizeOf423
 v233:=Tryz.zeroValue423
 g15:=by kernel_rfl
 g16:=by kernel_rfl
 g17:=by kernel_rfl
 g18:=by kernel_rfl
 g19:=by kernel_rfl
 t80:=Tryz.underlying137
 a80:=Tryz.isAgg137
 z80:=Tryz.sizeOf137
 v80:=Tryz.zeroValue137
 i0:=by kernel_rfl
 i2:=by kernel_rfl
 i3:=by kernel_rfl
 i4:=by kernel_rfl
 i5:=by kernel_rfl
 i9:=by kernel_rfl
 i20:=by kernel_rfl
 i21:=by kernel_rfl
 i37:=by kernel_rfl
 i46:=by kernel_rfl
 i51:=by kernel_rfl
 i53:=by kernel_rfl
 i75:=by kernel_rfl
 i76:=by kernel_rfl
 i80:=by kernel_rfl
 i85:=by kernel_rfl
 i127:=by kernel_rfl
 i143:=by kernel_rfl
 i145:=by kernel_rfl
 i167:=by kernel_rfl
 i168:=by kernel_rfl
 i171:=by kernel_rfl
 i173:=by kernel_rfl
 i175:=by kernel_rfl
 i210:=by kernel_rfl
 i212:=by kernel_rfl
 i232:=by kernel_rfl
 i233:=by kernel_rfl
 m15:=by kernel_rfl
 m16:=by kernel_rfl
 m17:=by kernel_rfl
 m18:=by kernel_rfl
 m19:=by kernel_rfl
 c0:=by kernel_rfl
 c2:=by kernel_rfl
 c3:=by kernel_rfl
 c4:=by kernel_rfl
 c5:=by kernel_rfl
 c9:=by kernel_rfl
 c20:=by kernel_rfl
 c21:=by kernel_rfl
 c37:=by kernel_rfl
 c46:=by kernel_rfl
 c51:=by kernel_rfl
 c53:=by kernel_rfl
 c75:=by kernel_rfl
 c76:=by kernel_rfl
 c80:=by kernel_rfl
 c85:=by kernel_rfl
 c127:=by kernel_rfl
 c143:=by kernel_rfl
 c145:=by kernel_rfl
 c167:=by kernel_rfl
 c168:=by kernel_rfl
 c171:=by kernel_rfl
 c173:=by kernel_rfl
 c175:=by kernel_rfl
 c210:=by kernel_rfl
 c212:=by kernel_rfl
 c213:=by kernel_rfl
 c232:=by kernel_rfl
 c233:=by kernel_rfl }
open Go.RowKit in
theorem Tryz.strconv_Atoi_ok (s:ByteArray)(hmax:s.size≤9223372036854775806)(v:Int)(h:Lib.atoiAll s.data.toList=.ok v)(w:World) :
  Calls Tryz.prog 378 #[.string s] w fun e w'=>e=.returned (.tuple #[.int .i64 v,.nilIface])∧(w'=w∨∃t,w'=Lib.bytesWorld w 5 t):=Any.strconv_Atoi_ok Tryz.laysC172 s hmax v h w
def Tryz.lays219_ren:Go.Shelf.Ren:=⟨fun|219=>243|217=>307|225=>306|224=>305|267=>308|266=>355|314=>356|n=>n,fun|9=>9|3=>3|4=>4|5=>5|46=>194|146=>262|51=>261|n=>n,fun|1=>1|n=>n⟩
theorem Tryz.lays219:Go.Proofs.Lays.n219 Tryz.prog Tryz.lays219_ren:={
 mixed:=by kernel_rfl
 f217:=Tryz.func307.trans (congrArg some (by kernel_rfl))
 f219:=Tryz.func243.trans (congrArg some (by kernel_rfl))
 f224:=Tryz.func305.trans (congrArg some (by kernel_rfl))
 f225:=Tryz.func306.trans (congrArg some (by kernel_rfl))
 f266:=Tryz.func355.trans (congrArg some (by kernel_rfl))
 f267:=Tryz.func308.trans (congrArg some (by kernel_rfl))
 f314:=Tryz.func356.trans (congrArg some (by kernel_rfl))
 t3:=Tryz.underlying3
 a3:=Tryz.isAgg3
 z3:=Tryz.sizeOf3
 v3:=Tryz.zeroValue3
 t4:=Tryz.underlying4
 a4:=Tryz.isAgg4
 z4:=Tryz.sizeOf4
 v4:=Tryz.zeroValue4
 t5:=Tryz.underlying5
 a5:=Tryz.isAgg5
 z5:=Tryz.sizeOf5
 v5:=Tryz.zeroValue5
 t9:=Tryz.underlying9
 a9:=Tryz.isAgg9
 z9:=Tryz.sizeOf9
 v9:=Tryz.zeroValue9
 t46:=Tryz.underlying194
 a46:=Tryz.isAgg194
 z46:=Tryz.sizeOf194
 v46:=Tryz.zeroValue194
 t51:=Tryz.underlying261
 a51:=Tryz.isAgg261
 z51:=Tryz.sizeOf261
 v51:=Tryz.zeroValue261
 t146:=Tryz.underlying262
 a146:=Tryz.isAgg262
 z146:=Tryz.sizeOf262
 v146:=Tryz.zeroValue262
 g1:=by kernel_rfl }
open Go.RowKit Go.Lib in
theorem Tryz.stringslite_Index_one (s:ByteArray)(c:UInt8)(w:World) :
  Calls Tryz.prog 243 #[.string s,.string ⟨#[c]⟩] w fun e w'=>e=.returned (.int .i64 (Lib.indexByte s.data.toList c))∧w'=w:=Any.stringslite_Index_one Tryz.lays219 s c w
def Tryz.lays315_ren:Go.Shelf.Ren:=⟨fun|315=>239|n=>n,fun|9=>9|40=>257|4=>4|3=>3|0=>0|21=>21|n=>n,fun|n=>n⟩
theorem Tryz.lays315:Go.Proofs.Lays.n315 Tryz.prog Tryz.lays315_ren:={
 mixed:=by kernel_rfl
 f315:=Tryz.func239.trans (congrArg some (by kernel_rfl))
 t0:=Tryz.underlying0
 a0:=Tryz.isAgg0
 z0:=Tryz.sizeOf0
 v0:=Tryz.zeroValue0
 t3:=Tryz.underlying3
 a3:=Tryz.isAgg3
 z3:=Tryz.sizeOf3
 v3:=Tryz.zeroValue3
 t4:=Tryz.underlying4
 a4:=Tryz.isAgg4
 z4:=Tryz.sizeOf4
 v4:=Tryz.zeroValue4
 t9:=Tryz.underlying9
 a9:=Tryz.isAgg9
 z9:=Tryz.sizeOf9
 v9:=Tryz.zeroValue9
 t21:=Tryz.underlying21
 a21:=Tryz.isAgg21
 z21:=Tryz.sizeOf21
 v21:=Tryz.zeroValue21
 t40:=Tryz.underlying257
 a40:=Tryz.isAgg257
 z40:=Tryz.sizeOf257
 v40:=Tryz.zeroValue257 }
open Go.RowKit Go.Lib in
theorem Tryz.strings_indexFunc (g:Nat)(lb:Array Value)(eg:∀args w,(callFunc g args).run Tryz.prog w=.ok (.enter g args) w)(p:Nat→Bool)(truth:Bool)(s:ByteArray)(w:World)(hp:PredAt Tryz.prog g lb encR p w) :
  Calls Tryz.prog 239 #[.string s,.func (.func g) #[] lb,.bool truth] w fun e w'=>e=.returned (.int .i64 (Lib.idxFunc p truth s))∧Below w.heap.size w w':=Any.strings_indexFunc Tryz.lays315 g lb eg p truth s w hp
def Tryz.lays157_ren:Go.Shelf.Ren:=⟨fun|157=>201|229=>266|199=>267|261=>321|311=>358|312=>359|n=>n,fun|9=>9|31=>59|3=>3|5=>5|4=>4|119=>336|0=>0|40=>257|152=>375|21=>21|154=>377|51=>261|141=>379|196=>407|193=>404|198=>410|49=>408|194=>405|201=>413|226=>420|46=>194|227=>421|n=>n,fun|0=>0|6=>2|n=>n⟩
theorem Tryz.lays157:Go.Proofs.Lays.n157 Tryz.prog Tryz.lays157_ren:={
 mixed:=by kernel_rfl
 f157:=Tryz.func201.trans (congrArg some (by kernel_rfl))
 f199:=Tryz.func267.trans (congrArg some (by kernel_rfl))
 f229:=Tryz.func266.trans (congrArg some (by kernel_rfl))
 f261:=Tryz.func321.trans (congrArg some (by kernel_rfl))
 f311:=Tryz.func358.trans (congrArg some (by kernel_rfl))
 f312:=Tryz.func359.trans (congrArg some (by kernel_rfl))
 t0:=Tryz.underlying0
 a0:=Tryz.isAgg0
 z0:=Tryz.sizeOf0
 v0:=Tryz.zeroValue0
 t3:=Tryz.underlying3
 a3:=Tryz.isAgg3
 z3:=Tryz.sizeOf3
 v3:=Tryz.zeroValue3
 t4:=Tryz.underlying4
 a4:=Tryz.isAgg4
 z4:=Tryz.sizeOf4
 v4:=Tryz.zeroValue4
 t5:=Tryz.underlying5
 a5:=Tryz.isAgg5
 z5:=Tryz.sizeOf5
 v5:=Tryz.zeroValue5
 t9:=Tryz.underlying9
 a9:=Tryz.isAgg9
 z9:=Tryz.sizeOf9
 v9:=Tryz.zeroValue9
 t21:=Tryz.underlying21
 a21:=Tryz.isAgg21
 z21:=Tryz.sizeOf21
 v21:=Tryz.zeroValue21
 t31:=Tryz.underlying59
 a31:=Tryz.isAgg59
 z31:=Tryz.sizeOf59
 v31:=Tryz.zeroValue59
 t40:=Tryz.underlying257
 a40:=Tryz.isAgg257
 z40:=Tryz.sizeOf257
 v40:=Tryz.zeroValue257
 t46:=Tryz.underlying194
 a46:=Tryz.isAgg194
 z46:=Tryz.sizeOf194
 v46:=Tryz.zeroValue194
 t49:=Tryz.underlying408
 a49:=Tryz.isAgg408
 z49:=Tryz.sizeOf408
 v49:=Tryz.zeroValue408
 t51:=Tryz.underlying261
 a51:=Tryz.isAgg261
 z51:=Tryz.sizeOf261
 v51:=Tryz.zeroValue261
 t119:=Tryz.underlying336
 a119:=Tryz.isAgg336
 z119:=Tryz.sizeOf336
 t141:=Tryz.underlying379
 a141:=Tryz.isAgg379
 z141:=Tryz.sizeOf379
 v141:=Tryz.zeroValue379
 t152:=Tryz.underlying375
 a152:=Tryz.isAgg375
 z152:=Tryz.sizeOf375
 v152:=Tryz.zeroValue375
 t154:=Tryz.underlying377
 a154:=Tryz.isAgg377
 z154:=Tryz.sizeOf377
 v154:=Tryz.zeroValue377
 t193:=Tryz.underlying404
 a193:=Tryz.isAgg404
 z193:=Tryz.sizeOf404
 v193:=Tryz.zeroValue404
 t194:=Tryz.underlying405
 a194:=Tryz.isAgg405
 z194:=Tryz.sizeOf405
 v194:=Tryz.zeroValue405
 t196:=Tryz.underlying407
 a196:=Tryz.isAgg407
 z196:=Tryz.sizeOf407
 v196:=Tryz.zeroValue407
 t198:=Tryz.underlying410
 a198:=Tryz.isAgg410
 z198:=Tryz.sizeOf410
 v198:=Tryz.zeroValue410
 t201:=Tryz.underlying413
 a201:=Tryz.isAgg413
 z201:=Tryz.sizeOf413
 v201:=Tryz.zeroValue413
 t226:=Tryz.underlying420
 a226:=Tryz.isAgg420
 z226:=Tryz.sizeOf420
 v226:=Tryz.zeroValue420
 t227:=Tryz.underlying421
 a227:=Tryz.isAgg421
 z227:=Tryz.sizeOf421
 v227:=Tryz.zeroValue421
 g0:=by kernel_rfl
 g6:=by kernel_rfl }
open Go.RowKit Go.Lib in
theorem Tryz.strings_Fields (s:ByteArray)(w:World)(hs:s.size<4294967281)(hascii:∀(j:Nat) b,s.data.toList[j]?=some b→b.toNat<128)(htab:Lib.TabIs Tryz.prog w "strings.asciiSpace" .u8 Lib.asciiSpaceTab) :
  Calls Tryz.prog 201 #[.string s] w fun e w' =>
   e=.returned (.slice (some ⟨w.heap.size,0,none⟩) (Lib.fields s.data.toList).length (Lib.fields s.data.toList).length)∧w'=w.alloc (.cells ((Lib.fields s.data.toList).map fun l=>Value.string ⟨l.toArray⟩).toArray 9):=Any.strings_Fields Tryz.lays157 (by kernel_rfl) (by kernel_rfl) s w hs hascii htab
def Tryz.lays227_ren:Go.Shelf.Ren:=⟨fun|227=>114|n=>n,fun|9=>9|116=>201|4=>4|0=>0|3=>3|5=>5|n=>n,fun|n=>n⟩
theorem Tryz.lays227:Go.Proofs.Lays.n227 Tryz.prog Tryz.lays227_ren:={
 mixed:=by kernel_rfl
 f227:=Tryz.func114.trans (congrArg some (by kernel_rfl))
 t0:=Tryz.underlying0
 a0:=Tryz.isAgg0
 z0:=Tryz.sizeOf0
 v0:=Tryz.zeroValue0
 t3:=Tryz.underlying3
 a3:=Tryz.isAgg3
 z3:=Tryz.sizeOf3
 v3:=Tryz.zeroValue3
 t4:=Tryz.underlying4
 a4:=Tryz.isAgg4
 z4:=Tryz.sizeOf4
 v4:=Tryz.zeroValue4
 t5:=Tryz.underlying5
 a5:=Tryz.isAgg5
 z5:=Tryz.sizeOf5
 v5:=Tryz.zeroValue5
 t9:=Tryz.underlying9
 a9:=Tryz.isAgg9
 z9:=Tryz.sizeOf9
 v9:=Tryz.zeroValue9
 t116:=Tryz.underlying201
 a116:=Tryz.isAgg201
 z116:=Tryz.sizeOf201 }
open Go.RowKit Go.Lib in
theorem Tryz.strings_makeASCIISet (hv116:∀w,(zeroValue 201).run Tryz.prog w=.ok (.agg (Array.replicate 256 (.bool false))) w)(chars:ByteArray)(w:World)(hs:chars.size<4294967281)(hascii:∀(j:Nat) b,chars.data.toList[j]?=some b→b.toNat<128) :
  Calls Tryz.prog 114 #[.string chars] w fun e w'=>e=.returned (.tuple #[.agg (Lib.setCells chars.data.toList),.bool true])∧w'=w.alloc (.cells (Lib.setCells chars.data.toList) 201):=Any.strings_makeASCIISet Tryz.lays227 hv116 (by kernel_rfl) chars w hs hascii
def Tryz.lays105_ren:Go.Shelf.Ren:=⟨fun|105=>62|212=>110|99=>111|165=>103|166=>61|170=>112|169=>64|263=>179|264=>180|206=>181|240=>109|241=>168|276=>178|277=>234|n=>n,fun|9=>9|3=>3|4=>4|20=>20|0=>0|46=>194|109=>195|5=>5|72=>130|76=>133|51=>261|146=>262|53=>264|148=>265|70=>127|37=>128|75=>132|127=>206|164=>259|80=>137|n=>n,fun|n=>n⟩
theorem Tryz.lays105:Go.Proofs.Lays.n105 Tryz.prog Tryz.lays105_ren:={
 mixed:=by kernel_rfl
 f99:=Tryz.func111.trans (congrArg some (by kernel_rfl))
 f105:=Tryz.func62.trans (congrArg some (by kernel_rfl))
 f165:=Tryz.func103.trans (congrArg some (by kernel_rfl))
 f166:=Tryz.func61.trans (congrArg some (by kernel_rfl))
 f169:=Tryz.func64.trans (congrArg some (by kernel_rfl))
 f170:=Tryz.func112.trans (congrArg some (by kernel_rfl))
 f206:=Tryz.func181.trans (congrArg some (by kernel_rfl))
 f212:=Tryz.func110.trans (congrArg some (by kernel_rfl))
 f240:=Tryz.func109.trans (congrArg some (by kernel_rfl))
 f241:=Tryz.func168.trans (congrArg some (by kernel_rfl))
 f263:=Tryz.func179.trans (congrArg some (by kernel_rfl))
 f264:=Tryz.func180.trans (congrArg some (by kernel_rfl))
 f276:=Tryz.func178.trans (congrArg some (by kernel_rfl))
 f277:=Tryz.func234.trans (congrArg some (by kernel_rfl))
 t0:=Tryz.underlying0
 a0:=Tryz.isAgg0
 z0:=Tryz.sizeOf0
 v0:=Tryz.zeroValue0
 t3:=Tryz.underlying3
 a3:=Tryz.isAgg3
 z3:=Tryz.sizeOf3
 v3:=Tryz.zeroValue3
 t4:=Tryz.underlying4
 a4:=Tryz.isAgg4
 z4:=Tryz.sizeOf4
 v4:=Tryz.zeroValue4
 t5:=Tryz.underlying5
 a5:=Tryz.isAgg5
 z5:=Tryz.sizeOf5
 v5:=Tryz.zeroValue5
 t9:=Tryz.underlying9
 a9:=Tryz.isAgg9
 z9:=Tryz.sizeOf9
 v9:=Tryz.zeroValue9
 t20:=Tryz.underlying20
 a20:=Tryz.isAgg20
 z20:=Tryz.sizeOf20
 v20:=Tryz.zeroValue20
 t37:=Tryz.underlying128
 a37:=Tryz.isAgg128
 z37:=Tryz.sizeOf128
 v37:=Tryz.zeroValue128
 t46:=Tryz.underlying194
 a46:=Tryz.isAgg194
 z46:=Tryz.sizeOf194
 v46:=Tryz.zeroValue194
 t51:=Tryz.underlying261
 a51:=Tryz.isAgg261
 z51:=Tryz.sizeOf261
 v51:=Tryz.zeroValue261
 t53:=Tryz.underlying264
 a53:=Tryz.isAgg264
 z53:=Tryz.sizeOf264
 v53:=Tryz.zeroValue264
 t70:=Tryz.underlying127
 a70:=Tryz.isAgg127
 z70:=Tryz.sizeOf127
 v70:=Tryz.zeroValue127
 t72:=Tryz.underlying130
 a72:=Tryz.isAgg130
 z72:=Tryz.sizeOf130
 v72:=Tryz.zeroValue130
 t75:=Tryz.underlying132
 a75:=Tryz.isAgg132
 z75:=Tryz.sizeOf132
 v75:=Tryz.zeroValue132
 t76:=Tryz.underlying133
 a76:=Tryz.isAgg133
 z76:=Tryz.sizeOf133
 v76:=Tryz.zeroValue133
 t109:=Tryz.underlying195
 a109:=Tryz.isAgg195
 z109:=Tryz.sizeOf195
 v109:=Tryz.zeroValue195
 t127:=Tryz.underlying206
 a127:=Tryz.isAgg206
 z127:=Tryz.sizeOf206
 v127:=Tryz.zeroValue206
 t146:=Tryz.underlying262
 a146:=Tryz.isAgg262
 z146:=Tryz.sizeOf262
 v146:=Tryz.zeroValue262
 t148:=Tryz.underlying265
 a148:=Tryz.isAgg265
 z148:=Tryz.sizeOf265
 v148:=Tryz.zeroValue265
 t164:=Tryz.underlying259
 a164:=Tryz.isAgg259
 z164:=Tryz.sizeOf259
 v164:=Tryz.zeroValue259 }
theorem Tryz.Builder_Extra_105:Builder.Extra Tryz.prog Tryz.lays105_ren:={
 sizeBuilder:=by kernel_rfl
 liesBuilder:=by kernel_rfl
 t5:=Tryz.underlying5
 a5:=Tryz.isAgg5
 z5:=Tryz.sizeOf5
 v5:=Tryz.zeroValue5
 infoByte:=by kernel_rfl
 cellsByte:=by kernel_rfl
 sizeByte:=by kernel_rfl
 neB5:=by decide }
open Go.RowKit Go.Lib in
theorem Tryz.strings_Repeat (s:ByteArray)(c:Nat)(w:World)(hc:c≤9223372036854775807)(hlen:s.size*c≤140737488355328) :
  Calls Tryz.prog 62 #[.string s,.int .i64 c] w fun e w'=>e=.returned (.string ⟨(Lib.repeatL s.data.toList c).toArray⟩)∧Below w.heap.size w w':=Any.strings_Repeat Tryz.lays105 Tryz.Builder_Extra_105 s c w hc hlen
def Tryz.laysSort_ren:Go.Shelf.Ren:=⟨fun|6=>126|15=>195|14=>194|28=>258|29=>259|20=>250|21=>251|22=>252|23=>253|24=>254|25=>255|26=>256|27=>257|46=>314|47=>315|48=>316|49=>317|50=>318|57=>357|n=>n,fun|22=>145|24=>120|25=>218|3=>3|39=>194|0=>0|53=>261|55=>264|4=>4|46=>325|45=>324|50=>281|5=>5|9=>9|66=>367|70=>371|76=>402|77=>75|n=>n,fun|n=>n⟩
theorem Tryz.laysSort:Go.Proofs.SlLaysF0.n6 Tryz.prog Tryz.laysSort_ren:={
 mixed:=by kernel_rfl
 f6:=⟨Tryz.f126.name,by decide,Tryz.func126.trans (congrArg some (by kernel_rfl))⟩
 f14:=⟨Tryz.f194.name,by decide,Tryz.func194.trans (congrArg some (by kernel_rfl))⟩
 f15:=Tryz.func195.trans (congrArg some (by kernel_rfl))
 f20:=⟨Tryz.f250.name,by decide,Tryz.func250.trans (congrArg some (by kernel_rfl))⟩
 f21:=⟨Tryz.f251.name,by decide,Tryz.func251.trans (congrArg some (by kernel_rfl))⟩
 f22:=⟨Tryz.f252.name,by decide,Tryz.func252.trans (congrArg some (by kernel_rfl))⟩
 f23:=⟨Tryz.f253.name,by decide,Tryz.func253.trans (congrArg some (by kernel_rfl))⟩
 f24:=⟨Tryz.f254.name,by decide,Tryz.func254.trans (congrArg some (by kernel_rfl))⟩
 f25:=⟨Tryz.f255.name,by decide,Tryz.func255.trans (congrArg some (by kernel_rfl))⟩
 f26:=⟨Tryz.f256.name,by decide,Tryz.func256.trans (congrArg some (by kernel_rfl))⟩
 f27:=⟨Tryz.f257.name,by decide,Tryz.func257.trans (congrArg some (by kernel_rfl))⟩
 f28:=Tryz.func258.trans (congrArg some (by kernel_rfl))
 f29:=Tryz.func259.trans (congrArg some (by kernel_rfl))
 f46:=⟨Tryz.f314.name,by decide,Tryz.func314.trans (congrArg some (by kernel_rfl))⟩
 f47:=Tryz.func315.trans (congrArg some (by kernel_rfl))
 f48:=Tryz.func316.trans (congrArg some (by kernel_rfl))
 f49:=⟨Tryz.f317.name,by decide,Tryz.func317.trans (congrArg some (by kernel_rfl))⟩
 f50:=⟨Tryz.f318.name,by decide,Tryz.func318.trans (congrArg some (by kernel_rfl))⟩
 f57:=⟨Tryz.f357.name,by decide,Tryz.func357.trans (congrArg some (by kernel_rfl))⟩
 t0:=Tryz.underlying0
 a0:=Tryz.isAgg0
 z0:=Tryz.sizeOf0
 v0:=Tryz.zeroValue0
 t3:=Tryz.underlying3
 a3:=Tryz.isAgg3
 z3:=Tryz.sizeOf3
 v3:=Tryz.zeroValue3
 t4:=Tryz.underlying4
 a4:=Tryz.isAgg4
 z4:=Tryz.sizeOf4
 v4:=Tryz.zeroValue4
 t5:=Tryz.underlying5
 a5:=Tryz.isAgg5
 z5:=Tryz.sizeOf5
 v5:=Tryz.zeroValue5
 t9:=Tryz.underlying9
 a9:=Tryz.isAgg9
 z9:=Tryz.sizeOf9
 v9:=Tryz.zeroValue9
 t22:=Tryz.underlying145
 a22:=Tryz.isAgg145
 z22:=Tryz.sizeOf145
 v22:=Tryz.zeroValue145
 t25:=Tryz.underlying218
 a25:=Tryz.isAgg218
 z25:=Tryz.sizeOf218
 v25:=Tryz.zeroValue218
 t39:=Tryz.underlying194
 a39:=Tryz.isAgg194
 z39:=Tryz.sizeOf194
 v39:=Tryz.zeroValue194
 t45:=Tryz.underlying324
 a45:=Tryz.isAgg324
 z45:=Tryz.sizeOf324
 v45:=Tryz.zeroValue324
 t46:=Tryz.underlying325
 a46:=Tryz.isAgg325
 z46:=Tryz.sizeOf325
 v46:=Tryz.zeroValue325
 t50:=Tryz.underlying281
 a50:=Tryz.isAgg281
 z50:=Tryz.sizeOf281
 v50:=Tryz.zeroValue281
 t53:=Tryz.underlying261
 a53:=Tryz.isAgg261
 z53:=Tryz.sizeOf261
 v53:=Tryz.zeroValue261
 t55:=Tryz.underlying264
 a55:=Tryz.isAgg264
 z55:=Tryz.sizeOf264
 v55:=Tryz.zeroValue264
 t66:=Tryz.underlying367
 a66:=Tryz.isAgg367
 z66:=Tryz.sizeOf367
 v66:=Tryz.zeroValue367
 t70:=Tryz.underlying371
 a70:=Tryz.isAgg371
 z70:=Tryz.sizeOf371
 v70:=Tryz.zeroValue371
 t76:=Tryz.underlying402
 a76:=Tryz.isAgg402
 z76:=Tryz.sizeOf402
 v76:=Tryz.zeroValue402
 t77:=Tryz.underlying75
 a77:=Tryz.isAgg75
 z77:=Tryz.sizeOf75
 v77:=Tryz.zeroValue75 }
open Go.RowKit Go.Sort in
theorem Tryz.sort_none (p:Option Addr)(cap:Nat)(fv:Value)(w:World):Calls Tryz.prog 126 #[.slice p 0 cap,fv] w fun e w'=>e=.returned (.tuple #[])∧w'=w:=AnyF.slices_SortFunc_none Tryz.laysSort p cap fv w
open Go.RowKit Go.Sort in
theorem Tryz.sort_total {α:Type}[Inhabited α](aE:∀w,(isAgg 120).run Tryz.prog w=.ok true w)(zE:∀w,(Go.sizeOf 120).run Tryz.prog w=.ok 2 w)(enc:α→List Value)(hk:∀x,(enc x).length=2)(h1:∀x,∀v∈enc x,v.oneCell'=true)(cf:α→α→Int)(hO:SWO (ltOf cf))(hT:∀x y,(ltOf cf) x y=false→(ltOf cf) y x=false→x=y)(g:Nat)(eg:∀args w,(callFunc g args).run Tryz.prog w=.ok (.enter g args) w)(blk off cap:Nat)(d:Array α)(w:World)
  (hcmp:CmpLays Tryz.prog g #[] enc 2 cf blk off d.size w) (hH:HoldsK enc 2 w blk off d) (hblk:blk<w.heap.size) (hsz:d.size<4611686018427387904) :
  Calls Tryz.prog 126 #[.slice (some ⟨blk,off,none⟩) d.size cap,.func (.func g) #[] #[]] w fun e w'=>e=.returned (.tuple #[])∧∃n os,w'=sortWorldK enc 2 w blk off n (d.toList.mergeSort fun x y=>!(ltOf cf) y x).toArray os:=AnyQ.slices_SortFunc_total Tryz.laysSort 2 aE zE enc hk h1 cf hO g #[] blk off cap d w eg hcmp hH hblk hsz hT
end Go.Proofs

namespace Go.Proofs.YtdkokbhcjmapdaaGreatDoor
open Go.Sha Go.RowKit
set_option maxRecDepth 100000
variable {g:List (Nat×Obj)}{n:Nat}
def othR (r:Nat):Bool:=decide (r<48)||decide (57<r)
def setV:List V:=(List.range 256).map fun n=>.bool (nmW.contains n.toUInt8)
def q243:List V→Option VRes
 |[.str s,.str [c]]=>some (.ret (.int .i64 (Lib.indexByte s c)))
 |_=>none
def q114:List V→Option VRes
 |[.str t]=>if t=nmW then some (.ret (.tup [.agg setV,.bool true])) else none
 |_=>none
def q239:List V→Option VRes
 |[.str s,.fn (.func 187) [] [],.bool true]=>some (.ret (.int .i64 (Lib.idxFunc othR true ⟨s.toArray⟩)))
 |_=>none
def HL0:EvF:=⟨[],fun f args st=>(bif Nat.beq f 243 then q243 args else bif Nat.beq f 114 then q114 args else bif Nat.beq f 239 then q239 args else none).map fun r=>(r,st)⟩
@[push_cast]theorem HL0_raw:HL0.raw=[]:=idq rfl
theorem k243 {s:List UInt8}{c:UInt8}{st:St}:run Tryz.prog HL0 243 [.str s,.str [c]] st=some (.ret (.int .i64 (Lib.indexByte s c)),st):=run_H rfl
theorem k114 {st:St}:run Tryz.prog HL0 114 [.str nmW] st=some (.ret (.tup [.agg setV,.bool true]),st):=run_H rfl
theorem k239 {s:List UInt8}{st:St}:run Tryz.prog HL0 239 [.str s,.fn (.func 187) [] [],.bool true] st=some (.ret (.int .i64 (Lib.idxFunc othR true ⟨s.toArray⟩)),st):=run_H rfl
theorem idx_tw {c:UInt8}:∀{s:List UInt8},Lib.indexByte s c=if s.contains c=true then((s.takeWhile (· != c)).length:Int) else -1
 |[]=>rfl
 |b::s=>by
  have ih:=idx_tw (c:=c) (s:=s)
  rw[Lib.indexByte,ih]
  by_cases h:b=c
  ·subst h;simp
  ·have h2:(b == c)=false:=by simpa using h
   have h3:(b != c)=true:=by simpa using h
   rw[h2,List.takeWhile_cons,if_pos h3,List.contains_cons,show(c == b)=false by simpa using fun e=>h e.symm,Bool.false_or,List.length_cons]
   cases s.contains c
   ·rfl
   ·simp only[if_true]
    rw[if_neg (by simp),if_neg (by simp)];omega
theorem drop_tw {p:UInt8→Bool}{s:List UInt8}:s.drop ((s.takeWhile p).length+1)=(s.dropWhile p).drop 1:=by rw[←List.drop_drop,drop_w]
theorem tw_none {c:UInt8}:∀{s:List UInt8},s.contains c=false→s.takeWhile (· != c)=s∧s.dropWhile (· != c)=[]
 |[],_=>⟨rfl,rfl⟩
 |b::r,h=>by
  have hb:(b != c)=true:=by simp at h ⊢;exact fun e=>h.1 e.symm
  have hr:r.contains c=false:=by simp at h ⊢;exact h.2
  have:=tw_none hr
  simp only[List.takeWhile_cons,List.dropWhile_cons,hb,if_true]
  exact⟨by rw[this.1],this.2⟩
theorem k185 {s:List UInt8}{c:UInt8}(hl:s.length<140737488355328){st:St}:run Tryz.prog HL0 185 [.str s,.str [c]] st=some (.ret (.tup [.str (s.takeWhile (· != c)),.str ((s.dropWhile (· != c)).drop 1),.bool (s.contains c)]),st):=by
 have hi:=idx_tw (c:=c) (s:=s)
 have hle:=(List.takeWhile_sublist (· != c) (l:=s)).length_le
 rw[run_shut F185 rfl rfl rfl]
 cases h:s.contains c with
 |true =>
  have hlt:(s.takeWhile (· != c)).length<s.length:=by
   rcases Nat.lt_or_ge (s.takeWhile (· != c)).length s.length with h2|h2
   ·exact h2
   ·have e:s.takeWhile (· != c)=s:=(List.takeWhile_sublist _).eq_of_length (by omega)
    have:=List.all_takeWhile (p:=(· != c)) (l:=s)
    rw[e,List.all_eq_true]at this
    have:=this c (by simpa using h)
    simp at this
  rw[h,if_pos rfl]at hi
  have hd:=drop_tw (p:=(· != c)) (s:=s)
  have ht:=take_w (p:=(· != c)) (s:=s)
  generalize s.takeWhile (· != c)=a at *
  have hw:IntKind.i64.wrap ((a.length:Int)+1)=((a.length+1:Nat):Int):=iwrap (by omega) (by omega)
  push_cast[k243,hi,hw,ht]
  exact dn_eq (by omega) (by rw[List.take_length,show((a.length:Int)+1).toNat=a.length+1 by omega,hd])
 |false =>
  rw[h,if_neg (by simp)]at hi
  obtain⟨e1,e2⟩:=tw_none h
  rw[e1,e2]
  push_cast[k243,hi]
theorem k117 {s:List UInt8}{c:UInt8}(hl:s.length<140737488355328){st:St}:run Tryz.prog HL0 117 [.str s,.str [c]] st=some (.ret (.tup [.str (s.takeWhile (· != c)),.str ((s.dropWhile (· != c)).drop 1),.bool (s.contains c)]),st):=by
 have h:=fun(st:St)=>k185 (c:=c) (st:=st) hl
 rw[run_shut F117 rfl rfl rfl]
 push_cast[h]
theorem k121 {s t:List UInt8}(hl:s.length<140737488355328)(ht:t.length≤s.length+1000){st:St}:run Tryz.prog HL0 121 [.str s,.str t] st=some (.ret (.bool (t.isSuffixOf s)),st):=by
 have h:∀st,run Tryz.prog HL0 188 [.str s,.str t] st=some (.ret (.bool (t.isSuffixOf s)),st):=fun st=>by
  rw[run_shut F188 rfl rfl rfl]
  by_cases h:t.length≤s.length
  ·have h1:(t.length:Int)≤s.length:=by omega
   have hw:IntKind.i64.wrap ((s.length:Int)-t.length)=((s.length-t.length:Nat):Int):=by rw[iwrap (by omega) (by omega)];omega
   have e:t.isSuffixOf s=(s.drop (s.length-t.length) == t):=by
    rw[Bool.eq_iff_iff,List.isSuffixOf_iff_suffix,List.suffix_iff_eq_drop,beq_iff_eq]
    exact⟨fun h=>h.symm,fun h=>h.symm⟩
   have h2:((s.length-t.length:Nat):Int)≤s.length:=by omega
   generalize s.length-t.length=k at *
   push_cast[h1,hw,h2,List.take_length,e]
  ·have h1:¬(t.length:Int)≤s.length:=by omega
   have e:t.isSuffixOf s=false:=by
    rw[←Bool.not_eq_true,List.isSuffixOf_iff_suffix]
    exact fun h2=>h h2.length_le
   push_cast[h1,e]
 rw[run_shut F121 rfl rfl rfl]
 push_cast[h]
theorem oth_from (s:ByteArray):∀(f pos:Nat),s.size≤pos+f→(decide (Lib.idxFuncFrom othR true s f pos<0))=(s.data.toList.drop pos).all isD
 |0,pos,h=>by
  rw[List.drop_eq_nil_of_le (by rw[Array.length_toList];exact h)];rfl
 |f+1,pos,h=>by
  unfold Lib.idxFuncFrom
  by_cases hp:pos<s.size
  ·have hp':pos<s.data.toList.length:=by rw[Array.length_toList];exact hp
   have hb:s.data.toList[pos]'hp'=s[pos]'hp:=rfl
   rw[if_pos hp,List.drop_eq_getElem_cons hp',List.all_cons,hb]
   by_cases ha:(s[pos]'hp).toNat<128
   ·rw[decode_ascii s pos hp ha]
    have ih:=oth_from s f (pos+1) (by omega)
    cases hd:isD (s[pos]'hp) with
    |true =>
     have:¬othR (s[pos]'hp).toNat=true:=by
      simp only[isD,Bool.and_eq_true,decide_eq_true_eq]at hd
      simp only[othR,Bool.or_eq_true,decide_eq_true_eq];omega
     rw[if_neg this,ih];rfl
    |false =>
     have:othR (s[pos]'hp).toNat=true:=by
      simp only[isD,Bool.and_eq_false_iff,decide_eq_false_iff_not]at hd
      simp only[othR,Bool.or_eq_true,decide_eq_true_eq];omega
     rw[if_pos this]
     simp
   ·obtain⟨h1,h2⟩:=decode_high s pos hp (by omega)
    have:othR (Utf8.decode s pos).1=true:=by
     simp only[othR,Bool.or_eq_true,decide_eq_true_eq];omega
    have hd:isD (s[pos]'hp)=false:=by
     simp only[isD,Bool.and_eq_false_iff,decide_eq_false_iff_not];omega
    rw[if_pos this,hd]
    simp
  ·rw[if_neg hp,List.drop_eq_nil_of_le (by rw[Array.length_toList];exact Nat.le_of_not_lt hp)];rfl
theorem oth_idx (s:List UInt8):decide (Lib.idxFunc othR true ⟨s.toArray⟩<0)=s.all isD:=by
 have:=oth_from ⟨s.toArray⟩ s.length 0 (by simp[ByteArray.size])
 simpa [Lib.idxFunc,ByteArray.size] using this
theorem k186 {s:List UInt8}{st:St}:run Tryz.prog HL0 186 [.str s,.fn (.func 187) [] []] st=some (.ret (.bool (s.any (!isD ·))),st):=by
 have h:∀st,run Tryz.prog HL0 177 [.str s,.fn (.func 187) [] []] st=some (.ret (.int .i64 (Lib.idxFunc othR true ⟨s.toArray⟩)),st):=fun st=>by
  rw[run_shut F177 rfl rfl rfl]
  push_cast[k239]
 have e:decide (0≤Lib.idxFunc othR true ⟨s.toArray⟩)=s.any (!isD ·):=by
  have:=oth_idx s
  have h2:decide (0≤Lib.idxFunc othR true ⟨s.toArray⟩)=!(decide (Lib.idxFunc othR true ⟨s.toArray⟩<0)):=by
   rw[Bool.eq_iff_iff];simp
  rw[h2,this,List.not_all_eq_any_not]
 rw[run_shut F186 rfl rfl rfl]
 push_cast[h,e]
theorem setV_len:setV.length=256:=by simp[setV]
theorem setV_bd:V.bdL n setV=true:=by
 have:=bdL_map' (n:=n) (f:=fun k:Nat=>V.bool (nmW.contains k.toUInt8)) (l:=List.range 256)
 rw[setV,this];simp[V.bd]
theorem setV_get (b:UInt8):setV[b.toNat]?=some (.bool (nmW.contains b)):=by
 rw[setV,List.getElem?_map,List.getElem?_range b.toNat_lt];simp
theorem k182 {b:UInt8}{st:St}:run Tryz.prog HL0 182 [.ep (.agg setV) 0,.int .u8 b.toNat] st=some (.ret (.bool (nmW.contains b)),st):=by
 have hb:=b.toNat_lt
 have hg:=setV_get b
 have hl:=setV_len
 have hd:=fun n=>setV_bd (n:=n)
 rw[run_shut F182 rfl rfl (by simp[V.bdL,V.bd,hd])]
 generalize nmW.contains b=c at *
 generalize setV=z at *
 push_cast[hb,hg,hl,hd,Nat.mul_one]
 all_goals exact dn_eq hb rfl
theorem L363:∀{t:List UInt8},t.length<140737488355328→runL Tryz.prog HL0 [0,1] n B363_0 [(0,.str t),(1,.ep (.agg setV) 0)] (stN g n)=some (.exit 0,[(0,.str (t.dropWhile nmW.contains))],stN g n)
 |[],_=>by
  have hd:=fun n=>setV_bd (n:=n)
  rw[runL_of B363_0.eq_1]
  generalize setV=z at *
  push_cast[List.length_nil,List.dropWhile_nil,hd]
 |b::t,hl=>by
  rw[List.length_cons]at hl
  have ih:=L363 (t:=t) (by omega)
  have hd:=fun n=>setV_bd (n:=n)
  have h270:=fun st=>k182 (b:=b) (st:=st)
  rw[runL_of B363_0.eq_1,List.dropWhile_cons]
  generalize nmW.contains b=c at *
  generalize setV=z at *
  have h1:(0:Int)<t.length+1:=by omega
  cases c
  ·push_cast[List.length_cons,hd,h1,h270,List.getD_cons_zero]
  ·push_cast[List.length_cons,hd,h1,h270,List.getD_cons_zero,List.take_length,List.drop_one,List.tail_cons]at ih ⊢
   exact dn_eq (by omega) ih
theorem f363 {t:List UInt8}(hl:t.length<140737488355328){st:St}:run Tryz.prog HL0 363 [.str t,.ep (.agg setV) 0] st=some (.ret (.str (t.dropWhile nmW.contains)),st):=by
 have hd:=fun n=>setV_bd (n:=n)
 have h0:=fun n=>L363 (g:=st.x.gl) (n:=n) hl
 rw[run_shut F363 rfl rfl (by simp[V.bdL,V.bd,hd])]
 generalize setV=z at *
 push_cast at h0
 push_cast[hd,h0]
theorem L115:∀(k:Nat) {t:List UInt8},t.length=k→t.length<140737488355328→runL Tryz.prog HL0 [0,1] n B115_0 [(0,.str t),(1,.ep (.agg setV) 0)] (stN g n)=some (.exit 0,[(0,.str (t.reverse.dropWhile nmW.contains).reverse)],stN g n):=by
 intro k
 induction k with
 |zero =>
  intro t ht hl
  obtain rfl:=List.eq_nil_of_length_eq_zero ht
  have hd:=fun n=>setV_bd (n:=n)
  rw[runL_of B115_0.eq_1]
  generalize setV=z at *
  push_cast[List.length_nil,List.dropWhile_nil,List.reverse_nil,hd]
 |succ k ih =>
  intro t ht hl
  rcases List.eq_nil_or_concat t with rfl|⟨t',b,rfl⟩
  ·simp at ht
  ·rw[List.concat_eq_append]at *
   rw[List.length_append,List.length_singleton]at ht hl
   have ih:=ih (t:=t') (by omega) (by omega)
   have hd:=fun n=>setV_bd (n:=n)
   have h270:=fun st=>k182 (b:=b) (st:=st)
   have hw:IntKind.i64.wrap ((t'.length:Int)+1-1)=((t'.length:Nat):Int):=by rw[iwrap (by omega) (by omega)];omega
   have h1:(0:Int)<t'.length+1:=by omega
   have h2:(t'.length:Int)<t'.length+1:=by omega
   have h3:(t'.length:Int)≤t'.length+1:=by omega
   have h4:List.take t'.length (t'++[b])=t':=List.take_left
   rw[runL_of B115_0.eq_1,List.reverse_append,List.reverse_singleton,List.singleton_append,List.dropWhile_cons]
   generalize nmW.contains b=c at *
   generalize setV=z at *
   cases c
   ·push_cast[List.length_append,List.length_singleton,hd,h1,h2,h3,hw,h270,getD_app,List.reverse_cons,List.reverse_reverse]
   ·push_cast[List.length_append,List.length_singleton,hd,h1,h2,h3,h4,hw,h270,getD_app]at ih ⊢
    exact ih
theorem f115 {t:List UInt8}(hl:t.length<140737488355328){st:St}:run Tryz.prog HL0 115 [.str t,.ep (.agg setV) 0] st=some (.ret (.str (t.reverse.dropWhile nmW.contains).reverse),st):=by
 have hd:=fun n=>setV_bd (n:=n)
 have h0:=fun n=>L115 (g:=st.x.gl) (n:=n) _ rfl hl
 rw[run_shut F115 rfl rfl (by simp[V.bdL,V.bd,hd])]
 generalize setV=z at *
 push_cast at h0
 push_cast[hd,h0]
theorem trim_swap {p:UInt8→Bool}:∀{s:List UInt8},((s.reverse.dropWhile p).reverse).dropWhile p=((s.dropWhile p).reverse.dropWhile p).reverse
 |[]=>rfl
 |b::r=>by
  have ih:=trim_swap (p:=p) (s:=r)
  cases hb:p b with
  |true =>
   have e1:(b::r).dropWhile p=r.dropWhile p:=by simp[hb]
   rw[e1,←ih,List.reverse_cons,List.dropWhile_append]
   cases hx:r.reverse.dropWhile p with
   |nil=>simp[hb]
   |cons y l=>simp[hb,List.dropWhile_cons]
  |false =>
   have e1:(b::r).dropWhile p=b::r:=by simp[hb]
   rw[e1,List.reverse_cons,List.dropWhile_append]
   cases hx:r.reverse.dropWhile p with
   |nil=>simp[hb]
   |cons y l=>simp[hb,List.dropWhile_cons]
theorem k327 {s:List UInt8}(hl:s.length≤24){st:St}:run Tryz.prog HL0 327 [.str s,.str nmW] st=some (.ret (.str (trimB nmW s)),st):=by
 have hd:=fun n=>setV_bd (n:=n)
 have hz:=setV_len
 have h249:=fun st=>k114 (st:=st)
 have h251:=fun st=>f115 (t:=s) (st:=st) (by omega)
 have hle:=(List.dropWhile_sublist nmW.contains (l:=s.reverse)).length_le
 have h250:=fun st=>f363 (t:=(s.reverse.dropWhile nmW.contains).reverse) (st:=st) (by simp at hle ⊢;omega)
 rw[trim_swap]at h250
 rw[run_shut F327 rfl rfl rfl,trimB]
 generalize setV=z at *
 by_cases h0:s=[]
 ·subst h0
  push_cast[List.dropWhile_nil,List.reverse_nil]
 ·push_cast[h0,h249,h250,h251,hd,hz,List.length_replicate,List.drop_replicate,Nat.sub_self,List.replicate_zero,List.append_nil]
theorem callable243:Callable Tryz.prog 243:=⟨_,Tryz.func243,by kernel_rfl,by kernel_rfl⟩
theorem callable114:Callable Tryz.prog 114:=⟨_,Tryz.func114,by kernel_rfl,by kernel_rfl⟩
theorem callable239:Callable Tryz.prog 239:=⟨_,Tryz.func239,by kernel_rfl,by kernel_rfl⟩
theorem callable378:Callable Tryz.prog 378:=⟨_,Tryz.func378,by kernel_rfl,by kernel_rfl⟩
theorem callable126:Callable Tryz.prog 126:=⟨_,Tryz.func126,by kernel_rfl,by kernel_rfl⟩
theorem v243 (s:List UInt8)(c:UInt8)(st:St):VRet Tryz.prog 243 [.str s,.str [c]] st (.int .i64 (Lib.indexByte s c)) st:=by
 refine VRet_of_below callable243 (fun w A vs hw ha=>?_)
 obtain⟨hl,ha⟩:=ha
 match vs,hl with
 |[u,v],_ =>
 have e1:=(ha 0 u _ rfl rfl).str_inv
 have e2:=(ha 1 v _ rfl rfl).str_inv
 subst e1;subst e2
 refine(Tryz.stringslite_Index_one ⟨s.toArray⟩ c w).mono fun e w' ⟨he,hb⟩=>?_
 subst he;subst hb
 exact⟨_,rfl,fun w' A'=>.int _ _,Below.refl _ _⟩
theorem nm_ascii:∀b∈nmW,b.toNat<128:=by decide
theorem v114 (st:St):VRet Tryz.prog 114 [.str nmW] st (.tup [.agg setV,.bool true]) st:=by
 refine VRet_of_below callable114 (fun w A vs hw ha=>?_)
 obtain⟨u,rfl,h1⟩:=ha.one
 have e1:=h1.str_inv
 subst e1
 refine(Tryz.strings_makeASCIISet Tryz.zeroValue201 ⟨nmW.toArray⟩ w (by decide) (fun j b hj=>nm_ascii b (List.mem_of_getElem? hj))).mono fun e w' ⟨he,hb⟩=>?_
 subst he;subst hb
 refine⟨_,rfl,fun w' A'=>?_,Below.alloc (Below.refl _ _) (Nat.le_refl _) _⟩
 have hcell:∀(i:Nat) (v:Value) (c:V),(Lib.setCells nmW).toList[i]?=some v→setV[i]?=some c→Rep w' A' v c∧v.oneCell'=true:=fun i v c hv hc=>by
  have hi:i<256:=by have:=(List.getElem?_eq_some_iff.1 hc).1;rw[setV_len]at this;exact this
  have e2:i.toUInt8.toNat=i:=by simp[Nat.toUInt8,UInt8.toNat_ofNat',Nat.mod_eq_of_lt hi]
  have g1:=Lib.setCells_at nmW i.toUInt8
  have g2:=setV_get i.toUInt8
  rw[e2]at g1 g2
  rw[Array.getElem?_toList,g1]at hv
  rw[g2]at hc
  cases hv;cases hc
  exact⟨.bool _,rfl⟩
 refine .tup [.agg (Lib.setCells nmW),.bool true] [.agg setV,.bool true] rfl (fun i v c h1 h2=>?_)
 match i,h1,h2 with
 |0,h1,h2 =>
  simp at h1 h2;subst h1 h2
  have:=Rep.agg (w:=w') (A:=A') (Lib.setCells nmW).toList setV (by rw[Array.length_toList,Lib.setCells_size,setV_len]) (fun v hv=>by
   obtain⟨i,hi⟩:=List.mem_iff_getElem?.1 hv
   have hlt:i<setV.length:=by rw[setV_len];have:=(List.getElem?_eq_some_iff.1 hi).1;rw[Array.length_toList,Lib.setCells_size]at this;exact this
   exact(hcell i v setV[i] hi (List.getElem?_eq_getElem hlt)).2) (fun i v c hv hc=>(hcell i v c hv hc).1)
  rwa [Array.toArray_toList]at this
 |1,h1,h2=>simp at h1 h2;subst h1 h2;exact .bool _
theorem pred280 (w:World):PredAt Tryz.prog 187 #[] encR othR w:=fun W r _=>by
 unfold FnGives
 by_cases h1:r<48<;>by_cases h2:57<r
 all_goals
  have z1:(r:Int)<48↔r<48:=by omega
  have z2:(57:Int)<(r:Int)↔57<r:=by omega
  go_enter Tryz.func187,Tryz.ntmps187
  go_wp2
  all_goals first|(exfalso;omega)|(go_ret;exact⟨by simp[othR,h1,h2],0,rfl⟩)
theorem v239 (s:List UInt8)(st:St):VRet Tryz.prog 239 [.str s,.fn (.func 187) [] [],.bool true] st (.int .i64 (Lib.idxFunc othR true ⟨s.toArray⟩)) st:=by
 refine VRet_of_below callable239 (fun w A vs hw ha=>?_)
 obtain⟨hl,ha⟩:=ha
 match vs,hl with
 |[v0,v1,v2],_ =>
 have e0:=(ha 0 v0 _ rfl rfl).str_inv
 have r1:=ha 1 v1 _ rfl rfl
 have e2:=(ha 2 v2 _ rfl rfl).bool_inv
 have e1:v1=.func (.func 187) #[] #[]:=by
  cases r1 with
  |fn _ vs us _ _ e1 e2 _ _ =>
   have h1:vs=[]:=List.eq_nil_of_length_eq_zero e1
   have h2:us=[]:=List.eq_nil_of_length_eq_zero e2
   rw[h1,h2]
 subst e0;subst e1;subst e2
 refine(Tryz.strings_indexFunc 187 #[] (enters_of Tryz.func187 (by kernel_rfl) rfl) othR true ⟨s.toArray⟩ w (pred280 w)).mono fun e w' ⟨he,hb⟩=>?_
 subst he
 exact⟨_,rfl,fun w' A'=>.int _ _,hb⟩
theorem HL0_ok:ESound Tryz.prog HL0:=fun f args st r s h=>by
 obtain⟨z,hz,e⟩:=Option.map_eq_some_iff.1 h
 cases e
 by_cases h1:f=243
 ·subst h1
  rw[show Nat.beq 243 243=true from rfl,cond_true]at hz
  unfold q243 at hz
  split at hz<;>cases hz
  exact v243 _ _ _
 rw[show Nat.beq f 243=false from Bool.eq_false_iff.2 fun e=>h1 (Nat.eq_of_beq_eq_true e),cond_false]at hz
 by_cases h2:f=114
 ·subst h2
  rw[show Nat.beq 114 114=true from rfl,cond_true]at hz
  unfold q114 at hz
  split at hz
  ·split at hz
   ·rename_i e;subst e;cases hz;exact v114 _
   ·cases hz
  ·cases hz
 rw[show Nat.beq f 114=false from Bool.eq_false_iff.2 fun e=>h2 (Nat.eq_of_beq_eq_true e),cond_false]at hz
 by_cases h3:f=239
 ·subst h3
  rw[show Nat.beq 239 239=true from rfl,cond_true]at hz
  unfold q239 at hz
  split at hz<;>cases hz
  exact v239 _ _
 rw[show Nat.beq f 239=false from Bool.eq_false_iff.2 fun e=>h3 (Nat.eq_of_beq_eq_true e),cond_false]at hz
 cases hz
end Go.Proofs.YtdkokbhcjmapdaaGreatDoor

namespace Go.Proofs.YtdkokbhcjmapdaaGreatDoor
open Go.Sha Go.RowKit
set_option maxRecDepth 100000
theorem parse_digs:∀(s:List UInt8) (acc:Nat),s.all isD=true→acc<18446744073709551616→Lib.parseUint10 acc s=if s.foldl (fun n b=>10*n+(b.toNat-48)) acc<18446744073709551616 then .ok (s.foldl (fun n b=>10*n+(b.toNat-48)) acc) else .range
 |[],acc,_,h=>by simp[Lib.parseUint10,h]
 |b::s,acc,h,ha=>by
  have mono:∀(s:List UInt8) (n:Nat),n≤s.foldl (fun n b=>10*n+(b.toNat-48)) n:=by
   intro s
   induction s with
   |nil=>intro n;exact Nat.le_refl _
   |cons c s ih=>intro n;rw[List.foldl_cons];refine Nat.le_trans ?_ (ih _);omega
  simp only[List.all_cons,Bool.and_eq_true]at h
  obtain⟨hb,hs⟩:=h
  have hb':48≤b.toNat∧b.toNat≤57:=by
   simp only[isD,Bool.and_eq_true,decide_eq_true_eq]at hb;omega
  rw[Lib.parseUint10,if_pos hb',List.foldl_cons]
  have hm:=mono s (10*acc+(b.toNat-48))
  by_cases h1:1844674407370955162≤acc
  ·rw[if_pos h1,if_neg (by omega)]
  ·rw[if_neg h1]
   by_cases h2:18446744073709551616≤acc*10+(b.toNat-48)
   ·rw[if_pos h2,if_neg (by omega)]
   ·rw[if_neg h2,parse_digs s _ hs (by omega),Nat.mul_comm]
theorem atoi_digs {s:List UInt8}(h0:s≠[])(h:s.all isD=true):Lib.atoiAll s=if natOf s<9223372036854775808 then .ok (natOf s:Int) else .range:=by
 cases s with
 |nil=>exact absurd rfl h0
 |cons b s =>
  have hb:isD b=true:=by simp only[List.all_cons,Bool.and_eq_true]at h;exact h.1
  have hb':48≤b.toNat∧b.toNat≤57:=by
   simp only[isD,Bool.and_eq_true,decide_eq_true_eq]at hb;omega
  rw[Lib.atoiAll_plain b s (by omega) (by omega),Lib.parseMag,if_neg (by simp),parse_digs (b::s) 0 h (by omega)]
  show Lib.signless (if natOf (b::s)<18446744073709551616 then .ok (natOf (b::s)) else .range)=_
  by_cases h1:natOf (b::s)<18446744073709551616
  ·rw[if_pos h1]
   unfold Lib.signless
   by_cases h2:natOf (b::s)<9223372036854775808
   ·rw[if_pos h2];simp only;rw[if_neg (by omega)]
   ·rw[if_neg h2];simp only;rw[if_pos (by omega)]
  ·rw[if_neg h1,if_neg (by omega)];rfl
theorem natOf_lt:∀{s:List UInt8}{n:Nat},s.all isD=true→s.foldl (fun n b=>10*n+(b.toNat-48)) n<(n+1)*10 ^ s.length
 |[],n,_=>by simp
 |b::s,n,h=>by
  simp only[List.all_cons,Bool.and_eq_true]at h
  have hb:b.toNat≤57:=by have:=h.1;simp only[isD,Bool.and_eq_true,decide_eq_true_eq]at this;omega
  have ih:=natOf_lt (s:=s) (n:=10*n+(b.toNat-48)) h.2
  rw[List.foldl_cons,List.length_cons,Nat.pow_succ]
  refine Nat.lt_of_lt_of_le ih ?_
  rw[show(n+1)*(10 ^ s.length*10)=((n+1)*10)*10 ^ s.length by rw[Nat.mul_comm (10 ^ s.length),Nat.mul_assoc]]
  exact Nat.mul_le_mul_right _ (by omega)
theorem v378 (s:List UInt8)(st:St)(h0:s≠[])(h:s.all isD=true)(hl:s.length≤18):VRet Tryz.prog 378 [.str s] st (.tup [.int .i64 (natOf s),.nili]) st:=by
 have hn:natOf s<9223372036854775808:=by
  have h1:=natOf_lt (n:=0) h
  have h2:10 ^ s.length≤10 ^ 18:=Nat.pow_le_pow_right (by omega) hl
  unfold natOf;omega
 refine VRet_of_below callable378 (fun w A vs hw ha=>?_)
 obtain⟨u,rfl,h1⟩:=ha.one
 have e1:=h1.str_inv
 subst e1
 have hat:=atoi_digs h0 h
 rw[if_pos hn]at hat
 refine(Tryz.strconv_Atoi_ok ⟨s.toArray⟩ (by simp[ByteArray.size];omega) (natOf s:Int) (by simpa using hat) w).mono fun e w' ⟨he,hb⟩=>?_
 subst he
 refine⟨_,rfl,fun w' A'=>?_,?_⟩
 ·refine .tup [.int .i64 (natOf s),.nilIface] [.int .i64 (natOf s),.nili] rfl (fun i v c h1 h2=>?_)
  match i,h1,h2 with
  |0,h1,h2=>simp at h1 h2;subst h1 h2;exact .int _ _
  |1,h1,h2=>simp at h1 h2;subst h1 h2;exact .nili
 ·rcases hb with rfl|⟨t,rfl⟩
  ·exact Below.refl _ _
  ·exact Lib.bytesWorld_below w 5 t
open Go.Sort in
def PB:Type:={ p:Prm // 0≤p.chan∧p.chan≤999∧0≤p.attr∧p.attr≤14 }
instance:Inhabited PB:=⟨⟨⟨0,0⟩,by decide⟩⟩
def encP (p:PB):List Value:=[.int .i64 p.1.chan,.int .i64 p.1.attr]
def cmpB (p q:PB):Int:=if p.1.chan≠q.1.chan then p.1.chan-q.1.chan else p.1.attr-q.1.attr
theorem clos57 (x y:PB)(W:World):Calls Tryz.prog 127 #[.agg (encP x).toArray,.agg (encP y).toArray] W fun e w'=>e=.returned (.int .i64 (cmpB x y))∧∃q os',w'=Go.Sort.grow (W.drewN q) os':=by
 obtain⟨⟨a,b⟩,hx⟩:=x
 obtain⟨⟨c,d⟩,hy⟩:=y
 simp only at hx hy
 have w1:IntKind.i64.wrap (a-c)=a-c:=iwrap (by omega) (by omega)
 have w2:IntKind.i64.wrap (b-d)=b-d:=iwrap (by omega) (by omega)
 simp only[encP,cmpB]
 by_cases h:a=c
 ·rw[if_neg (by simp[h])]
  subst h
  go_enter Tryz.func127,Tryz.ntmps127
  go_wp2
  go_ret
  exact⟨rfl,0,_,by rw[Go.Sort.alloc_eq_grow,Go.Sort.alloc_eq_grow,Go.Sort.grow_grow];rfl⟩
 ·rw[if_pos h]
  go_enter Tryz.func127,Tryz.ntmps127
  go_wp2
  go_ret
  exact⟨rfl,0,_,by rw[Go.Sort.alloc_eq_grow,Go.Sort.alloc_eq_grow,Go.Sort.grow_grow];rfl⟩
open Go.Sort Go.Proofs in
theorem lt_B {x y:PB}:ltOf cmpB x y=decide (x.1.chan<y.1.chan∨x.1.chan=y.1.chan∧x.1.attr<y.1.attr):=by
 unfold ltOf cmpB
 split
 ·rename_i h;rw[Bool.eq_iff_iff];simp only[decide_eq_true_eq];omega
 ·rename_i h;rw[Bool.eq_iff_iff];simp only[decide_eq_true_eq];omega
open Go.Sort Go.Proofs in
theorem swo_B:SWO (ltOf cmpB) where
 irrefl x:=by rw[lt_B];simp
 trans x y z h1 h2:=by rw[lt_B]at *;simp only[decide_eq_true_eq]at *;omega
 ntrans x y z h1 h2:=by rw[lt_B]at *;simp only[decide_eq_false_iff_not]at *;omega
open Go.Sort Go.Proofs in
theorem tot_B (x y:PB)(h1:ltOf cmpB x y=false)(h2:ltOf cmpB y x=false):x=y:=by
 rw[lt_B]at h1 h2
 simp only[decide_eq_false_iff_not]at h1 h2
 obtain⟨⟨a,b⟩,hx⟩:=x
 obtain⟨⟨c,d⟩,hy⟩:=y
 simp only at h1 h2
 have e1:a=c:=by omega
 have e2:b=d:=by omega
 subst e1;subst e2;rfl
theorem pb_list:∀{xs:List V},xs.all okPV=true→∃l:List PB,xs=l.map fun p=>p.1.v
 |[],_=>⟨[],rfl⟩
 |x::r,h=>by
  simp only[List.all_cons,Bool.and_eq_true]at h
  obtain⟨l,rfl⟩:=pb_list h.2
  have h1:=h.1
  unfold okPV at h1
  split at h1
  ·rename_i c a
   simp only[Bool.and_eq_true,decide_eq_true_eq]at h1
   exact⟨⟨⟨c,a⟩,by dsimp only;omega⟩::l,rfl⟩
  ·cases h1
open Go.Sort Go.Proofs in
theorem v81g {G:Nat}(eg:∀args w,(callFunc G args).run Tryz.prog w=.ok (.enter G args) w)(hc:∀(x y:PB) (W:World),Calls Tryz.prog G #[.agg (encP x).toArray,.agg (encP y).toArray] W fun e w'=>e=.returned (.int .i64 (cmpB x y))∧∃q os',w'=Go.Sort.grow (W.drewN q) os'){st:St}{id:Nat}{r:Arr}(hid:Sha.look st.arr id=some r)(hes:r.es=2)(hw:r.wr=true)(hbig:r.xs.length≤100000000)(hok:r.xs.all okPV=true) :
  VCalls Tryz.prog 126 [.osl id r.xs.length,.fn (.func G) [] []] st fun x s=>x=.ret (.tup [])∧s=⟨st.nx,st.mem,updA st.arr id { r with xs:=r.xs.mergeSort leV },st.x⟩:=by
 obtain⟨l,hl⟩:=pb_list hok
 have hlen:l.length=r.xs.length:=by rw[hl,List.length_map]
 have h:=VCalls_sort (P:=Tryz.prog) (F:=126) callable126 (k:=2) (by omega) (enc:=encP) (fun _=>rfl) (fun x v hv=>by
   simp[encP]at hv;rcases hv with rfl|rfl<;>rfl) (f:=fun p:PB=>p.1.v) (fun _=>rfl) (fun {w A x j v c} hc hr=>by
   match j,hc with
   |0,hc=>cases hc;cases hr;rfl
   |1,hc=>cases hc;cases hr;rfl
   |j+2,hc=>simp[Prm.v,V.cells]at hc) (fun {w A x j v c} hv hc=>by
   match j,hv,hc with
   |0,hv,hc=>cases hv;cases hc;exact .int _ _
   |1,hv,hc=>cases hv;cases hc;exact .int _ _
   |j+2,hv,hc=>simp[encP]at hv) (cf:=cmpB) (g:=G)
  (fun p cap fv w=>Tryz.sort_none p cap fv w)
  (fun blk off cap d w h1 h2 h3 h4=>Tryz.sort_total Tryz.isAgg120 Tryz.sizeOf120 encP (fun _=>rfl) (fun x v hv=>by
   simp[encP]at hv;rcases hv with rfl|rfl<;>rfl) cmpB swo_B tot_B G eg blk off cap d w h1 h2 h3 h4)
  hc (st:=st) (l:=l) hid hl hes hw (by omega)
 rw[hlen]at h
 have e:(l.mergeSort fun x y=>!ltOf cmpB y x).map (fun p:PB=>p.1.v)=r.xs.mergeSort leV:=by
  rw[hl]
  refine List.map_mergeSort (fun a _ b _=>?_)
  rw[lt_B]
  simp only[Prm.v,leV]
  rw[Bool.eq_iff_iff]
  simp
 rw[e]at h
 exact h
theorem v126 {st:St}{id:Nat}{r:Arr}(hid:Sha.look st.arr id=some r)(hes:r.es=2)(hw:r.wr=true)(hbig:r.xs.length≤100000000)(hok:r.xs.all okPV=true) :
  VCalls Tryz.prog 126 [.osl id r.xs.length,.fn (.func 127) [] []] st fun x s=>x=.ret (.tup [])∧s=⟨st.nx,st.mem,updA st.arr id { r with xs:=r.xs.mergeSort leV },st.x⟩ :=
 v81g (enters_of Tryz.func127 (by kernel_rfl) rfl) clos57 hid hes hw hbig hok
end Go.Proofs.YtdkokbhcjmapdaaGreatDoor

namespace Go.Proofs.YtdkokbhcjmapdaaGreatDoor
open Go.Sha
set_option maxRecDepth 10000
theorem F246:compF Tryz.prog 246=some ⟨20,[.tmp 4],(.g [.q 2 120 0,.q 3 120 1,.c 4 0] (.z [2,3] (.join [2,3] (.g [.a 5 0 2,.l 6 5,.a 7 0 3,.l 8 7,.b 9 .neq 6 8] (.i 9 (.g [.a 10 0 2,.l 11 10,.a 12 0 3,.l 13 12,.b 14 .sub 11 13,.m 4 14] (.ret [4])) .skip)) (.g [.a 15 1 2,.l 16 15,.a 17 1 3,.l 18 17,.b 19 .sub 16 18,.m 4 19] (.ret [4])))))⟩:=by kernel_rfl
theorem F248:compF Tryz.prog 248=some ⟨24,[.cell 4 (some 2),.tmp 5],(.g [.q 2 70 0,.q 3 120 1,.s 4 (.alloc 122 [.i 0,.i 0]),.k 5 false] (.z [2,3] (.g [.a 9 2 2,.l 10 9,.d 11 2 3,.s 12 (.f 312 [.t 10,.t 11,(.c (.fn (.func 313) [] []))]),.m 8 12,.j 13 0 8,.j 14 1 8,.m 6 13,.m 7 14] (.join [2,4,6] (.g [.m 15 7,.z 16 15] (.i 16 (.g [.s 17 (.f 249 []),.w 2 4 17,.k 5 false] (.ret [4,5])) .skip)) (.g [.a 18 2 2,.l 19 18,.m 20 6,.r 21 5 19 20,.a 22 2 21,.d 23 2 22,.w 2 4 23,.k 5 true] (.ret [4,5]))))))⟩:=by kernel_rfl
theorem F249:compF Tryz.prog 249=some ⟨2,[.cell 0 (some 2)],(.g [.s 0 (.alloc 122 [.i 0,.i 0])] (.g [.s 1 (.build [.i 0,.i 0] [(0,1,(.i (-1)))]),.w 2 0 1] (.ret [0])))⟩:=by kernel_rfl
theorem F313:compF Tryz.prog 313=some ⟨9,[.tmp 4],(.g [.q 2 124 0,.q 3 120 1,.c 4 0] (.z [2,3] (.g [.a 5 0 2,.d 6 2 5,.d 7 2 3,.g' 8 246 6 7,.m 4 8] (.ret [4]))))⟩:=by kernel_rfl
def B312_0:Cd:=(.join [0,2,4,8,9,10] (.g [.m 15 9,.m 16 10,.b 17 .lss 15 16] (.i 17 .skip (.exit [0,2,4,8,9] 0))) (.block 1 (.g [.m 18 9,.m 19 10,.b 20 .add 18 19,.s 21 (.cvi .u64 (.t 20)),.s 22 (.bin .shr (.t 21) (.c (.int .u64 1))),.s 23 (.cvi .i64 (.t 22)),.m 11 23] (.q (.dreg 8 [.m 24 2,.m 25 0,.m 26 11,.r 27 5 25 26,.d 28 5 27,.d 29 2 4,.s 30 (.call (.t 24) [.t 28,.t 29]),.v 31 .lss 30 0]) (.i 31 (.reg [.m 32 11,.v 33 .add 32 1,.m 9 33]) (.reg [.m 34 11,.m 10 34]))))))
theorem F312:compF Tryz.prog 312=some ⟨49,[.tmp 6,.tmp 7],(.g [.q 4 120 1,.c 6 0,.k 7 false] (.z [4] (.g [.m 12 0,.u 13 12,.m 8 13] (.g [.m 14 8,.c 9 0,.m 10 14] (.join [0,2,4,8,9] (.block 0 (.loop [0,2,4,8,9,10] [] B312_0)) (.join [6,7] (.dreg 16 [.m 35 9,.m 36 9,.m 37 8,.b 38 .lss 36 37,.m 39 38,.my 40 2 39,.my 41 0 39,.my 42 9 39,.ry 43 5 41 42 39,.y 44 (.load (some 5) (.t 43)) 39,.y 45 (.load (some 2) (.t 4)) 39,.y 46 (.call (.t 40) [.t 44,.t 45]) 39,.vy 47 .eql 46 0 39,.e 48 39 47,.m 6 35,.m 7 48]) (.ret [6,7])))))))⟩:=by kernel_rfl
end Go.Proofs.YtdkokbhcjmapdaaGreatDoor

namespace Go.Proofs.YtdkokbhcjmapdaaGreatDoor
open Go.Sha
set_option maxRecDepth 100000
variable {g:List (Nat×Obj)}{n:Nat}
def HN0:EvF:=⟨[],fun _ _ _=>none⟩
@[push_cast]theorem HN0_raw:HN0.raw=[]:=idq rfl
theorem HN0_ok:ESound Tryz.prog HN0:=fun _ _ _ _ _ h=>by simp only[HN0]at h;cases h
theorem f246 {x y:Prm}{st:St}:run Tryz.prog HN0 246 [x.v,y.v] st=some (.ret (.int .i64 (cmpP x y)),st):=by
 rw[run_shut F246 rfl rfl (by simp)]
 push_cast[Prm.v,cmpP]
 all_goals first|with_reducible rfl|exact dn_eq (by omega) (by with_reducible rfl)|((repeat' split)<;>(try simp_all)<;>(try (with_reducible refine dn_eq ?_ ?_<;>first|trivial|omega|rfl))<;>(try omega))
theorem p246 {a b c d:Int}{st:St}:run Tryz.prog HN0 246 [.agg [.int .i64 a,.int .i64 b],.agg [.int .i64 c,.int .i64 d]] st=some (.ret (.int .i64 (cmpP ⟨a,b⟩ ⟨c,d⟩)),st):=f246 (x:=⟨a,b⟩) (y:=⟨c,d⟩)
theorem f249 {st:St}:run Tryz.prog HN0 249 [] st=some (.ret (.agg [.int .i64 (-1),.int .i64 0]),st):=by
 rw[run_shut F249 rfl rfl (by simp)]
 push_cast[Val.v]
 all_goals first|with_reducible rfl|exact dn_eq (by omega) (by with_reducible rfl)|((repeat' split)<;>(try simp_all)<;>(try (with_reducible refine dn_eq ?_ ?_<;>first|trivial|omega|rfl))<;>(try omega))
theorem f313 {x:Mov}{q:Prm}{st:St}:run Tryz.prog HN0 313 [x.v,q.v] st=some (.ret (.int .i64 (cmpP x.prm q)),st):=by
 rw[run_shut F313 rfl rfl (by simp)]
 push_cast[Mov.v,Prm.v,p246]
 all_goals first|with_reducible rfl|exact dn_eq (by omega) (by with_reducible rfl)|((repeat' split)<;>(try simp_all)<;>(try (with_reducible refine dn_eq ?_ ?_<;>first|trivial|omega|rfl))<;>(try omega))
theorem L312 {l:List Mov}{q:Prm}(hl:l.length<140737488355328):∀i j,i≤j→j≤l.length→runL Tryz.prog HN0 [0,2,4,8,9,10] n B312_0 [(0,.sl (l.map Mov.v)),(2,.fn (.func 313) [] []),(4,.ep q.v 0),(8,.int .i64 l.length),(9,.int .i64 i),(10,.int .i64 j)] (stN g n)
  = some (.exit 0,[(0,.sl (l.map Mov.v)),(2,.fn (.func 313) [] []),(4,.ep q.v 0),(8,.int .i64 l.length),(9,.int .i64 (bsI (fun k=>cmpP (l.getD k default).prm q) i j))],stN g n):=by
 intro i j
 induction i,j using bsI.induct (fun k=>cmpP (l.getD k default).prm q) with
 |case1 i j h h2 ih =>
  intro hij hj
  have ih:=ih (by omega) hj
  rw[bsI,dif_pos h,if_pos h2,runL_of B312_0.eq_1]
  have h1:(i:Int)<j:=by omega
  have h3:=halfI (i:=i) (j:=j) (by omega)
  have h4:(((i+j) / 2:Nat):Int)<l.length:=by omega
  have h5:IntKind.i64.wrap ((((i+j) / 2:Nat):Int)+1)=(((i+j) / 2+1:Nat):Int):=iwrap (by omega) (by omega)
  have h360:=fun(st:St)=>f313 (x:=l.getD ((i+j) / 2) default) (q:=q) (st:=st)
  generalize hk:(i+j) / 2=k at *
  push_cast[Mov.v,Prm.v]at ih h360
  push_cast[h1,h3,h4,h5,h360,Mov.v,Prm.v,h2]
  exact ih
 |case2 i j h h2 ih =>
  intro hij hj
  have ih:=ih (by omega) (by omega)
  rw[bsI,dif_pos h,if_neg h2,runL_of B312_0.eq_1]
  have h1:(i:Int)<j:=by omega
  have h3:=halfI (i:=i) (j:=j) (by omega)
  have h4:(((i+j) / 2:Nat):Int)<l.length:=by omega
  have h360:=fun(st:St)=>f313 (x:=l.getD ((i+j) / 2) default) (q:=q) (st:=st)
  generalize hk:(i+j) / 2=k at *
  push_cast[Mov.v,Prm.v]at ih h360
  push_cast[h1,h3,h4,h360,Mov.v,Prm.v,h2]
  exact ih
 |case3 i j h =>
  intro hij hj
  rw[bsI,dif_neg h,runL_of B312_0.eq_1]
  have h1:¬(i:Int)<j:=by omega
  push_cast[h1,Mov.v,Prm.v]
def bsM (l:List Mov)(q:Prm):Nat:=bsI (fun k=>cmpP (l.getD k default).prm q) 0 l.length
theorem f312 {l:List Mov}{q:Prm}(hl:l.length<140737488355328){st:St}:run Tryz.prog HN0 312 [.sl (l.map Mov.v),q.v,.fn (.func 313) [] []] st=some (.ret (.tup [.int .i64 (bsM l q),.bool (decide ((bsM l q:Int)<l.length)&&cmpP (l.getD (bsM l q) default).prm q == 0)]),st):=by
 have h0:=fun n=>L312 (g:=st.x.gl) (n:=n) (q:=q) hl 0 l.length (by omega) (Nat.le_refl _)
 have h360:=fun(st:St)=>f313 (x:=l.getD (bsM l q) default) (q:=q) (st:=st)
 rw[run_shut F312 rfl rfl (by simp)]
 rw[show bsI (fun k=>cmpP (l.getD k default).prm q) 0 l.length=bsM l q from rfl]at h0
 push_cast[Mov.v,Prm.v]at h0 h360
 push_cast[Mov.v,Prm.v,h0,h360]
 exact dn_eq (by omega) rfl
theorem cmp_ok {x y:Prm}(hx:okP x=true)(hy:okP y=true):cmpP x y=if x.chan=y.chan then x.attr-y.attr else x.chan-y.chan:=by
 simp only[okP,Bool.and_eq_true,decide_eq_true_eq]at hx hy
 unfold cmpP
 rw[iwrap (by omega) (by omega),iwrap (by omega) (by omega)]
 by_cases h:x.chan=y.chan<;>simp[h]
theorem okMs_ok:∀{l:List Mov},okMs l=true→(∀m∈l,okP m.prm=true)∧l.Pairwise fun a b=>ltP a.prm b.prm=true
 |[],_=>⟨by simp,List.Pairwise.nil⟩
 |m::r,h=>by
  simp only[okMs,Bool.and_eq_true,List.all_eq_true]at h
  obtain⟨a,b⟩:=okMs_ok h.2
  exact⟨fun x hx=>(List.mem_cons.1 hx).elim (fun e=>by rw[e];exact h.1.1) (a x),List.pairwise_cons.2 ⟨fun x hx=>h.1.2 x hx,b⟩⟩
theorem bsM_find {l:List Mov}{q:Prm}(hl:okMs l=true)(hq:okP q=true) :
  (match movF l q with|some v=>bsM l q<l.length∧(l.getD (bsM l q) default).val=v∧cmpP (l.getD (bsM l q) default).prm q=0|none=>¬(bsM l q<l.length∧cmpP (l.getD (bsM l q) default).prm q=0)):=by
 obtain⟨ho,hp⟩:=okMs_ok hl
 have hs:l.Pairwise fun a b=>cmpP b.prm q≤0→cmpP a.prm q<0:=by
  refine List.Pairwise.imp_of_mem (fun {a b} ha hb h=>?_) hp
  rw[cmp_ok (ho a ha) hq,cmp_ok (ho b hb) hq]
  simp only[ltP,Bool.or_eq_true,Bool.and_eq_true,decide_eq_true_eq]at h
  split<;>split<;>omega
 obtain⟨_,h1,h2⟩:=bs_find (c:=fun m:Mov=>cmpP m.prm q) hs
 have e:l.find? (fun x=>decide (cmpP x.prm q=0))=l.find? fun m=>decide (m.prm.chan=q.chan)&&decide (m.prm.attr=q.attr):=by
  refine find_congr (fun x hx=>?_)
  rw[cmp_ok (ho x hx) hq,Bool.eq_iff_iff]
  simp only[Bool.and_eq_true,decide_eq_true_eq]
  split<;>omega
 rw[e]at h1 h2
 unfold movF bsM
 cases hf:l.find? fun m=>decide (m.prm.chan=q.chan)&&decide (m.prm.attr=q.attr) with
 |none=>exact h2 hf
 |some x =>
  obtain⟨a,b,c⟩:=h1 x hf
  simp only[Option.map_some]
  refine⟨a,by rw[b],?_⟩
  rw[b];exact c
theorem f248 {x:Cu}{q:Prm}(hm:okMs x.moves=true)(hq:okP q=true)(hl:x.moves.length<140737488355328){st:St} :
  run Tryz.prog HN0 248 [x.v,q.v] st=some (.ret (.tup [((movF x.moves q).getD ⟨-1,0⟩).v,.bool (movF x.moves q).isSome]),st):=by
 have h359:=fun(st:St)=>f312 (l:=x.moves) (q:=q) hl (st:=st)
 have hb:=bsM_find hm hq
 rw[run_shut F248 rfl rfl (by simp)]
 cases hf:movF x.moves q with
 |some v =>
  rw[hf]at hb
  obtain⟨h1,h2,h3⟩:=hb
  have h1':(bsM x.moves q:Int)<x.moves.length:=by omega
  subst h2
  generalize bsM x.moves q=k at *
  push_cast[h359,h1',h3,Cu.v,Prm.v,Mov.v,Val.v,Option.getD_some,Option.isSome_some]
 |none =>
  rw[hf]at hb
  have h1:(decide ((bsM x.moves q:Int)<x.moves.length)&&cmpP (x.moves.getD (bsM x.moves q) default).prm q == 0)=false:=by
   rw[Bool.eq_false_iff];intro h;simp only[Bool.and_eq_true,decide_eq_true_eq,beq_iff_eq]at h;exact hb ⟨by omega,h.2⟩
  push_cast[h359,h1,f249,Cu.v,Prm.v,Val.v,Option.getD_none,Option.isSome_none]
end Go.Proofs.YtdkokbhcjmapdaaGreatDoor

namespace Go.Proofs.YtdkokbhcjmapdaaGreatDoor
open Go.RowKit Go.Shelf
attribute [local go_sem] Oper.semAt_some
def dnL (a k:Nat):List Nat:=(List.range k).map (a-·)
theorem dnL_succ (a k:Nat):dnL a (k+1)=dnL a k++[a-k]:=by simp[dnL,List.range_succ]
theorem dnL_length (a k:Nat):(dnL a k).length=k:=by simp[dnL]
set_option maxHeartbeats 1000000 in
theorem back_in (F:Fence)(n:Nat)(h5:F.fn 247)(hro:F.round=none)(a0 a1 a2:Value)(x:Int)(w:World) :
  CallsIn F n Tryz.prog 247 #[.agg #[a0,a1,a2],.int .i64 x] w fun e w'=>e=.returned (.func (.func 311) #[] #[.pointer (some ⟨w.heap.size+1,0,none⟩),.pointer (some ⟨w.heap.size,0,none⟩)])∧w'=(w.alloc (.cells #[a0,a1,a2] 57)).alloc (.cells #[.int .i64 x] 3):=by
 refine callsIn_of_wp Tryz.func247 rfl h5 ?_ hro
 simp only[Tryz.ntmps247,List.size_toArray,List.length_cons,List.length_nil,Nat.reduceAdd,Nat.reduceSub,Array.replicate_succ,Array.replicate_zero,List.push_toArray,List.append_toArray,List.nil_append,List.cons_append]
 gi_wp2
 go_ret
 exact⟨rfl,by simp⟩
set_option maxRecDepth 100000 in
set_option maxHeartbeats 4000000 in
theorem back1_in (F:Fence)(n:Nat)(h7:F.fn 311)(hro:F.round=none)(hn:1≤n)(l Ba Bl n₀ b off len cap a:Nat)(c0 c1 c2 c3 c5 c6 c7 c8:Nat→Value)(bl:Nat→Bool)(hlen:len*144≤140737488351232)(hb:b<n₀)(ha:a<len)(J Jx:List Nat→World→Prop)
  (hY:∀pre x W,J pre W→pre.length<a+1→YieldAt F (n-1) Tryz.prog l #[.agg #[c0 x,c1 x,c2 x,c3 x,.bool (bl x),c5 x,c6 x,c7 x,c8 x]] W fun e W' =>
   (e=.returned (.bool true)∧J (pre++[x]) W'∧Below n₀ W W')∨(e=.returned (.bool false)∧Jx (pre++[x]) W'))
  (W:World) (hBa:W.cell? ⟨Ba,0,none⟩=some (.int .i64 a)) (hBl:W.cell? ⟨Bl,2,none⟩=some (.slice (some ⟨b,off,none⟩) len cap)) (hBl0:Bl<n₀)
  (hc:∀j,j<len→W.cell? ⟨b,off+j*9,none⟩=some (c0 j)∧W.cell? ⟨b,off+j*9+1,none⟩=some (c1 j)∧W.cell? ⟨b,off+j*9+2,none⟩=some (c2 j)∧W.cell? ⟨b,off+j*9+3,none⟩=some (c3 j) ∧
   W.cell? ⟨b,off+j*9+4,none⟩=some (.bool (bl j))∧W.cell? ⟨b,off+j*9+5,none⟩=some (c5 j)∧W.cell? ⟨b,off+j*9+6,none⟩=some (c6 j)∧W.cell? ⟨b,off+j*9+7,none⟩=some (c7 j)∧W.cell? ⟨b,off+j*9+8,none⟩=some (c8 j))
  (h0:J [] W) :
  CallsIn F n Tryz.prog 311 #[.func (.yield l) #[] #[],.pointer (some ⟨Ba,0,none⟩),.pointer (some ⟨Bl,0,none⟩)] W fun e W'=>(∃v,e=.returned v) ∧
   ((∃k,k≤a+1∧J (dnL a k) W'∧(k=a+1∨0<k∧bl (a+1-k)=true)∧∀j,0<j→j<k→bl (a+1-j)=false)∨(∃k,k≤a+1∧Jx (dnL a k) W'∧∀j,0<j→j<k→bl (a+1-j)=false)):=by
 refine callsIn_of_wp Tryz.func311 rfl h7 ?_ hro
 simp only[Tryz.ntmps311,List.size_toArray,List.length_cons,List.length_nil,Nat.reduceAdd,Nat.reduceSub,Array.replicate_succ,Array.replicate_zero,List.push_toArray,List.append_toArray,List.nil_append,List.cons_append]
 gi_wp2
 gi_loopw [4] (fun i wr=>∃k:Nat,k≤a+1∧i=.int .i64 ((a:Int)-k)∧J (dnL a k) wr∧Below n₀ W wr∧∀j,0<j→j≤k→bl (a+1-j)=false)
  (fun i _=>(intOf i+1).toNat)
 case atStart=>exact⟨0,Nat.zero_le _,by simp,h0,Below.refl _ _,fun j h1 h2=>by omega⟩
 case round =>
  obtain⟨k,hk,rfl,hJs,hnx,hbs⟩:=hrel
  have hcell:∀(W1:World),Below n₀ W W1→∀j,j<len→W1.cell? ⟨b,off+j*9,none⟩=some (c0 j)∧W1.cell? ⟨b,off+j*9+1,none⟩=some (c1 j)∧W1.cell? ⟨b,off+j*9+2,none⟩=some (c2 j)∧W1.cell? ⟨b,off+j*9+3,none⟩=some (c3 j) ∧
   W1.cell? ⟨b,off+j*9+4,none⟩=some (.bool (bl j))∧W1.cell? ⟨b,off+j*9+5,none⟩=some (c5 j)∧W1.cell? ⟨b,off+j*9+6,none⟩=some (c6 j)∧W1.cell? ⟨b,off+j*9+7,none⟩=some (c7 j)∧W1.cell? ⟨b,off+j*9+8,none⟩=some (c8 j):=fun W1 hB j hj=>by
   obtain⟨d0,d1,d2,d3,d4,d5,d6,d7,d8⟩:=hc j hj
   exact⟨(hB.cell (p:=⟨b,_,none⟩) hb).trans d0,(hB.cell (p:=⟨b,_,none⟩) hb).trans d1,(hB.cell (p:=⟨b,_,none⟩) hb).trans d2,(hB.cell (p:=⟨b,_,none⟩) hb).trans d3,(hB.cell (p:=⟨b,_,none⟩) hb).trans d4,(hB.cell (p:=⟨b,_,none⟩) hb).trans d5,(hB.cell (p:=⟨b,_,none⟩) hb).trans d6,(hB.cell (p:=⟨b,_,none⟩) hb).trans d7,(hB.cell (p:=⟨b,_,none⟩) hb).trans d8⟩
  by_cases hlt:k≤a
  ·obtain⟨fn,tmps,assign,body,hy,hR⟩:=hY _ (a-k) wr hJs (by rw[dnL_length];omega)
   obtain⟨d0,d1,d2,d3,d4,d5,d6,d7,d8⟩:=hcell wr hnx (a-k) (by omega)
   have hBl':=(hnx.cell (p:=⟨Bl,2,none⟩) hBl0).trans hBl
   have hx:((a:Int)-k)=((a-k:Nat):Int):=by omega
   rw[hx]
   have hlx:a-k<len:=by omega
   generalize hm:a-k=m at *
   gi_wp2
   refine hR.mono ?_
   rintro e W3 (⟨rfl,hJ3,hk3⟩|⟨rfl,hJx3⟩)
   ·obtain⟨e0,e1,e2,e3,e4,e5,e6,e7,e8⟩:=hcell W3 (hnx.trans hk3) m hlx
    have hBl3:=((hnx.trans hk3).cell (p:=⟨Bl,2,none⟩) hBl0).trans hBl
    have hjk:∀j,0<j→j<k+1→bl (a+1-j)=false:=fun j h1 h2=>hbs j h1 (by omega)
    cases hbm:bl m with
    |true =>
     rw[hbm]at e4
     gi_wp2
     refine bodyPost_ret (results_none rfl _ _ _) rfl ?_
     exact⟨⟨_,rfl⟩,.inl ⟨k+1,by omega,by rw[dnL_succ,hm];exact hJ3,.inr ⟨by omega,by rw[show a+1-(k+1)=m by omega];exact hbm⟩,hjk⟩⟩
    |false =>
     rw[hbm]at e4
     gi_wp2
     refine⟨⟨k+1,by omega,by rw[show((m:Int)-1)=(a:Int)-((k+1:Nat):Int) by omega],by rw[dnL_succ,hm];exact hJ3,hnx.trans hk3,fun j h1 h2=>?_⟩,by simp[intOf]⟩
     rcases Nat.lt_or_ge j (k+1) with h3|h3
     ·exact hjk j h1 h3
     ·rw[show a+1-j=m by omega];exact hbm
   ·gi_wp2
    refine bodyPost_ret (results_none rfl _ _ _) rfl ?_
    exact⟨⟨_,rfl⟩,.inr ⟨k+1,by omega,by rw[dnL_succ,hm];exact hJx3,fun j h1 h2=>hbs j h1 (by omega)⟩⟩
  ·obtain rfl:k=a+1:=by omega
   have hx:((a:Int)-((a+1:Nat):Int))=-1:=by omega
   rw[hx]
   gi_wp2
   go_end0
   exact⟨⟨_,rfl⟩,.inl ⟨_,Nat.le_refl _,hJs,.inl rfl,fun j h1 h2=>hbs j h1 (by omega)⟩⟩
end Go.Proofs.YtdkokbhcjmapdaaGreatDoor

namespace Go.Proofs.YtdkokbhcjmapdaaGreatDoor
open Go.RowKit Go.Shelf
attribute [local go_sem] Oper.semAt_some
def Box9 (c0 c1 c2 c3:Nat→Value)(bl:Nat→Bool)(c5 c6 c7 c8:Nat→Value)(W:World)(b o x:Nat):Prop :=
 W.cell? ⟨b,o,none⟩=some (c0 x)∧W.cell? ⟨b,o+1,none⟩=some (c1 x)∧W.cell? ⟨b,o+2,none⟩=some (c2 x)∧W.cell? ⟨b,o+3,none⟩=some (c3 x) ∧
   W.cell? ⟨b,o+4,none⟩=some (.bool (bl x))∧W.cell? ⟨b,o+5,none⟩=some (c5 x)∧W.cell? ⟨b,o+6,none⟩=some (c6 x)∧W.cell? ⟨b,o+7,none⟩=some (c7 x)∧W.cell? ⟨b,o+8,none⟩=some (c8 x)
theorem back_stops (F:Fence)(n:Nat)(h7:F.fn 311)(hro:F.round=none)(hn:1≤n)(Ba Bl n₀ b off len cap a:Nat)(c0 c1 c2 c3 c5 c6 c7 c8:Nat→Value)(bl:Nat→Bool)(hlen:len*144≤140737488351232)(hb:b<n₀)(ha:a<len)
  (w:World) (hn0:n₀≤w.heap.size) (hBa:w.cell? ⟨Ba,0,none⟩=some (.int .i64 a)) (hBa0:Ba<w.heap.size) (hBl:w.cell? ⟨Bl,2,none⟩=some (.slice (some ⟨b,off,none⟩) len cap)) (hBl0:Bl<n₀)
  (hc:∀j,j<len→Box9 c0 c1 c2 c3 bl c5 c6 c7 c8 w b (off+j*9) j) :
  SeqStopsK F n Tryz.prog 311 #[.pointer (some ⟨Ba,0,none⟩),.pointer (some ⟨Bl,0,none⟩)] (fun x:Nat=>#[.agg #[c0 x,c1 x,c2 x,c3 x,.bool (bl x),c5 x,c6 x,c7 x,c8 x]]) (Below n₀)
   (fun xs=>∃k,k≤a+1∧xs=dnL a k∧(k=a+1∨0<k∧bl (a+1-k)=true)∧∀j,0<j→j<k→bl (a+1-j)=false)
   (fun xs=>∃k,k≤a+1∧xs=dnL a k∧∀j,0<j→j<k→bl (a+1-j)=false) (a+1) w:=fun l J Jx W hW _ _ hY h0=>by
 have hB:=hW.mono hn0
 refine(back1_in F n h7 hro hn l Ba Bl n₀ b off len cap a c0 c1 c2 c3 c5 c6 c7 c8 bl hlen hb ha J Jx hY W ((hW.cell (p:=⟨Ba,0,none⟩) hBa0).trans hBa) ((hB.cell (p:=⟨Bl,2,none⟩) hBl0).trans hBl) hBl0 (fun j hj=>?_) h0).mono ?_
 ·obtain⟨d0,d1,d2,d3,d4,d5,d6,d7,d8⟩:=hc j hj
  exact⟨(hB.cell (p:=⟨b,_,none⟩) hb).trans d0,(hB.cell (p:=⟨b,_,none⟩) hb).trans d1,(hB.cell (p:=⟨b,_,none⟩) hb).trans d2,(hB.cell (p:=⟨b,_,none⟩) hb).trans d3,(hB.cell (p:=⟨b,_,none⟩) hb).trans d4,(hB.cell (p:=⟨b,_,none⟩) hb).trans d5,(hB.cell (p:=⟨b,_,none⟩) hb).trans d6,(hB.cell (p:=⟨b,_,none⟩) hb).trans d7,(hB.cell (p:=⟨b,_,none⟩) hb).trans d8⟩
 ·rintro e W' ⟨he,⟨k,h1,h2,h3,h4⟩|⟨k,h1,h2,h3⟩⟩
  ·exact⟨he,.inl ⟨_,⟨k,h1,rfl,h3,h4⟩,h2⟩⟩
  ·exact⟨he,.inr ⟨_,⟨k,h1,rfl,h3⟩,h2⟩⟩
theorem heap5 (w:World)(o1 o2 o3 o4 o5:Obj):(((((w.alloc o1).alloc o2).alloc o3).alloc o4).alloc o5).heap[w.heap.size+1]?=some o2∧(((((w.alloc o1).alloc o2).alloc o3).alloc o4).alloc o5).heap[w.heap.size+1+1]?=some o3 ∧
  (((((w.alloc o1).alloc o2).alloc o3).alloc o4).alloc o5).heap[w.heap.size+1+1+1]?=some o4∧(((((w.alloc o1).alloc o2).alloc o3).alloc o4).alloc o5).heap[w.heap.size+1+1+1+1]?=some o5:=by
 have e:(((((w.alloc o1).alloc o2).alloc o3).alloc o4).alloc o5).heap=((((w.heap.push o1).push o2).push o3).push o4).push o5:=rfl
 rw[e]
 simp only[Array.getElem?_push,Array.size_push]
 refine⟨?_,?_,?_,?_⟩
 ·rw[if_neg (by omega),if_neg (by omega),if_neg (by omega),if_pos trivial]
 ·rw[if_neg (by omega),if_neg (by omega),if_pos trivial]
 ·rw[if_neg (by omega),if_pos trivial]
 ·rw[if_pos trivial]
theorem cell_at {W:World}{k i:Nat}{cs:Array Value}{T:TypeId}{fz:Nat×Nat}(h:W.heap[k]?=some (.cells cs T fz)):W.cell? ⟨k,i,none⟩=cs[i]?:=by simp[World.cell?,h]
theorem froz_below {n:Nat}{A B:World}(h:Below n A B){p:Addr}(hp:p.block<n):B.frozen? p=A.frozen? p:=by unfold World.frozen?;rw[h.block _ hp]
theorem keeps_below {A B:World}(h:Below A.heap.size A B):KeepsOthers A B:=⟨h.size,fun k o hk _=>by rw[h.block k (Array.getElem?_eq_some_iff.1 hk).1];exact hk⟩
theorem froz_at {W:World}{k i:Nat}{cs:Array Value}{T:TypeId}(h:W.heap[k]?=some (.cells cs T (0,0))):W.frozen? ⟨k,i,none⟩=false:=by simp[World.frozen?,h]
set_option maxRecDepth 100000 in
set_option maxHeartbeats 4000000 in
theorem value_calls (w : World)(b off len cap a : Nat)(s0 s1 s7 : Nat → ByteArray)(a2 a3 : Nat → Option Addr)(n2 k2 n3 k3 : Nat → Nat)(b5 : Nat → Bool)(i6 i8 : Nat → Int)(bl : Nat → Bool)(v0 v1 p0 p1 : Value)(m1 m2 : Nat → Int)(ok : Nat → Bool)(hlen : len * 144 ≤ 140737488351232)(hb : b < w.heap.size)(ha : a < len)
    (hc : ∀ j, j < len → Box9 (fun x => .string (s0 x)) (fun x => .string (s1 x)) (fun x => .slice (a2 x) (n2 x) (k2 x)) (fun x => .slice (a3 x) (n3 x) (k3 x)) bl (fun x => .bool (b5 x)) (fun x => .int .i64 (i6 x)) (fun x => .string (s7 x)) (fun x => .int .i64 (i8 x)) w b (off + j * 9) j)
    (hmove : ∀ x W, Below w.heap.size w W → Calls Tryz.prog 248 #[.agg #[.string (s0 x), .string (s1 x), .slice (a2 x) (n2 x) (k2 x), .slice (a3 x) (n3 x) (k3 x), .bool (bl x), .bool (b5 x), .int .i64 (i6 x), .string (s7 x), .int .i64 (i8 x)], .agg #[p0, p1]] W fun e W' => e = .returned (.tuple #[.agg #[.int .i64 (m1 x), .int .i64 (m2 x)], .bool (ok x)]) ∧ Below W.heap.size W W')
    (hhome : ∀ W, Calls Tryz.prog 249 #[] W fun e W' => e = .returned (.agg #[.int .i64 (-1), .int .i64 0]) ∧ Below W.heap.size W W') :
    Calls Tryz.prog 191 #[.agg #[v0, v1, .slice (some ⟨b, off, none⟩) len cap], .int .i64 a, .agg #[p0, p1]] w fun e W' =>
      ((∃ k, k ≤ a + 1 ∧ (∀ x ∈ dnL a k, ok x = false) ∧ (k = a + 1 ∨ 0 < k ∧ bl (a + 1 - k) = true) ∧ (∀ j, 0 < j → j < k → bl (a + 1 - j) = false) ∧ e = .returned (.agg #[.int .i64 (-1), .int .i64 0])) ∨
       (∃ k, k < a + 1 ∧ (∀ x ∈ dnL a k, ok x = false) ∧ ok (a - k) = true ∧ (∀ j, 0 < j → j ≤ k → bl (a + 1 - j) = false) ∧ e = .returned (.agg #[.int .i64 (m1 (a - k)), .int .i64 (m2 (a - k))]))) ∧ Below w.heap.size w W' := by
  refine (callsIn_wide (n := 3)).1 ?_
  refine callsIn_of_wp_marks Tryz.func191 rfl trivial ?_ rfl
  simp only [Tryz.ntmps191, List.size_toArray, List.length_cons, List.length_nil, Nat.reduceAdd, Nat.reduceSub, Array.replicate_succ, Array.replicate_zero, List.push_toArray, List.append_toArray, List.nil_append, List.cons_append]
  gi_wp2_with (refine ⟨trivial, ?_⟩; gi_at_call 247; refine (back_in Fence.wide _ trivial rfl _ _ _ _ _).mono ?_; rintro e w' ⟨rfl, rfl⟩)
  have hB0 : Below w.heap.size w (((((w.alloc (.cells #[v0, v1, .slice (some ⟨b, off, none⟩) len cap] 57)).alloc (.cells #[p0, p1] 120)).alloc (.cells #[.int .i64 0, .int .i64 0] 122)).alloc (.cells #[v0, v1, .slice (some ⟨b, off, none⟩) len cap] 57)).alloc (.cells #[.int .i64 a] 3)) :=
    (((((Below.refl _ w).alloc (Nat.le_refl _) _).alloc (by simp) _).alloc (by simp; omega) _).alloc (by simp; omega) _).alloc (by simp; omega) _
  have hs0 : (((((w.alloc (.cells #[v0, v1, .slice (some ⟨b, off, none⟩) len cap] 57)).alloc (.cells #[p0, p1] 120)).alloc (.cells #[.int .i64 0, .int .i64 0] 122)).alloc (.cells #[v0, v1, .slice (some ⟨b, off, none⟩) len cap] 57)).alloc (.cells #[.int .i64 a] 3)).heap.size = w.heap.size + 1 + 1 + 1 + 1 + 1 := by simp
  obtain ⟨g2, g3, g4, g5⟩ := heap5 w (.cells #[v0, v1, .slice (some ⟨b, off, none⟩) len cap] 57) (.cells #[p0, p1] 120) (.cells #[.int .i64 0, .int .i64 0] 122) (.cells #[v0, v1, .slice (some ⟨b, off, none⟩) len cap] 57) (.cells #[.int .i64 a] 3)
  generalize hW0 : (((((w.alloc (.cells #[v0, v1, .slice (some ⟨b, off, none⟩) len cap] 57)).alloc (.cells #[p0, p1] 120)).alloc (.cells #[.int .i64 0, .int .i64 0] 122)).alloc (.cells #[v0, v1, .slice (some ⟨b, off, none⟩) len cap] 57)).alloc (.cells #[.int .i64 a] 3)) = W0 at *
  have f0 : W0.cell? ⟨w.heap.size + 1 + 1 + 1 + 1, 0, none⟩ = some (.int .i64 a) := cell_at g5
  have fq1 : W0.cell? ⟨w.heap.size + 1 + 1 + 1, 2, none⟩ = some (.slice (some ⟨b, off, none⟩) len cap) := cell_at g4
  have fq3 : W0.cell? ⟨w.heap.size + 1, 0, none⟩ = some p0 := cell_at g2
  have fq4 : W0.cell? ⟨w.heap.size + 1, 1, none⟩ = some p1 := cell_at g2
  have fq5 : W0.cell? ⟨w.heap.size + 1 + 1, 0, none⟩ = some (.int .i64 0) := cell_at g3
  have fq6 : W0.cell? ⟨w.heap.size + 1 + 1, 1, none⟩ = some (.int .i64 0) := cell_at g3
  have fq7 : W0.frozen? ⟨w.heap.size + 1 + 1, 0, none⟩ = false := froz_at g3
  have fq8 : W0.frozen? ⟨w.heap.size + 1 + 1, 1, none⟩ = false := froz_at g3
  have hc0 : ∀ j, j < len → Box9 (fun x => .string (s0 x)) (fun x => .string (s1 x)) (fun x => .slice (a2 x) (n2 x) (k2 x)) (fun x => .slice (a3 x) (n3 x) (k3 x)) bl (fun x => .bool (b5 x)) (fun x => .int .i64 (i6 x)) (fun x => .string (s7 x)) (fun x => .int .i64 (i8 x)) W0 b (off + j * 9) j := fun j hj => by
    obtain ⟨d0, d1, d2, d3, d4, d5, d6, d7, d8⟩ := hc j hj
    exact ⟨(hB0.cell (p := ⟨b, _, none⟩) hb).trans d0, (hB0.cell (p := ⟨b, _, none⟩) hb).trans d1, (hB0.cell (p := ⟨b, _, none⟩) hb).trans d2, (hB0.cell (p := ⟨b, _, none⟩) hb).trans d3, (hB0.cell (p := ⟨b, _, none⟩) hb).trans d4, (hB0.cell (p := ⟨b, _, none⟩) hb).trans d5, (hB0.cell (p := ⟨b, _, none⟩) hb).trans d6, (hB0.cell (p := ⟨b, _, none⟩) hb).trans d7, (hB0.cell (p := ⟨b, _, none⟩) hb).trans d8⟩
  refine wpIn_rangeFunc_ownH rfl (by decide) (gf := 311) (lb := #[.pointer (some ⟨w.heap.size + 1 + 1 + 1 + 1, 0, none⟩), .pointer (some ⟨w.heap.size + 1 + 1 + 1, 0, none⟩)]) rfl trivial (enters_of Tryz.func311 (by kernel_rfl) rfl)
    (back_stops Fence.wide _ trivial rfl (by decide) (w.heap.size + 1 + 1 + 1 + 1) (w.heap.size + 1 + 1 + 1) W0.heap.size b off len cap a (fun x => .string (s0 x)) (fun x => .string (s1 x)) (fun x => .slice (a2 x) (n2 x) (k2 x)) (fun x => .slice (a3 x) (n3 x) (k3 x)) (fun x => .bool (b5 x)) (fun x => .int .i64 (i6 x)) (fun x => .string (s7 x)) (fun x => .int .i64 (i8 x)) bl hlen (by omega) ha W0 (Nat.le_refl _) f0 (by omega) fq1 (by omega) hc0)
    belowK_t (belowK_b (Nat.le_refl _)) (Below.refl _ _) (fun _ => rfl)
    (fun pre W => (∀ x ∈ pre, ok x = false) ∧ Below W0.heap.size W0 W)
    (fun c pre W => (c = .ret ∧ ∃ ini last, pre = ini ++ [last] ∧ (∀ x ∈ ini, ok x = false) ∧ ok last = true ∧ W.cell? ⟨w.heap.size + 1 + 1, 0, none⟩ = some (.int .i64 (m1 last)) ∧ W.cell? ⟨w.heap.size + 1 + 1, 1, none⟩ = some (.int .i64 (m2 last))) ∧ Below w.heap.size w W)
    (OwnFrom.and (Own.from (fun s A B row hs hg hr => hs) _) (ownFrom_below (Nat.le_refl _) (Nat.le_refl _)))
    (fun c => OwnFrom.and (Own.from (fun s A B row hs hg hr => by obtain ⟨hc, ini, last, e1, e2, e3, e4, e5⟩ := hs; exact ⟨hc, ini, last, e1, e2, e3, cell_kept e4 hg hr, cell_kept e5 hg hr⟩) _) (ownFrom_below (Nat.le_refl _) (by omega)))
    ⟨by simp, Below.refl _ _⟩
    (fun x a' W => ∃ Bx, w.heap.size + 1 + 1 + 1 + 1 + 1 ≤ Bx ∧ Box9 (fun x => .string (s0 x)) (fun x => .string (s1 x)) (fun x => .slice (a2 x) (n2 x) (k2 x)) (fun x => .slice (a3 x) (n3 x) (k3 x)) bl (fun x => .bool (b5 x)) (fun x => .int .i64 (i6 x)) (fun x => .string (s7 x)) (fun x => .int .i64 (i8 x)) W Bx 0 x ∧ a' = { tmps := #[.agg #[v0, v1, .slice (some ⟨b, off, none⟩) len cap], .int .i64 a, .agg #[p0, p1], .pointer (some ⟨w.heap.size, 0, none⟩), undef, .pointer (some ⟨w.heap.size + 1, 0, none⟩), .pointer (some ⟨w.heap.size + 1 + 1, 0, none⟩), .pointer (some ⟨Bx, 0, none⟩), undef, undef, .agg #[v0, v1, .slice (some ⟨b, off, none⟩) len cap], .int .i64 a, .func (.func 311) #[] #[.pointer (some ⟨w.heap.size + 1 + 1 + 1 + 1, 0, none⟩), .pointer (some ⟨w.heap.size + 1 + 1 + 1, 0, none⟩)], .agg #[.string (s0 x), .string (s1 x), .slice (a2 x) (n2 x) (k2 x), .slice (a3 x) (n3 x) (k3 x), .bool (bl x), .bool (b5 x), .int .i64 (i6 x), .string (s7 x), .int .i64 (i8 x)], undef, undef, undef, undef, undef, undef, undef, undef, undef], defers := [] })
    (fun x a' => Own.from (fun s A B row hs hg hr => by
      obtain ⟨Bx, h1, ⟨d0, d1, d2, d3, d4, d5, d6, d7, d8⟩, h3⟩ := hs
      exact ⟨Bx, h1, ⟨cell_kept d0 hg hr, cell_kept d1 hg hr, cell_kept d2 hg hr, cell_kept d3 hg hr, cell_kept d4 hg hr, cell_kept d5 hg hr, cell_kept d6 hg hr, cell_kept d7 hg hr, cell_kept d8 hg hr⟩, h3⟩) _) ?assign ?body ?done ?stop
  case assign =>
    rintro l pre x W K hi hK
    gi_wp2
    refine hK _ _ ((KeepsOthers.alloc _ _).from _) ((Below.refl _ W).alloc hi.2.size _) ⟨hi.1, hi.2.alloc hi.2.size _⟩ ⟨W.heap.size, by have := hi.2.size; omega, ?_, rfl⟩
    have hn := World.alloc_heap_new W (.cells #[.string (s0 x), .string (s1 x), .slice (a2 x) (n2 x) (k2 x), .slice (a3 x) (n3 x) (k3 x), .bool (bl x), .bool (b5 x), .int .i64 (i6 x), .string (s7 x), .int .i64 (i8 x)] 70)
    exact ⟨cell_at hn, cell_at hn, cell_at hn, cell_at hn, cell_at hn, cell_at hn, cell_at hn, cell_at hn, cell_at hn⟩
  case body =>
    rintro l pre x a' W hl ⟨r, hr⟩ ⟨hp, hB⟩ ⟨Bx, hBx, ⟨d0, d1, d2, d3, d4, d5, d6, d7, d8⟩, rfl⟩ hlt
    simp only [Nat.zero_add] at d1 d2 d3 d4 d5 d6 d7 d8
    have hBw : Below w.heap.size w W := hB0.trans (hB.mono (by omega))
    have q3 := (hB.cell (p := ⟨w.heap.size + 1, 0, none⟩) (by show w.heap.size + 1 < _; omega)).trans fq3
    have q4 := (hB.cell (p := ⟨w.heap.size + 1, 1, none⟩) (by show w.heap.size + 1 < _; omega)).trans fq4
    gi_wp2_with (refine ⟨trivial, ?_⟩; gi_at_call 248; refine (CallsIn.inRound l (callsIn_wide.2 (hmove x W hBw))).mono ?_; rintro e w' ⟨rfl, hBm⟩; have hs3 := hB.size; have hs4 := hBm.size; have hB3 : Below W0.heap.size W0 w' := hB.trans (hBm.mono hs3); have q5 : ∀ o, (w'.alloc o).cell? ⟨w.heap.size + 1 + 1, 0, none⟩ = some (.int .i64 0) := fun o => ((hB3.alloc (by omega) o).cell (p := ⟨w.heap.size + 1 + 1, 0, none⟩) (by show w.heap.size + 1 + 1 < _; omega)).trans fq5; have q6 : ∀ o, (w'.alloc o).cell? ⟨w.heap.size + 1 + 1, 1, none⟩ = some (.int .i64 0) := fun o => ((hB3.alloc (by omega) o).cell (p := ⟨w.heap.size + 1 + 1, 1, none⟩) (by show w.heap.size + 1 + 1 < _; omega)).trans fq6; have q7 : ∀ o, (w'.alloc o).frozen? ⟨w.heap.size + 1 + 1, 0, none⟩ = false := fun o => (froz_below (hB3.alloc (by omega) o) (by show w.heap.size + 1 + 1 < _; omega)).trans fq7; have q8 : ∀ o, (w'.alloc o).frozen? ⟨w.heap.size + 1 + 1, 1, none⟩ = false := fun o => (froz_below (hB3.alloc (by omega) o) (by show w.heap.size + 1 + 1 < _; omega)).trans fq8)
    all_goals first
      | (have hx : ok x = false := by first | assumption | simpa using (by assumption : ¬ ok x = true)
         exact ⟨((keeps_below hBm).trans (KeepsOthers.alloc _ _)).from _, (hBm.mono hs3).alloc (by omega) _, ⟨fun y hy => (List.mem_append.1 hy).elim (hp y) (fun e => by rw [List.mem_singleton.1 e]; exact hx), hB3.alloc (by omega) _⟩⟩)
      | skip
    have hx : ok x = true := by first | assumption | simpa using (by assumption : ¬ ok x = false)
    refine ⟨(((keeps_below hBm).trans (KeepsOthers.alloc _ _)).trans ((KeepsOthers.setCell _ _ _).trans (KeepsOthers.setCell _ _ _))).from _, ⟨rfl, pre, x, rfl, hp, hx, ?_, ?_⟩, ?_⟩
    · exact (World.cell?_setCell_other _ _ _ _ (by simp)).trans (World.cell?_setCell_same' _ _ _ (by rw [q5]; rfl))
    · exact World.cell?_setCell_same' _ _ _ (by rw [World.cell?_setCell_other _ _ _ _ (by simp), q6]; rfl)
    · exact (((hBw.trans (hBm.mono hBw.size)).alloc (by omega) _).setCell (p := ⟨w.heap.size + 1 + 1, 0, none⟩) (by show _ ≤ w.heap.size + 1 + 1; omega) _).setCell (p := ⟨w.heap.size + 1 + 1, 1, none⟩) (by show _ ≤ w.heap.size + 1 + 1; omega) _
  case done =>
    rintro D ys W hD ⟨k, h1, rfl, h2, h3⟩ ⟨hp, hB⟩ hK
    gi_wp2_with (refine ⟨trivial, ?_⟩; gi_at_call 249; refine (callsIn_wide.2 (hhome W)).mono ?_; rintro e w' ⟨rfl, hBh⟩; have hs3 := hB.size; have hs4 := hBh.size; have hB3 : Below W0.heap.size W0 w' := hB.trans (hBh.mono hs3); have q5 : w'.cell? ⟨w.heap.size + 1 + 1, 0, none⟩ = some (.int .i64 0) := (hB3.cell (p := ⟨w.heap.size + 1 + 1, 0, none⟩) (by show w.heap.size + 1 + 1 < _; omega)).trans fq5; have q6 : w'.cell? ⟨w.heap.size + 1 + 1, 1, none⟩ = some (.int .i64 0) := (hB3.cell (p := ⟨w.heap.size + 1 + 1, 1, none⟩) (by show w.heap.size + 1 + 1 < _; omega)).trans fq6; have q7 : w'.frozen? ⟨w.heap.size + 1 + 1, 0, none⟩ = false := (froz_below hB3 (by show w.heap.size + 1 + 1 < _; omega)).trans fq7; have q8 : w'.frozen? ⟨w.heap.size + 1 + 1, 1, none⟩ = false := (froz_below hB3 (by show w.heap.size + 1 + 1 < _; omega)).trans fq8)
    have hKh : w'.heap[D]? = some (.deferred (some [])) := (hBh.block D (Array.getElem?_eq_some_iff.1 hK).1).trans hK
    have hK' := (KeepsOthers.setCell (w'.setCell ⟨w.heap.size + 1 + 1, 0, none⟩ (.int .i64 (-1))) ⟨w.heap.size + 1 + 1, 1, none⟩ (.int .i64 0)).same D _ ((KeepsOthers.setCell w' ⟨w.heap.size + 1 + 1, 0, none⟩ (.int .i64 (-1))).same D _ hKh rfl) rfl
    refine ⟨by simp, .inl ⟨_, _, rfl, run_takeDeferred hK', ?_⟩⟩
    have k0 : ((w'.setCell ⟨w.heap.size + 1 + 1, 0, none⟩ (.int .i64 (-1))).setCell ⟨w.heap.size + 1 + 1, 1, none⟩ (.int .i64 0)).cell? ⟨w.heap.size + 1 + 1, 0, none⟩ = some (.int .i64 (-1)) :=
      (World.cell?_setCell_other _ _ _ _ (by simp)).trans (World.cell?_setCell_same' _ _ _ (by rw [q5]; rfl))
    have k1 : ((w'.setCell ⟨w.heap.size + 1 + 1, 0, none⟩ (.int .i64 (-1))).setCell ⟨w.heap.size + 1 + 1, 1, none⟩ (.int .i64 0)).cell? ⟨w.heap.size + 1 + 1, 1, none⟩ = some (.int .i64 0) :=
      World.cell?_setCell_same' _ _ _ (by rw [World.cell?_setCell_other _ _ _ _ (by simp), q6]; rfl)
    have hc5 := cell_kept k0 (grownBy_putObj' _ D (.deferred none)) (fun r e => by cases e; exact ⟨_, hK', rfl⟩)
    have hc6 := cell_kept k1 (grownBy_putObj' _ D (.deferred none)) (fun r e => by cases e; exact ⟨_, hK', rfl⟩)
    refine ⟨.agg #[.int .i64 (-1), .int .i64 0], ?_, .inl ⟨k, h1, hp, h2, h3, rfl⟩, (((hB0.trans (hB3.mono (by omega))).setCell (p := ⟨w.heap.size + 1 + 1, 0, none⟩) (by show _ ≤ w.heap.size + 1 + 1; omega) _).setCell (p := ⟨w.heap.size + 1 + 1, 1, none⟩) (by show _ ≤ w.heap.size + 1 + 1; omega) _).trans (belowK_b (w := w) (Nat.le_refl _) _ D _ _ (by omega) hK' rfl rfl)⟩
    simp [results, Tryz.f191, go_sem, hc5, hc6]
  case stop =>
    rintro D c pre W hD ⟨k, h1, rfl, h2⟩ ⟨⟨rfl, ini, last, e1, e2, e3, e4, e5⟩, hB⟩ hK
    gi_wp2
    obtain ⟨k', rfl⟩ : ∃ k', k = k' + 1 := by
      cases k with
      | zero => simp [dnL] at e1
      | succ k' => exact ⟨k', rfl⟩
    rw [dnL_succ] at e1
    obtain ⟨rfl, e6⟩ := List.append_inj' e1 rfl
    obtain rfl : a - k' = last := by simpa using e6
    refine ⟨by simp, .inl ⟨_, _, rfl, run_takeDeferred hK, ?_⟩⟩
    have hc5 := cell_kept e4 (grownBy_putObj' _ D (.deferred none)) (fun r e => by cases e; exact ⟨_, hK, rfl⟩)
    have hc6 := cell_kept e5 (grownBy_putObj' _ D (.deferred none)) (fun r e => by cases e; exact ⟨_, hK, rfl⟩)
    refine ⟨.agg #[.int .i64 (m1 (a - k')), .int .i64 (m2 (a - k'))], ?_, .inr ⟨k', by omega, e2, e3, fun j h3 h4 => h2 j h3 (by omega), rfl⟩, hB.trans (belowK_b (w := w) (Nat.le_refl _) W D _ _ (by omega) hK rfl rfl)⟩
    simp [results, Tryz.f191, go_sem, hc5, hc6]
end Go.Proofs.YtdkokbhcjmapdaaGreatDoor

