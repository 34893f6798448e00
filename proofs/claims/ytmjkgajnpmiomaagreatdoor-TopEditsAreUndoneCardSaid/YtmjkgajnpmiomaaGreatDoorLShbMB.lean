/- Steps on objects. -/
import Derived.Test.YtmjkgajnpmiomaaGreatDoorLShbM
import Derived.MapKept
import Derived.WideKeyRuns
import Derived.Maps.RangeRun
set_option linter.unusedSimpArgs false
set_option linter.unusedVariables false
namespace Go.Sha
open Go.MapKept
section
variable {P:Program}{w:World}{A:Abs}{st:St}{a:Act}{env:Env}
def KT.desc:KT→TypeDesc
 | .b=>.bool
 | .i q=>.int q
 | .s=>.string
 | .a _=>.bool
def KOk (P:Program)(k:TypeId):KT→Prop
 | .a ks=>plainFlat P 60 k=some ks∧isAggB P k=some true
 | .b=>P.underlying k=some .bool
 | .i q=>P.underlying k=some (.int q)
 | .s=>P.underlying k=some .string
theorem kdsV_length:∀{ks:List Kd}{cs:List V},kdsV ks cs=true→cs.length=ks.length
 |[],[],_=>rfl
 |_::ks,_::cs,h=>by simp only[kdsV,Bool.and_eq_true]at h;simp[kdsV_length h.2]
 |[],_::_,h=>by simp[kdsV]at h
 |_::_,[],h=>by simp[kdsV]at h
theorem kdsV_append:∀{ks ls:List Kd}{cs:List V},kdsV (ks++ls) cs=true→kdsV ks (cs.take ks.length)=true∧kdsV ls (cs.drop ks.length)=true
 |[],ls,cs,h=>by simpa [kdsV] using h
 |k::ks,ls,c::cs,h=>by
  simp only[List.cons_append,kdsV,Bool.and_eq_true]at h
  have:=kdsV_append h.2
  simp[kdsV,h.1,this]
 |k::ks,ls,[],h=>by simp[kdsV]at h
theorem eqCells_of:∀{ks:List Kd}{a b:List V}{r:Bool},kdsV ks a=true→sameC a b=some r→eqCells ks a b=some r
 |[],[],[],r,_,h=>h
 |k::ks,x::a,y::b,r,hk,h=>by
  simp only[kdsV,Bool.and_eq_true]at hk
  simp only[sameC]at h
  split at h
  ·rename_i p q hp hq
   cases h
   have h1:eqCell k x y=some p:=by
    cases k<;>cases x<;>simp[kdV]at hk<;>cases y<;>simp_all [sameS,eqCell]
   simp only[eqCells,h1,eqCells_of hk.2 hq]
  ·cases h
 |[],_::_,_,_,h,_=>by simp[kdsV]at h
 |_::_,[],_,_,h,_=>by simp[kdsV]at h
 |[],[],_::_,_,_,h=>by simp[sameC]at h
 |_::_,_::_,[],_,_,h=>by simp[sameC]at h
theorem sameS_eq {x y:V}(h:sameS x y=some true):x=y:=by
 cases x<;>cases y<;>simp_all [sameS]
theorem sameC_eq:∀{a b:List V},sameC a b=some true→a=b
 |[],[],_=>rfl
 |x::a,y::b,h=>by
  simp only[sameC]at h
  split at h
  ·rename_i p q hp hq
   simp only[Option.some.injEq,Bool.and_eq_true]at h
   rw[show x=y from sameS_eq (by rw[hp,h.1]),show a=b from sameC_eq (by rw[hq,h.2])]
  ·cases h
 |[],_::_,h=>by simp[sameC]at h
 |_::_,[],h=>by simp[sameC]at h
theorem rep_scalar {k:Kd}{c:V}(h:kdV k c=true){x y:Value}(hx:Rep w A x c)(hy:Rep w A y c):x=y:=by
 cases k<;>cases c<;>simp[kdV]at h<;>cases hx<;>cases hy<;>rfl
theorem reps_scalar:∀{ks:List Kd}{cs:List V}{vs us:List Value},kdsV ks cs=true→Reps w A vs cs→Reps w A us cs→vs=us:=fun {ks cs vs us} h hv hu=>by
 apply List.ext_getElem?
 intro i
 have l1:=hv.1;have l2:=hu.1
 by_cases hi:i<cs.length
 ·have e1:vs[i]?=some vs[i]:=List.getElem?_eq_getElem _
  have e2:us[i]?=some us[i]:=List.getElem?_eq_getElem _
  have e3:cs[i]?=some cs[i]:=List.getElem?_eq_getElem _
  have hk:∀{ks:List Kd}{cs:List V}{i:Nat}{c:V},kdsV ks cs=true→cs[i]?=some c→∃k,kdV k c=true:=by
   intro ks
   induction ks with
   |nil=>intro cs i c h hc;cases cs<;>simp[kdsV]at h hc
   |cons k ks ih =>
    intro cs i c h hc
    cases cs with
    |nil=>simp at hc
    |cons x cs =>
     simp only[kdsV,Bool.and_eq_true]at h
     cases i with
     |zero=>simp at hc;subst hc;exact⟨k,h.1⟩
     |succ i=>exact ih h.2 (by simpa using hc)
  obtain⟨k,hk⟩:=hk h e3
  rw[e1,e2,rep_scalar hk (hv.2 i _ _ e1 e3) (hu.2 i _ _ e2 e3)]
 ·rw[List.getElem?_eq_none (by omega),List.getElem?_eq_none (by omega)]
theorem fields_each {d:Nat}{vs:List Value}{cs:List V}(hv:Reps w A vs cs):∀(fs:List Field) (e:Nat) (ks:List Kd),flatFields (plainFlat P d) fs e=some ks→e≤cs.length→kdsV ks (cs.drop e)=true →
  ∀f∈fs,f.name≠"_"∧∃k1 x c',plainFlat P d f.type=some k1∧(part f.type vs.toArray f.offset).run P w=.ok x w∧Flat P w A f.type x c'∧kdsV k1 c'=true
 |[],_,_,_,_,_,f,hf=>by simp at hf
 |f::fs,e,ks,h,he,hk,g,hg=>by
  simp only[flatFields]at h
  split at h
  ·rename_i hc
   obtain⟨hname,hoff⟩:=hc
   split at h
   ·rename_i k1 hm
    split at h
    ·rename_i l hl
     cases h
     obtain⟨h1,⟨b,h2,h3⟩,_⟩:=eqBy_flat (w:=w) (A:=A) d _ _ hm d (Nat.le_refl _)
     obtain⟨q1,q2⟩:=kdsV_append hk
     have hlen:=kdsV_length hk
     simp at hlen
     rcases List.mem_cons.1 hg with rfl|hg
     ·obtain⟨x,p1,p2⟩:=part_flat h1 h2 h3 hv e (by omega)
      subst hoff
      exact⟨hname,k1,x,_,hm,p1,p2,q1⟩
     ·exact fields_each hv fs (e+k1.length) l hl (by omega) (by rw[←List.drop_drop];exact q2) g hg
    ·cases h
   ·cases h
  ·cases h
theorem checkKey_flat (em:Bool):∀(d:Nat) (t:TypeId) (ks:List Kd),plainFlat P d t=some ks→∀(x:Value) (cs:List V) (n:Nat),Flat P w A t x cs→kdsV ks cs=true→d≤n→(Instr.checkKey em n t x).run P w=.ok () w
 |0,_,_,h=>by simp[plainFlat]at h
 |d+1,t,ks,h=>fun x cs n hx hk hn=>by
  obtain⟨n,rfl⟩:∃k,n=k+1:=⟨n-1,by omega⟩
  simp only[plainFlat]at h
  have scal:∀{dd:TypeDesc},P.underlying t=some dd→(∀fs,dd≠.struct fs)→(∀m e,dd≠.array m e)→(∀ms,dd≠.interface ms)→(Instr.checkKey em (n+1) t x).run P w=.ok () w:=fun {dd} hu s1 s2 s3=>by
   unfold Instr.checkKey
   simp only[Sem.run_bind,run_underlying hu,Result.andThen]
   cases dd<;>cases x<;>simp_all
  split at h
  ·rename_i hu;exact scal hu (by simp) (by simp) (by simp)
  ·rename_i hu;exact scal hu (by simp) (by simp) (by simp)
  ·rename_i hu;exact scal hu (by simp) (by simp) (by simp)
  ·rename_i fs hu
   split at h
   ·rename_i hp
    split at h
    ·rename_i l hl
     split at h
     ·rename_i hs
      cases h
      have ha:isAggB P t=some true:=by simp[isAggB,hu]
      obtain⟨_,vs,rfl,hvs⟩:isAggB P t=some true∧∃vs:List Value,x=.agg vs.toArray∧Reps w A vs cs:=by rcases hx with e|⟨e,_⟩;exact e;(rw[ha]at e;cases e)
      have each:=fields_each (P:=P) hvs _ 0 _ hl (Nat.zero_le _) (by simpa using hk)
      have deep:∀f∈fs.toList,f.name≠"_"∧∃x,(part f.type vs.toArray f.offset).run P w=.ok x w∧(Instr.checkKey em n f.type x).run P w=.ok () w:=fun f hf=>by
       obtain⟨g1,k1,x,c',g2,g3,g4,g5⟩:=each f hf
       exact⟨g1,x,g3,checkKey_flat em d _ _ g2 x c' n g4 g5 (by omega)⟩
      rw[Instr.checkKey]
      simp only[Sem.run_bind,run_underlying hu,Result.andThen_ok]
      rw[←Array.forIn_toList]
      clear each hl
      generalize fs.toList=L at deep
      induction L with
      |nil=>simp
      |cons f L ih =>
       obtain⟨hn,a,p1,p2⟩:=deep f (by simp)
       simp only[List.forIn_cons,Sem.run_bind,hn,ne_eq,not_false_eq_true,if_true,Result.andThen_ok,p1,p2,Sem.run_pure]
       exact ih (fun y hy=>deep y (by simp[hy]))
     ·cases h
    ·cases h
   ·cases h
  ·cases h
theorem isKey_of {q:KT}{v:Value}{k:V}(hq:∀ks,q≠.a ks)(h:keyV q k=true)(hr:Rep w A v k):IsKey q.desc v:=by
 cases q<;>cases k<;>simp[keyV]at h<;>first|(cases hr<;>simp_all [IsKey,KT.desc];done)|exact absurd rfl (hq _)
theorem agg_flat {k:TypeId}(ha:isAggB P k=some true){v:Value}{cs:List V}(hr:Rep w A v (.agg cs)):∃vs:List Value,v=.agg vs.toArray∧Reps w A vs cs∧Flat P w A k v cs:=by
 cases hr with
 |agg vs _ hl _ hR=>exact⟨vs,rfl,⟨hl,hR⟩,.inl ⟨ha,vs,rfl,hl,hR⟩⟩
theorem key_check {q:KT}{kt:TypeId}(hq:KOk P kt q){v:Value}{k:V}(h:keyV q k=true)(hr:Rep w A v k)(em:Bool):(Instr.checkKey em 10000 kt v).run P w=.ok () w:=by
 cases q with
 |a ks =>
  cases k<;>simp[keyV]at h
  obtain⟨vs,rfl,_,hf⟩:=agg_flat hq.2 hr
  exact checkKey_flat em 60 kt ks hq.1 _ _ 10000 hf h (by omega)
 |_=>exact run_checkKey (n:=9999) hq (isKey_of (by simp) h hr) em
theorem sameBits_scalar {k:Kd}{c:V}(h:kdV k c=true){x:Value}(hx:Rep w A x c)(n:Nat):Instr.sameBits n x x=true:=by
 cases k<;>cases c<;>simp[kdV]at h<;>cases hx<;>simp[Instr.sameBits,bytes_beq]
theorem key_stays {q:KT}{v:Value}{k:V}(h:keyV q k=true)(hr:Rep w A v k):(Instr.keyThatStays v v).run P w=.ok v w:=by
 cases q with
 |a ks =>
  cases k<;>simp[keyV]at h
  rename_i cs
  cases hr with
  |agg vs _ hl _ hR =>
   have key:∀{ks:List Kd}{cs:List V}{vs:List Value},kdsV ks cs=true→Reps w A vs cs→(vs.zip vs).all (fun(x,y)=>Instr.sameBits 9999 x y)=true:=by
    intro ks
    induction ks with
    |nil=>intro cs vs h hR;cases cs<;>simp[kdsV]at h;have:=hR.1;simp at this;subst this;rfl
    |cons k ks ih =>
     intro cs vs h hR
     cases cs with
     |nil=>simp[kdsV]at h
     |cons c cs =>
      simp only[kdsV,Bool.and_eq_true]at h
      cases vs with
      |nil=>have:=hR.1;simp at this
      |cons v vs =>
       simp only[List.zip_cons_cons,List.all_cons,Bool.and_eq_true]
       exact⟨sameBits_scalar h.1 (hR.2 0 _ _ rfl rfl) 9999,ih h.2 ⟨by simpa using hR.1,fun i v c h1 h2=>hR.2 (i+1) v c (by simpa using h1) (by simpa using h2)⟩⟩
   have h9:=key h ⟨hl,hR⟩
   have hb:Instr.sameBits (9999+1) (.agg vs.toArray) (.agg vs.toArray)=true:=by
    rw[Instr.sameBits]
    exact Bool.and_eq_true_iff.2 ⟨beq_self_eq_true _,h9⟩
   have hb':Instr.sameBits 10000 (.agg vs.toArray) (.agg vs.toArray)=true:=hb
   rw[Instr.keyThatStays,hb']
   rfl
 |_=>exact run_keyThatStays (isKey_of (by simp) h hr)
theorem same_sound {q:KT}(hq:∀ks,q≠.a ks){v v':Value}{k k':V}{b:Bool}(hk:keyV q k=true)(hr:Rep w A v k)(hr':Rep w A v' k')(h:sameV k k'=some b):Instr.sameNow q.desc v v'=some b∧(b=true→v'=v):=by
 cases q<;>first|exact absurd rfl (hq _)|skip
 all_goals cases k<;>simp[keyV]at hk<;>cases k'<;>simp[sameV]at h<;>cases hr<;>cases hr'
 ·subst h
  exact⟨rfl,fun e=>by simpa using(beq_iff_eq.1 e).symm⟩
 ·obtain⟨h1,h2⟩:=h
  subst h1;subst h2
  exact⟨by simp[Instr.sameNow,KT.desc],fun e=>by rw[beq_iff_eq.1 e]⟩
 ·subst h
  rename_i s s'
  refine⟨?_,fun e=>by rw[beq_iff_eq.1 e]⟩
  simp only[Instr.sameNow,KT.desc,Option.some.injEq]
  rw[Bool.eq_iff_iff,bytes_beq]
  simp
theorem same_agg {kt:TypeId}{ks:List Kd}(hq:KOk P kt (.a ks)){v v':Value}{k k':V}{b:Bool}(hk:keyV (.a ks) k=true)(hr:Rep w A v k)(hr':Rep w A v' k')(h:sameV k k'=some b):(Op.equal kt v v').run P w=.ok b w∧(b=true→v'=v):=by
 cases k<;>simp[keyV]at hk
 cases k'<;>simp only[sameV,reduceCtorEq]at h
 rename_i a c
 obtain⟨vs,rfl,hvs,hf⟩:=agg_flat hq.2 hr
 obtain⟨us,rfl,hus,hf'⟩:=agg_flat hq.2 hr'
 refine⟨(eqBy_flat (w:=w) (A:=A) 60 kt ks hq.1 10000 (by omega)).2.2 _ _ _ _ b hf hf' (eqCells_of hk h),fun e=>?_⟩
 subst e
 have:=sameC_eq h
 subst this
 rw[reps_scalar hk hus hvs]
def askQ (P:Program)(w:World)(kt:TypeId)(v:Value)(ms:List MapEntry)(i:Nat)(r:Option (Nat×Value)):KT→Prop
 | .a _=>(Instr.findAsking kt v ms i).run P w=.ok r w
 |q=>Instr.findNow q.desc v ms i=some r
theorem askQ_find {q:KT}{kt:TypeId}(hq:KOk P kt q){v:Value}{ms:List MapEntry}{r:Option (Nat×Value)}(h:askQ P w kt v ms 0 r q):(Instr.findKey kt v ms).run P w=.ok r w:=by
 cases q with
 |a ks =>
  have hwide:(match P.underlying kt with|some (.array _ _)|some (.struct _)=>true|_=>false)=true:=by
   have:=hq.2
   have h1:plainFlat P (59+1) kt=some ks:=hq.1
   rw[plainFlat]at h1
   unfold isAggB at this
   cases hu:P.underlying kt with
   |none=>simp[hu]at this
   |some dd=>rw[hu]at this h1;cases dd<;>simp_all
  rw[run_findKey_eq (w:=w) hwide]
  exact h
 |_=>exact run_findKey hq h
theorem find_sound {q:KT}{kt:TypeId}(hq:KOk P kt q){v:Value}{k:V}(hk:keyV q k=true)(hr:Rep w A v k):∀(ms:List MapEntry) (es:List (V×V)) (i:Nat) {r:Option (Nat×V)},ms.length=es.length →
  (∀(j:Nat) (m:MapEntry) (c:V×V),ms[j]?=some m→es[j]?=some c→Rep w A m.key c.1∧Rep w A m.val c.2)→findV k es i=some r →
  match r with
  |none=>askQ P w kt v ms i none q
  |some (j,c)=>∃m,i≤j∧ms[j-i]?=some m∧m.key=v∧Rep w A m.val c∧askQ P w kt v ms i (some (j,m.val)) q
 |[],[],i,r,_,_,h=>by cases h;cases q<;>rfl
 |m::ms,e::es,i,r,hl,hm,h=>by
  obtain⟨k1,k2⟩:=hm 0 m e rfl rfl
  have same:∀{b:Bool},sameV k e.1=some b→(b=true→m.key=v)∧(b=true→askQ P w kt v (m::ms) i (some (i,m.val)) q)∧(b=false→∀r',askQ P w kt v ms (i+1) r' q→askQ P w kt v (m::ms) i r' q):=fun {b} hs=>by
   cases q with
   |a ks =>
    obtain⟨g1,g2⟩:=same_agg hq hk hr k1 hs
    refine⟨g2,fun e=>?_,fun e r' h'=>?_⟩
    ·subst e;simp[askQ,Instr.findAsking,g1]
    ·subst e;simp only[askQ]at h' ⊢;simp[Instr.findAsking,g1,h']
   |_ =>
    obtain⟨g1,g2⟩:=same_sound (by simp) hk hr k1 hs
    refine⟨g2,fun e=>?_,fun e r' h'=>?_⟩
    ·subst e;simp[askQ,Instr.findNow,g1]
    ·subst e;simp only[askQ]at h' ⊢;simp[Instr.findNow,g1,h']
  simp only[findV]at h
  split at h
  ·rename_i hs
   cases h
   obtain⟨g2,g3,_⟩:=same hs
   exact⟨m,Nat.le_refl _,by simp,g2 rfl,k2,g3 rfl⟩
  ·rename_i hs
   obtain⟨_,_,g1⟩:=same hs
   have ih:=find_sound hq hk hr ms es (i+1) (by simpa using hl) (fun j m c h1 h2=>hm (j+1) m c (by simpa using h1) (by simpa using h2)) h
   cases r with
   |none=>exact g1 rfl _ ih
   |some p =>
    obtain⟨j,c⟩:=p
    obtain⟨m',h1,h2,h3,h4,h5⟩:=ih
    refine⟨m',by omega,?_,h3,h4,g1 rfl _ h5⟩
    rw[show j-i=(j-(i+1))+1 by omega]
    simpa using h2
  ·cases h
 |[],_::_,_,_,hl,_,_=>by simp at hl
 |_::_,[],_,_,hl,_,_=>by simp at hl
theorem Sim.newObj (hs:Sim w A st){o:Obj}{ob:Ob}(hrow:ob.at (w.alloc o) (A.newMem w.heap.size) st.nx)(hb:∀g,(A.newMem w.heap.size).own g=some st.nx→g=w.heap.size) :
  Sim (w.alloc o) (A.newMem w.heap.size) ⟨st.nx+1,st.mem,st.arr,⟨(st.nx,ob)::st.x.obj,st.x.gl,st.x.ty⟩⟩:=by
 have hx:Ext w A (w.alloc o) (A.newMem w.heap.size):=Ext.newMem hs _
 have oldown:∀b id,A.own b=some id→(A.newMem w.heap.size).own b=some id:=fun b id h=>by
  have:=(hs.ownlt b id h).1
  simp only[Abs.newMem];rw[if_neg (by omega)];exact h
 refine⟨by simp[Abs.newMem,hs.nx],fun id cs' h=>?_,fun id ar h=>?_,fun b o h=>?_,fun b id h=>?_,hs.disj,⟨fun id ob' h=>?_,fun p hp=>hx.gl (hs.x.gl p hp),fun id T h=>?_⟩⟩
 ·have hk:=hs.mem id cs' h
  have hb:=(hs.ownlt _ _ hk.own).1
  exact hk.of_heap hx (oldown _ _ hk.own) (heap_alloc_old w _ hb) hk.noC
 ·have hk:=hs.arr id ar h
  exact hk.of_heap hx rfl (fun g hg=>⟨oldown _ _ hg,heap_alloc_old w _ (hs.ownlt _ _ hg).1,fun _=>Iff.rfl⟩)
 ·have:=hs.Clt b o h;simp;omega
 ·simp only[Abs.newMem]at h ⊢
  split at h
  ·rename_i e;cases h;subst e;simp
  ·have:=hs.ownlt b id h;simp;omega
 ·simp only[look]at h
  split at h
  ·rename_i e;cases h;subst e
   refine⟨⟨by simp[Abs.newMem,hs.nx],hrow,fun g hg k hc=>?_⟩,?_,?_⟩
   ·have:=hb g hg
    subst this
    exact Nat.lt_irrefl _ (hs.Clt _ _ hc)
   ·cases e:look st.mem st.nx with
    |none=>rfl
    |some c=>have:=(hs.mem _ _ e).lt;have:=hs.nx;omega
   ·cases e:look st.arr st.nx with
    |none=>rfl
    |some c=>have:=(hs.arr _ _ e).lt;have:=hs.nx;omega
  ·rename_i hne
   obtain⟨hk,m1,m2⟩:=hs.x.obj id ob' h
   refine⟨hk.of_heap hx (fun g hg=>⟨oldown _ _ hg,heap_alloc_old w _ (hs.ownlt _ _ hg).1⟩) (fun g hg k hc=>?_),m1,m2⟩
   simp only[Abs.newMem]at hg
   split at hg
   ·cases hg;exact hne hs.nx
   ·exact hk.noC g hg k hc
 ·obtain⟨hk,hn⟩:=hs.x.ty id T h
  exact⟨hk.of_heap hx (oldown _ _ hk.own) (fun vs fz h=>⟨vs,fz,by rw[heap_alloc_old w _ (hs.ownlt _ _ hk.own).1];exact h⟩),hn⟩
theorem newMem_own (hs:Sim w A st){g:Nat}(h:(A.newMem w.heap.size).own g=some st.nx):g=w.heap.size:=by
 simp only[Abs.newMem]at h
 split at h
 ·assumption
 ·have:=(hs.ownlt _ _ h).2;have:=hs.nx;omega
theorem Sim.newMap (hs:Sim w A st):Sim (w.alloc (.map #[] 0)) (A.newMem w.heap.size) ⟨st.nx+1,st.mem,st.arr,⟨(st.nx,.map [])::st.x.obj,st.x.gl,st.x.ty⟩⟩:=by
 refine hs.newObj ⟨#[],0,?_,?_,rfl,rfl,fun i m h=>by simp at h,fun i m c h=>by simp at h⟩ (fun g=>newMem_own hs)
 ·have e1:(A.newMem w.heap.size).loc st.nx=w.heap.size:=by simp[Abs.newMem,hs.nx]
  rw[e1];exact heap_alloc_new w _
 ·simp[Abs.newMem,hs.nx]
theorem look_updO {l:List (Nat×Ob)}{i j:Nat}{o:Ob}:look (updO l i o) j=if j=i then(look l i).map (fun _=>o) else look l j:=by
 induction l with
 |nil=>simp[updO,look]
 |cons p r ih =>
  obtain⟨k,c⟩:=p
  simp only[updO]
  by_cases h:k=i
  ·subst h;simp only[if_true,look]
   by_cases h2:k=j
   ·subst h2;simp
   ·rw[if_neg h2,if_neg (Ne.symm h2),if_neg h2]
  ·simp only[if_neg h,look]
   by_cases h2:k=j
   ·subst h2;rw[if_pos rfl,if_neg h,if_pos rfl]
   ·rw[if_neg h2,ih,if_neg h2]
theorem Sim.setMap (hs:Sim w A st){id:Nat}{es es':List (V×V)}(hl:look st.x.obj id=some (.map es)){ms':Array MapEntry}
  (h1:ms'.size=es'.length) (h2:∀(i:Nat) (m:MapEntry),ms'[i]?=some m→m.born=i) (h3:∀(i:Nat) (m:MapEntry) (c:V×V),ms'[i]?=some m→es'[i]?=some c→Rep w A m.key c.1∧Rep w A m.val c.2) :
  Ext w A { w with heap:=w.heap.setIfInBounds (A.loc id) (.map ms' ms'.size) } A∧Sim { w with heap:=w.heap.setIfInBounds (A.loc id) (.map ms' ms'.size) } A ⟨st.nx,st.mem,st.arr,⟨updO st.x.obj id (.map es'),st.x.gl,st.x.ty⟩⟩:=by
 obtain⟨hk,m1,m2⟩:=hs.x.obj id _ hl
 obtain⟨ms,clock,r1,r2,r3,r4,r5,r6⟩:=hk.row
 have hlt:A.loc id<w.heap.size:=(Array.getElem?_eq_some_iff.1 r1).1
 have other:∀b,b≠A.loc id→(w.heap.setIfInBounds (A.loc id) (.map ms' ms'.size))[b]?=w.heap[b]?:=fun b hb=>by
  rw[Array.getElem?_setIfInBounds];rw[if_neg (Ne.symm hb)]
 have hx:Ext w A { w with heap:=w.heap.setIfInBounds (A.loc id) (.map ms' ms'.size) } A:=by
  refine⟨Nat.le_refl _,fun _ _=>rfl,fun _ _=>Nat.le_refl _,fun _ _ _=>rfl,fun b o h=>⟨h,?_⟩,fun _ _ h=>h,by simp,rfl,rfl,rfl,fun b hb ho=>other b (fun e=>by subst e;rw[r2]at ho;cases ho),fun _ _ _ _ h=>h,fun b ms c hc h=>by rw[other b (fun e=>by subst e;exact hk.noC _ r2 0 hc)];exact h⟩
  unfold World.cell?
  simp only
  rw[other b (fun e=>by subst e;exact hk.noC _ r2 o h)]
 refine⟨hx,hs.nx,fun i cs h=>?_,fun i ar h=>?_,fun b o h=>by have:=hs.Clt b o h;simpa using this,fun b i h=>by have:=hs.ownlt b i h;simpa using this,hs.disj,⟨fun i o ho=>?_,fun p hp=>hx.gl (hs.x.gl p hp),fun i T h=>?_⟩⟩
 ·have hk':=hs.mem i cs h
  exact hk'.of_heap hx hk'.own (other _ (fun e=>by have:=hk'.own;rw[e,r2]at this;cases this;rw[h]at m1;cases m1)) hk'.noC
 ·exact(hs.arr i ar h).of_heap hx rfl (fun g hg=>⟨hg,other _ (fun e=>by rw[e,r2]at hg;cases hg;rw[h]at m2;cases m2),fun _=>Iff.rfl⟩)
 ·simp only at ho
  rw[look_updO]at ho
  split at ho
  ·rename_i e;subst e
   rw[hl]at ho
   cases ho
   refine⟨⟨hk.lt,⟨ms',ms'.size,?_,r2,h1,rfl,h2,fun j m c hm hc=>?_⟩,hk.noC⟩,m1,m2⟩
   ·simp only;rw[Array.getElem?_setIfInBounds,if_pos rfl,if_pos hlt]
   ·obtain⟨q1,q2⟩:=h3 j m c hm hc
    exact⟨q1.mono hx,q2.mono hx⟩
  ·rename_i hne
   obtain⟨hk',n1,n2⟩:=hs.x.obj i o ho
   exact⟨hk'.of_heap hx (fun g hg=>⟨hg,other _ (fun e=>by rw[e,r2]at hg;cases hg;exact hne rfl)⟩) hk'.noC,n1,n2⟩
 ·obtain⟨hk',hn⟩:=hs.x.ty i T h
  refine⟨hk'.of_heap hx hk'.own (fun vs fz h=>⟨vs,fz,?_⟩),hn⟩
  rw[other _ (fun e=>by rw[e,r1]at h;cases h)]
  exact h
theorem does_mkmap (hs:Sim w A st)(t:TypeId):Does P w A (do pure (.value (←Instr.makeMap t none))) (.mp st.nx) ⟨st.nx+1,st.mem,st.arr,⟨(st.nx,.map [])::st.x.obj,st.x.gl,st.x.ty⟩⟩:=by
 refine⟨.value (.map (some w.heap.size)),w.alloc (.map #[] 0),A.newMem w.heap.size,rfl,.inl ⟨_,rfl,?_⟩,hs.newMap,Ext.newMem hs _⟩
 have e1:(A.newMem w.heap.size).loc st.nx=w.heap.size:=by simp[Abs.newMem,hs.nx]
 have:=Rep.mp (w:=w.alloc (.map #[] 0)) (A:=A.newMem w.heap.size) st.nx (by simp[Abs.newMem,hs.nx])
 rwa [e1]at this
theorem mapOf_inv (hs:Sim w A st){v:Value}{d:V}(hr:Rep w A v d){es:List (V×V)}(h:mapOf st d=some es) :
  (v=.map none∧es=[])∨∃r ms clock,v=.map (some r)∧w.heap[r]?=some (.map ms clock)∧ms.size=es.length∧∀(i:Nat) (m:MapEntry) (c:V×V),ms[i]?=some m→es[i]?=some c→Rep w A m.key c.1∧Rep w A m.val c.2:=by
 unfold mapOf at h
 split at h
 ·rename_i id
  split at h
  ·rename_i es' hl
   cases h
   obtain⟨ms,clock,r1,r2,r3,r4,r5,r6⟩:=(hs.x.obj id _ hl).1.row
   cases hr
   exact .inr ⟨_,ms,clock,rfl,r1,r3,r6⟩
  ·cases h
 ·cases h;cases hr;exact .inl ⟨rfl,rfl⟩
 ·split at h
  ·rename_i ks vs hkv
   cases h
   cases hr with
   |mpc b ms clock _ _ ho hh hl hk hr hs =>
    refine .inr ⟨_,ms,clock,rfl,hh,by rw[List.length_zip];omega,fun i m c hm hc=>?_⟩
    obtain⟨h1,h2⟩:=List.getElem?_zip_eq_some.1 hc
    exact⟨hr i m _ hm h1,hs i m _ hm h2⟩
  ·cases h
 ·cases h
theorem look_delM {id i:Nat}{cs:List V}:∀{l:List (Nat×List V)},look (delM l id) i=some cs→i≠id∧look l i=some cs
 |[],h=>by simp[delM,look]at h
 |(j,c)::r,h=>by
  simp only[delM]at h
  split at h
  ·rename_i e
   obtain⟨h1,h2⟩:=look_delM h
   refine⟨h1,?_⟩
   simp only[look];rw[if_neg (fun e'=>h1 (by omega))];exact h2
  ·rename_i e
   simp only[look]at h ⊢
   split at h
   ·rename_i e';rw[if_pos e'];exact⟨fun e2=>e (by omega),h⟩
   ·rename_i e';rw[if_neg e'];exact look_delM h
def Abs.lay (A:Abs)(g:Nat):Abs:={ A with C:=fun b o=>A.C b o∨b=g }
theorem Ext.lay (w:World)(A:Abs){g id:Nat}(ho:A.own g=some id):Ext w A w (A.lay g) :=
 ⟨Nat.le_refl _,fun _ _=>rfl,fun _ _=>Nat.le_refl _,fun _ _ _=>rfl,fun _ _ h=>⟨.inl h,rfl⟩,fun _ _ h=>h,Nat.le_refl _,rfl,rfl,rfl,fun _ _ _=>rfl,
  fun b o _ hn hc=>hc.elim (fun h=>h) fun h=>(by subst h;rw[ho]at hn;cases hn),fun _ _ _ _ h=>h⟩
theorem Sim.lay (hs:Sim w A st){id:Nat}{cs:List V}(hl:look st.mem id=some cs):Sim w (A.lay (A.loc id)) ⟨st.nx,delM st.mem id,st.arr,st.x⟩:=by
 have hk:=hs.mem id cs hl
 have hx:=Ext.lay w A hk.own
 refine⟨hs.nx,fun i c h=>?_,fun i a h=>?_,fun b o h=>?_,hs.ownlt,fun i c a h1 h2=>?_,
  hs.x.of hx rfl (fun i o ho=>⟨fun g hg=>⟨hg,rfl⟩,fun g hg k hc=>by
   rcases hc with hc|hc
   ·exact(hs.x.obj i o ho).1.noC g hg k hc
   ·subst hc
    have e:=hk.own
    rw[show A.own (A.loc id)=some i from hg]at e
    cases e
    have:=(hs.x.obj _ o ho).2.1
    rw[hl]at this;cases this⟩) (fun i o ho=>by
   obtain⟨_,m1,m2⟩:=hs.x.obj i o ho
   refine⟨?_,m2⟩
   cases e:look (delM st.mem id) i with
   |none=>rfl
   |some c=>rw[(look_delM e).2]at m1;cases m1) (fun b i h=>(hs.ownlt b i h).1) (fun i T _ hn=>⟨hn,fun vs fz h=>⟨vs,fz,h⟩⟩)⟩
 ·obtain⟨h1,h2⟩:=look_delM h
  have hm:=hs.mem i c h2
  refine hm.of_heap hx hm.own rfl (fun o hC=>?_)
  rcases hC with hC|hC
  ·exact hm.noC o hC
  ·have e2:=hm.own
   rw[hC,hk.own]at e2
   cases e2;exact h1 rfl
 ·have hm:=hs.arr i a h
  refine hm.of_heap hx rfl (fun g hg=>⟨hg,rfl,fun o=>⟨fun hC=>?_,.inl⟩⟩)
  rcases hC with hC|hC
  ·exact hC
  ·subst hC
   rw[hk.own]at hg;cases hg
   exact(hs.disj _ _ _ hl h).elim
 ·rcases h with h|h
  ·exact hs.Clt b o h
  ·subst h;exact(hs.ownlt _ _ hk.own).1
 ·exact hs.disj _ _ _ (look_delM h1).2 h2
theorem cells_noagg {c:V}(h:(!c.isAgg)=true):c.cells=[c]:=by cases c<;>first|rfl|(simp[V.isAgg]at h)
theorem does_sla (hs:Sim w A st){t e:TypeId}{len:Nat}(ht:P.underlying t=some (.array len e))(hz:sizeB P e=some 1)(hm:len≤maxLen){vx vl vh:Value}{dx dl dh:V}(rx:Rep w A vx dx)(rl:Rep w A vl dl)(rh:Rep w A vh dh)
  {d:V}{st':St} (h:slaV st len dx dl dh=some (d,st')):Does P w A (do pure (.value (←Instr.sliceAt t vx (some vl) (some vh) none))) d st':=by
 unfold slaV at h
 split at h
 ·rename_i id
  split at h
  ·rename_i cs hcs
   split at h
   ·rename_i hc
    obtain⟨c1,c2⟩:=hc
    split at h
    ·rename_i l hh hb
     cases h
     unfold boundsV at hb
     split at hb
     ·rename_i l' h' e1 e2
      split at hb
      ·rename_i hle
       cases hb
       obtain⟨k1,rfl⟩:=natV_inv rl e1
       obtain⟨k2,rfl⟩:=natV_inv rh e2
       have hk:=hs.mem id cs hcs
       obtain⟨vs,T,r1,r2,r3,r4⟩:=hk.row
       cases rx
       refine Does.of_value ⟨.slice (some (if len=l then⟨A.loc id,0,none⟩ else(⟨A.loc id,0,none⟩:Addr).add (l*1))) (hh-l) (len-l),w,A.lay (A.loc id),?_,?_,hs.lay hcs,Ext.lay w A hk.own⟩
       ·have b2:(hh:Int)≤(len:Int):=by omega
        have b1:(l:Int)≤(hh:Int):=by omega
        simp[Instr.sliceAt,Instr.sliceBounds,Instr.sliceBound,asIntOf,run_underlying ht,Instr.sureAddr,sizeB_eq hz,hle.1,hle.2]
       ·have hx:=Ext.lay w A hk.own
        have hlen:((cs.take hh).drop l).length=hh-l:=by simp;omega
        by_cases hll:len=l
        ·rw[if_pos hll]
         have:(cs.take hh).drop l=[]:=List.eq_nil_of_length_eq_zero (by rw[hlen];omega)
         rw[this,show hh-l=0 by omega,show len-l=0 by omega]
         exact .slnil _
        ·rw[if_neg hll]
         have e0:(⟨A.loc id,0,none⟩:Addr).add (l*1)=⟨A.loc id,l,none⟩:=by simp[Addr.add];try exact fun h=>h.symm
         rw[e0,←hlen]
         have hcell:∀(i j:Nat) (x c:V),((cs.take hh).drop l)[i]?=some x→x.cells[j]?=some c→j=0∧c=x∧cs[l+i]?=some x:=fun i j x c hi hj=>by
          rw[List.getElem?_drop]at hi
          have hi':cs[l+i]?=some x:=by
           rw[List.getElem?_take]at hi;split at hi<;>first|exact hi|cases hi
          have hx':(!x.isAgg)=true:=List.all_eq_true.1 c2 x (List.mem_of_getElem? hi')
          rw[cells_noagg hx']at hj
          cases j with
          |zero=>simp at hj;exact⟨rfl,hj.symm,hi'⟩
          |succ j=>simp at hj
         refine .sl _ (A.loc id) l (len-l) 1 (fun i j=>(vs[l+i]?).getD undef) (fun x hx'=>?_) (by rw[hlen];omega) (by omega) (fun i j x c hi hj=>?_) (fun i j x c hi hj=>?_)
         ·have hx2:(!x.isAgg)=true:=List.all_eq_true.1 c2 x (List.mem_of_mem_take (List.mem_of_mem_drop hx'))
          rw[cells_noagg hx2];rfl
         ·obtain⟨rfl,rfl,hi'⟩:=hcell i j x c hi hj
          have hlt:l+i<vs.size:=by have:=(List.getElem?_eq_some_iff.1 hi').1;omega
          refine⟨.inr rfl,?_,?_⟩
          ·simp only[World.cell?,r1];simp[hlt,Array.getElem?_eq_getElem hlt]
          ·rw[Array.getElem?_eq_getElem hlt];exact r3 _ (by simp)
         ·obtain⟨rfl,rfl,hi'⟩:=hcell i j x c hi hj
          have hlt:l+i<vs.size:=by have:=(List.getElem?_eq_some_iff.1 hi').1;omega
          rw[Array.getElem?_eq_getElem hlt]
          exact(r4 (l+i) _ _ (Array.getElem?_eq_getElem hlt) hi').mono hx
      ·cases hb
     ·cases hb
    ·cases h
   ·cases h
  ·cases h
 ·rename_i cs
  split at h
  ·rename_i hc
   obtain⟨c1,c2⟩:=hc
   obtain⟨p,hb,e⟩:=Option.map_eq_some_iff.1 h
   obtain⟨l,hh⟩:=p
   cases e
   unfold boundsV at hb
   split at hb
   ·rename_i l' h' e1 e2
    split at hb
    ·rename_i hle
     cases hb
     obtain⟨k1,rfl⟩:=natV_inv rl e1
     obtain⟨k2,rfl⟩:=natV_inv rh e2
     cases rx with
     |ep _ _ b o cell hC hr =>
      refine Does.of_value ⟨.slice (some (if len=l then⟨b,o+0,none⟩ else(⟨b,o+0,none⟩:Addr).add (l*1))) (hh-l) (len-l),w,A,?_,?_,hs,Ext.refl w A⟩
      ·have b2:(hh:Int)≤(len:Int):=by omega
       have b1:(l:Int)≤(hh:Int):=by omega
       simp[Instr.sliceAt,Instr.sliceBounds,Instr.sliceBound,asIntOf,run_underlying ht,Instr.sureAddr,sizeB_eq hz,hle.1,hle.2]
      ·have hlen:((cs.take hh).drop l).length=hh-l:=by simp;omega
       by_cases hll:len=l
       ·rw[if_pos hll]
        have:(cs.take hh).drop l=[]:=List.eq_nil_of_length_eq_zero (by rw[hlen];omega)
        rw[this,show hh-l=0 by omega,show len-l=0 by omega]
        exact .slnil _
       ·rw[if_neg hll]
        have e0:(⟨b,o+0,none⟩:Addr).add (l*1)=⟨b,o+l,none⟩:=by simp[Addr.add];try exact fun h=>h.symm
        rw[e0,←hlen]
        have hcell:∀(i j:Nat) (x c:V),((cs.take hh).drop l)[i]?=some x→x.cells[j]?=some c→j=0∧c=x∧cs[l+i]?=some x:=fun i j x c hi hj=>by
         rw[List.getElem?_drop]at hi
         have hi':cs[l+i]?=some x:=by
          rw[List.getElem?_take]at hi;split at hi<;>first|exact hi|cases hi
         have hx':(!x.isAgg)=true:=List.all_eq_true.1 c2 x (List.mem_of_getElem? hi')
         rw[cells_noagg hx']at hj
         cases j with
         |zero=>simp at hj;exact⟨rfl,hj.symm,hi'⟩
         |succ j=>simp at hj
        refine .sl _ b (o+l) (len-l) 1 (fun i j=>cell (l+i)) (fun x hx'=>?_) (by rw[hlen];omega) (by omega) (fun i j x c hi hj=>?_) (fun i j x c hi hj=>?_)
        ·have hx2:(!x.isAgg)=true:=List.all_eq_true.1 c2 x (List.mem_of_mem_take (List.mem_of_mem_drop hx'))
         rw[cells_noagg hx2];rfl
        ·obtain⟨rfl,rfl,hi'⟩:=hcell i j x c hi hj
         have:=hC (l+i) c hi'
         rw[show o+l+(i*1+0)=o+(l+i) by omega]
         exact this
        ·obtain⟨rfl,rfl,hi'⟩:=hcell i j x c hi hj
         exact hr (l+i) c hi'
    ·cases hb
   ·cases hb
  ·cases h
 ·cases h
theorem does_look (hs:Sim w A st){t k e:TypeId}{q:KT}(ht:P.underlying t=some (.map k e))(hk:KOk P k q){zv:Value}{z:V}(hz:(zeroValue e).run P w=.ok zv w)(hzr:Rep w A zv z)
  {vm vk:Value}{dm dk:V} (rm:Rep w A vm dm) (rk:Rep w A vk dk) (ok:Bool) {d:V}{st':St} (h:actV (.look q z ok) [dm,dk] st=some (d,st')) :
  Does P w A (do pure (.value (←Instr.lookup t vm vk ok))) d st':=by
 simp only[actV]at h
 split at h
 ·rename_i es hes
  split at h
  ·rename_i hq
   have hkey:=fun em=>key_check hk hq rk em
   rcases mapOf_inv hs rm hes with⟨rfl,rfl⟩|⟨r,ms,clock,rfl,hb,hsz,hm⟩
   ·simp only[findV]at h
    cases h
    refine⟨.value (if ok then .tuple #[zv,.bool false] else zv),w,A,?_,.inl ⟨_,rfl,?_⟩,hs,Ext.refl w A⟩
    ·simp[Instr.lookup,run_underlying ht,hkey,askQ_find hk (show askQ P w k vk [] 0 none q by cases q<;>rfl),hz,Result.andThen]
    ·cases ok
     ·exact hzr
     ·exact .tup [zv,.bool false] [z,.bool false] rfl (fun i v c hv hc=>by
       match i with
       |0=>cases hv;cases hc;exact hzr
       |1=>cases hv;cases hc;exact .bool _
       |i+2=>simp at hv)
   ·split at h
    ·rename_i i c hf
     cases h
     have:=find_sound hk hq rk ms.toList es 0 (by simpa using hsz) (fun j m c h1 h2=>hm j m c (by simpa using h1) h2) hf
     obtain⟨m,_,_,_,g4,g5⟩:=this
     refine⟨.value (if ok then .tuple #[m.val,.bool true] else m.val),w,A,?_,.inl ⟨_,rfl,?_⟩,hs,Ext.refl w A⟩
     ·simp[Instr.lookup,run_underlying ht,Go.MapKept.run_getObj_map hb,hkey,askQ_find hk g5,Result.andThen]
     ·cases ok
      ·exact g4
      ·exact .tup [m.val,.bool true] [c,.bool true] rfl (fun i v c hv hc=>by
        match i with
        |0=>cases hv;cases hc;exact g4
        |1=>cases hv;cases hc;exact .bool _
        |i+2=>simp at hv)
    ·rename_i hf
     cases h
     have g5:=find_sound hk hq rk ms.toList es 0 (by simpa using hsz) (fun j m c h1 h2=>hm j m c (by simpa using h1) h2) hf
     refine⟨.value (if ok then .tuple #[zv,.bool false] else zv),w,A,?_,.inl ⟨_,rfl,?_⟩,hs,Ext.refl w A⟩
     ·simp[Instr.lookup,run_underlying ht,Go.MapKept.run_getObj_map hb,hkey,askQ_find hk g5,hz,Result.andThen]
     ·cases ok
      ·exact hzr
      ·exact .tup [zv,.bool false] [z,.bool false] rfl (fun i v c hv hc=>by
        match i with
        |0=>cases hv;cases hc;exact hzr
        |1=>cases hv;cases hc;exact .bool _
        |i+2=>simp at hv)
    ·cases h
  ·cases h
 ·cases h
theorem does_mset (hs:Sim w A st){t k e:TypeId}{q:KT}(ht:P.underlying t=some (.map k e))(hk:KOk P k q)
  {vm vk vv:Value}{dm dk dv:V} (rm:Rep w A vm dm) (rk:Rep w A vk dk) (rv:Rep w A vv dv) {d:V}{st':St} (h:actV (.mset q) [dm,dk,dv] st=some (d,st')) :
  Does P w A (do Instr.mapUpdate t vm vk vv;pure .skip) d st':=by
 simp only[actV]at h
 split at h
 ·rename_i id
  split at h
  ·rename_i es hl
   split at h
   ·rename_i hq
    have hkey:=fun em=>key_check hk hq rk em
    obtain⟨hok,m1,m2⟩:=hs.x.obj id _ hl
    obtain⟨ms,clock,r1,r2,r3,r4,r5,r6⟩:=hok.row
    cases rm
    split at h
    ·rename_i r hf
     cases h
     have g:=find_sound hk hq rk ms.toList es 0 (by simpa using r3) (fun j m c h1 h2=>r6 j m c (by simpa using h1) h2) hf
     cases r with
     |none =>
      obtain⟨hx,hs'⟩:=hs.setMap (es':=es++[(dk,dv)]) hl (ms':=ms.push ⟨vk,vv,clock⟩) (by simp[r3]) (fun i m hm=>by
        rw[Array.getElem?_push]at hm
        split at hm
        ·cases hm;simp only;omega
        ·exact r5 i m hm) (fun i m c hm hc=>by
        rw[Array.getElem?_push]at hm
        split at hm
        ·rename_i e1
         cases hm
         rw[e1,r3]at hc
         simp at hc
         subst hc
         exact⟨rk,rv⟩
        ·rename_i hne
         have hlt:i<ms.size:=(Array.getElem?_eq_some_iff.1 hm).1
         rw[List.getElem?_append_left (by omega)]at hc
         exact r6 i m c hm hc)
      refine⟨.skip,_,A,?_,.inr ⟨rfl,rfl⟩,hs',hx⟩
      simp[Instr.mapUpdate,run_underlying ht,Go.MapKept.run_getObj_map r1,hkey,askQ_find hk g,Go.MapKept.run_setObj_map _ r1,Result.andThen,r4]
     |some p =>
      obtain⟨i,c⟩:=p
      obtain⟨m,g1,g2,g3,g4,g5⟩:=g
      have g2':ms[i]?=some m:=by simpa using g2
      obtain⟨hx,hs'⟩:=hs.setMap (es':=es.set i (dk,dv)) hl (ms':=ms.modify i fun e=>{ e with key:=vk,val:=vv }) (by simp[r3]) (fun j m' hm=>by
        rw[Array.getElem?_modify]at hm
        split at hm
        ·rename_i e1
         obtain⟨y,hy,rfl⟩:=Option.map_eq_some_iff.1 hm
         exact r5 j y hy
        ·exact r5 j m' hm) (fun j m' c' hm hc=>by
        rw[Array.getElem?_modify]at hm
        rw[List.getElem?_set]at hc
        split at hm
        ·rename_i e1
         obtain⟨y,hy,rfl⟩:=Option.map_eq_some_iff.1 hm
         rw[if_pos e1]at hc
         split at hc
         ·cases hc;exact⟨rk,rv⟩
         ·cases hc
        ·rename_i e1
         rw[if_neg e1]at hc
         exact r6 j m' c' hm hc)
      refine⟨.skip,_,A,?_,.inr ⟨rfl,rfl⟩,hs',hx⟩
      simp[Instr.mapUpdate,run_underlying ht,Go.MapKept.run_getObj_map r1,hkey,askQ_find hk g5,g2',g3,key_stays hq rk,Go.MapKept.run_setObj_map _ r1,Result.andThen,r4]
    ·cases h
   ·cases h
  ·cases h
 ·cases h
theorem does_mlen (hs:Sim w A st){t k e ty:TypeId}(ht:P.underlying t=some (.map k e)){vm:Value}{dm:V}(rm:Rep w A vm dm){d:V}{st':St}(h:actV .mlen [dm] st=some (d,st')) :
  ∃u,(Builtin.len_ #[t] ty #[vm]).run P w=.ok u w∧Rep w A u d∧st'=st:=by
 simp only[actV]at h
 split at h
 ·rename_i es hes
  cases h
  rcases mapOf_inv hs rm hes with⟨rfl,rfl⟩|⟨r,ms,clock,rfl,hb,hsz,hm⟩
  ·exact⟨.int .i64 0,by simp[Builtin.len_,run_underlying ht,Result.andThen];rfl,.int _ _,rfl⟩
  ·refine⟨.int .i64 es.length,?_,.int _ _,rfl⟩
   simp[Builtin.len_,run_underlying ht,Go.MapKept.run_getObj_map hb,Result.andThen,hsz]
   rfl
 ·cases h
theorem does_rng (hs:Sim w A st){t k e:TypeId}(ht:P.underlying t=some (.map k e)){vm:Value}{dm:V}(rm:Rep w A vm dm){d:V}{st':St}(h:rngV st dm=some (d,st')) :
  Does P w A (do pure (.value (←Instr.range t vm))) d st':=by
 unfold rngV at h
 split at h<;>try cases h
 rename_i id
 split at h
 ·rename_i es hes
  cases h
  obtain⟨hk,m1,m2⟩:=hs.x.obj id _ hes
  obtain⟨ms,clock,r1,r2,r3,r4,r5,r6⟩:=hk.row
  have hv:vm=.map (some (A.loc id)):=by cases rm;rfl
  subst hv
  have hlt:=hk.lt
  have e3:(A.newMem w.heap.size).loc st.nx=w.heap.size:=by simp[Abs.newMem,hs.nx]
  have e4:(A.newMem w.heap.size).loc id=A.loc id:=(Ext.newMem hs (.mapIter (some (A.loc id)) clock #[] clock)).loc id hlt
  refine⟨.value (.pointer (some ⟨w.heap.size,0,none⟩)),w.alloc (.mapIter (some (A.loc id)) clock #[] clock),A.newMem w.heap.size,by simp only[Sem.run_bind,run_range_map w t k e _ ms clock ht r1,Result.andThen_ok,Sem.run_pure],.inl ⟨_,rfl,?_⟩,hs.newObj ⟨by simp[Abs.newMem];omega,by simp[Abs.newMem,hs.nx],?_⟩ (fun g=>newMem_own hs),Ext.newMem hs _⟩
  ·have:=Rep.ptr (w:=w.alloc (.mapIter (some (A.loc id)) clock #[] clock)) (A:=A.newMem w.heap.size) st.nx 0 (by simp[Abs.newMem,hs.nx])
   rwa [e3]at this
  ·rw[e3,e4,←r3,r4]
   exact heap_alloc_new w _
 ·cases h
theorem born_nodup {ms:Array MapEntry}(h:∀(i:Nat) (m:MapEntry),ms[i]?=some m→m.born=i):(ms.toList.map (·.born)).Nodup:=by
 have:ms.toList.map (·.born)=List.range ms.size:=by
  apply List.ext_getElem?
  intro i
  rw[List.getElem?_map,Array.getElem?_toList]
  cases hx:ms[i]? with
  |none=>rw[List.getElem?_eq_none];rfl;simp;exact Array.getElem?_eq_none_iff.1 hx
  |some x =>
   have hl:i<ms.size:=(Array.getElem?_eq_some_iff.1 hx).1
   rw[List.getElem?_range hl,←h i x hx];rfl
 rw[this];exact List.nodup_range
theorem run_ent (hs:Sim w A st){vm:Value}{dm:V}(rm:Rep w A vm dm){d:V}{st':St}(h:entV st dm=some (d,st')) :
  st'=st∧Gives P w A (Instr.entry vm) d:=by
 unfold entV at h
 split at h<;>try cases h
 rename_i i
 split at h
 ·rename_i m n seen hi
  split at h
  ·rename_i j es hj hm
   split at h
   ·rename_i hn
    obtain⟨p,hp,e⟩:=Option.map_eq_some_iff.1 h
    cases e
    refine⟨rfl,?_⟩
    obtain⟨hlt,rfl⟩:=rm.ptr_inv
    obtain⟨hk,_,_⟩:=hs.x.obj i _ hi
    obtain⟨q1,q2,q3⟩:=hk.row
    obtain⟨hk',_,_⟩:=hs.x.obj m _ hm
    obtain⟨ms,clock,r1,r2,r3,r4,r5,r6⟩:=hk'.row
    obtain⟨s',rfl⟩:∃s',seen=s'++[j]:=List.getLast?_eq_some_iff.1 hj
    have hjl:j<es.length:=(List.getElem?_eq_some_iff.1 hp).1
    obtain⟨x,hx⟩:∃x,ms[j]?=some x:=⟨ms[j]'(by omega),Array.getElem?_eq_getElem (by omega)⟩
    have hb:=r5 j x hx
    obtain⟨k1,k2⟩:=r6 j x p hx hp
    have q3':w.heap[A.loc i]?=some (.mapIter (some (A.loc m)) n (s'.toArray.push x.born) clock):=by
     rw[q3,hb];simp;omega
    exact⟨_,run_entry_at w (A.loc i) (A.loc m) n s'.toArray ms clock x q3' r1 (Array.mem_toList_iff.2 (Array.mem_of_getElem? hx)) (born_nodup r5),.tup [x.key,x.val] [p.1,p.2] rfl (fun i v c hv hc=>by
     match i with
     |0=>cases hv;cases hc;exact k1
     |1=>cases hv;cases hc;exact k2)⟩
   ·cases h
  ·cases h
 ·cases h
theorem Sim.setIter (hs:Sim w A st){i m n:Nat}{seen seen':List Nat}(hl:look st.x.obj i=some (.iter m n seen)) :
  Ext w A (Go.ChangeMaps.setBlock w (A.loc i) (.mapIter (some (A.loc m)) n seen'.toArray n)) A ∧
  Sim (Go.ChangeMaps.setBlock w (A.loc i) (.mapIter (some (A.loc m)) n seen'.toArray n)) A ⟨st.nx,st.mem,st.arr,⟨updO st.x.obj i (.iter m n seen'),st.x.gl,st.x.ty⟩⟩:=by
 obtain⟨hk,m1,m2⟩:=hs.x.obj i _ hl
 obtain⟨r1,r2,r3⟩:=hk.row
 have hlt:A.loc i<w.heap.size:=(Array.getElem?_eq_some_iff.1 r3).1
 generalize ho':Obj.mapIter (some (A.loc m)) n seen'.toArray n=o'
 have other:∀b,b≠A.loc i→(w.heap.setIfInBounds (A.loc i) o')[b]?=w.heap[b]?:=fun b hb=>by
  rw[Array.getElem?_setIfInBounds];rw[if_neg (Ne.symm hb)]
 have hx:Ext w A (Go.ChangeMaps.setBlock w (A.loc i) o') A:=by
  unfold Go.ChangeMaps.setBlock
  refine⟨Nat.le_refl _,fun _ _=>rfl,fun _ _=>Nat.le_refl _,fun _ _ _=>rfl,fun b o h=>⟨h,?_⟩,fun _ _ h=>h,by simp,rfl,rfl,rfl,fun b hb ho=>other b (fun e=>by subst e;rw[r2]at ho;cases ho),fun _ _ _ _ h=>h,fun b ms c hc h=>by rw[other b (fun e=>by subst e;exact hk.noC _ r2 0 hc)];exact h⟩
  unfold World.cell?
  simp only
  rw[other b (fun e=>by subst e;exact hk.noC _ r2 o h)]
 refine⟨hx,hs.nx,fun j cs h=>?_,fun j ar h=>?_,fun b o h=>by have:=hs.Clt b o h;simpa [Go.ChangeMaps.setBlock] using this,fun b j h=>by have:=hs.ownlt b j h;simpa [Go.ChangeMaps.setBlock] using this,hs.disj,⟨fun j o ho=>?_,fun p hp=>hx.gl (hs.x.gl p hp),fun j T h=>?_⟩⟩
 ·have hk':=hs.mem j cs h
  exact hk'.of_heap hx hk'.own (other _ (fun e=>by have:=hk'.own;rw[e,r2]at this;cases this;rw[h]at m1;cases m1)) hk'.noC
 ·exact(hs.arr j ar h).of_heap hx rfl (fun g hg=>⟨hg,other _ (fun e=>by rw[e,r2]at hg;cases hg;rw[h]at m2;cases m2),fun _=>Iff.rfl⟩)
 ·simp only at ho
  rw[look_updO]at ho
  split at ho
  ·rename_i e;subst e
   rw[hl]at ho
   cases ho
   refine⟨⟨hk.lt,⟨r1,r2,?_⟩,hk.noC⟩,m1,m2⟩
   simp only[Go.ChangeMaps.setBlock];rw[Array.getElem?_setIfInBounds,if_pos rfl,if_pos hlt,ho']
  ·rename_i hne
   obtain⟨hk',n1,n2⟩:=hs.x.obj j o ho
   exact⟨hk'.of_heap hx (fun g hg=>⟨hg,other _ (fun e=>by rw[e,r2]at hg;cases hg;exact hne rfl)⟩) hk'.noC,n1,n2⟩
 ·obtain⟨hk',hn⟩:=hs.x.ty j T h
  refine⟨hk'.of_heap hx hk'.own (fun vs fz h=>⟨vs,fz,?_⟩),hn⟩
  show(w.heap.setIfInBounds (A.loc i) o')[_]?=_
  rw[other _ (fun e=>by rw[e,r3]at h;cases h)]
  exact h
theorem Sim.drew (hs:Sim w A st):Ext w A w.drew A∧Sim w.drew A st:=by
 have hx:Ext w A w.drew A:=Ext.drewN w A _
 exact⟨hx,hs.nx,fun id cs h=>(hs.mem id cs h).of_heap hx (hs.mem id cs h).own rfl (hs.mem id cs h).noC,fun id ar h=>(hs.arr id ar h).of_heap hx rfl (fun g hg=>⟨hg,rfl,fun _=>Iff.rfl⟩),hs.Clt,hs.ownlt,hs.disj,hs.x.same hx rfl hs.ownlt (fun _ _=>rfl) (fun _ _ h _=>h) (fun _ _ _ h=>h) (fun _ _ h=>h) (fun _ _ h=>h)⟩
def nxtK (st:St)(k:V→St→Prop):V→Prop
 | .ptr i 0=>match look st.x.obj i with
  |some (.iter m n seen)=>match look st.x.obj m with
   |some (.map es)=>es.length=n∧((∀j,j<n→j∈seen)→k (.tup [.bool false]) st) ∧
     ∀j e,es[j]?=some e→j ∉ seen→k (.tup [.bool true,e.1,e.2]) ⟨st.nx,st.mem,st.arr,⟨updO st.x.obj i (.iter m n (seen++[j])),st.x.gl,st.x.ty⟩⟩
   |_=>False
  |_=>False
 |_=>False
theorem run_nxt (hs:Sim w A st){vm:Value}{dm:V}(rm:Rep w A vm dm){k:V→St→Prop}(h:nxtK st k dm)(ty:TypeId) :
  ∃d st',Does P w A (do pure (.value (←Instr.next vm false ty))) d st'∧k d st':=by
 unfold nxtK at h
 split at h<;>try exact h.elim
 rename_i i
 split at h<;>try exact h.elim
 rename_i m n seen hi
 split at h<;>try exact h.elim
 rename_i es hm
 obtain⟨hn,hend,hstep⟩:=h
 obtain⟨hlt,rfl⟩:=rm.ptr_inv
 obtain⟨hk,_,_⟩:=hs.x.obj i _ hi
 obtain⟨q1,q2,q3⟩:=hk.row
 obtain⟨hk',_,_⟩:=hs.x.obj m _ hm
 obtain⟨ms,clock,r1,r2,r3,r4,r5,r6⟩:=hk'.row
 have hold:∀x∈ms.toList,x.born<n:=fun x hx=>by
  obtain⟨j,hj⟩:=Array.getElem?_of_mem (Array.mem_toList_iff.1 hx)
  have:=r5 j x hj
  have:=(Array.getElem?_eq_some_iff.1 hj).1
  omega
 rcases run_next_at (P:=P) w ty (A.loc i) (A.loc m) n n seen.toArray ms clock q3 r1 hold (Nat.le_refl _) with⟨h0,hrun⟩|⟨e,he,w1,hw1,hrun⟩
 ·refine⟨_,st,⟨_,w,A,by simp only[Sem.run_bind,hrun,Result.andThen_ok,Sem.run_pure],.inl ⟨_,rfl,.tup [.bool false] [.bool false] rfl (fun i v c hv hc=>?_)⟩,hs,Ext.refl w A⟩,hend (fun j hj=>?_)⟩
  ·match i with
   |0=>cases hv;cases hc;exact .bool _
  ·obtain⟨x,hx⟩:∃x,ms[j]?=some x:=⟨ms[j]'(by omega),Array.getElem?_eq_getElem (by omega)⟩
   have hb:=r5 j x hx
   have h1:leftOf ms seen.toArray=#[]:=Array.eq_empty_of_size_eq_zero h0
   unfold leftOf at h1
   have h2:=(Array.filter_eq_empty_iff.1 h1) x (Array.mem_of_getElem? hx)
   rw[hb]at h2
   simpa using h2
 ·unfold leftOf at he
  have he':=Array.mem_filter.1 (Array.mem_toList_iff.1 he)
  obtain⟨j,hj⟩:=Array.getElem?_of_mem he'.1
  have hb:=r5 j e hj
  have hns:j ∉ seen:=by have:=he'.2;rw[hb]at this;simpa using this
  have hjl:=(Array.getElem?_eq_some_iff.1 hj).1
  obtain⟨c,hc⟩:∃c,es[j]?=some c:=⟨es[j]'(by omega),List.getElem?_eq_getElem (by omega)⟩
  obtain⟨k1,k2⟩:=r6 j e c hj hc
  have hs1:Ext w A w1 A∧Sim w1 A st:=by
   rcases hw1 with rfl|rfl
   ·exact⟨Ext.refl _ A,hs⟩
   ·exact hs.drew
  obtain⟨x2,s2⟩:=hs1.2.setIter (seen':=seen++[j]) hi
  have eo:Obj.mapIter (some (A.loc m)) n (seen.toArray.push e.born) clock=.mapIter (some (A.loc m)) n (seen++[j]).toArray n:=by
   rw[hb];simp;omega
  rw[eo]at hrun
  have hx:=hs1.1.trans x2
  refine⟨_,_,⟨_,_,A,by simp only[Sem.run_bind,hrun,Result.andThen_ok,Sem.run_pure],.inl ⟨_,rfl,.tup [.bool true,e.key,e.val] [.bool true,c.1,c.2] rfl (fun i v d hv hd=>?_)⟩,s2,hx⟩,hstep j c hc hns⟩
  match i with
  |0=>cases hv;cases hd;exact .bool _
  |1=>cases hv;cases hd;exact k1.mono hx
  |2=>cases hv;cases hd;exact k2.mono hx
end
end Go.Sha
