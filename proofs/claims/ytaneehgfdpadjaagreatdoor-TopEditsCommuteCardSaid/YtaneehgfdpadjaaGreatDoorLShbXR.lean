/- Functions with regions all of whose orde. -/
import Derived.Test.YtaneehgfdpadjaaGreatDoorLShbX
import Derived.Test.YtaneehgfdpadjaaGreatDoorLShbXT
set_option linter.unusedSimpArgs false
set_option linter.unusedVariables false
namespace Go.Sha
section
variable {P:Program}{N:Fr}
def QS (P:Program)(i:Ins)(env:Env)(st:St)(v:V)(st':St):Prop:=(QV P i env st v∧st'=st)∨StepV P i env st v st'
inductive Ord (P:Program) (l:List Ins) (bs:Nat→List Nat) (I:St→Prop) (K:Env→St→Prop):List Nat→Env→St→Prop
 |done {env:Env}{st:St}:K env st→Ord P l bs I K [] env st
 |hoist {rem:List Nat}{env:Env}{st:St} (i:Nat) (d:V):i∈rem→(∀b∈bs i,b ∉ rem)→(∀s,I s→QV P (l.getD i default) env s d) →
   Ord P l bs I K (rem.filter (·≠i)) (setD env (l.getD i default).dst d) st→Ord P l bs I K rem env st
 |all {rem:List Nat}{env:Env}{st:St} (v:Nat→V) (s:Nat→St):rem≠[]→(∀i∈rem,(∀b∈bs i,b ∉ rem)→QS P (l.getD i default) env st (v i) (s i)∧I (s i)) →
   (∀i∈rem,(∀b∈bs i,b ∉ rem)→Ord P l bs I K (rem.filter (·≠i)) (setD env (l.getD i default).dst (v i)) (s i))→Ord P l bs I K rem env st
theorem Ord.each {l:List Ins}{bs:Nat→List Nat}{I:St→Prop}{K:Env→St→Prop}{rem:List Nat}{env:Env}{st:St}(h0:rem≠[])
  (h:∀i∈rem,(∀b∈bs i,b ∉ rem)→∃v s,(QS P (l.getD i default) env st v s∧I s)∧Ord P l bs I K (rem.filter (·≠i)) (setD env (l.getD i default).dst v) s):Ord P l bs I K rem env st:=by
 classical
 let f:Nat→V×St:=fun i=>if h':i∈rem∧(∀b∈bs i,b ∉ rem) then((h i h'.1 h'.2).choose,(h i h'.1 h'.2).choose_spec.choose) else(.und,st)
 have hf:∀i∈rem,(∀b∈bs i,b ∉ rem)→(QS P (l.getD i default) env st (f i).1 (f i).2∧I (f i).2)∧Ord P l bs I K (rem.filter (·≠i)) (setD env (l.getD i default).dst (f i).1) (f i).2:=fun i h1 h2=>by
  have:=(h i h1 h2).choose_spec.choose_spec
  simp only[f,dif_pos (show i∈rem∧(∀b∈bs i,b ∉ rem) from⟨h1,h2⟩)]
  exact this
 exact .all (fun i=>(f i).1) (fun i=>(f i).2) h0 (fun i h1 h2=>(hf i h1 h2).1) (fun i h1 h2=>(hf i h1 h2).2)
def bsOf (ops:Array Oper)(i:Nat):List Nat:=bindsE (ops.toList.getD i default)
def aOk (ops:List Oper)(l:List Ins):Bool :=
 decide (ops.length=l.length) &&
 (List.range ops.length).all (fun i=>(bindsE (ops.getD i default)).all (fun e=>decide (e<i))) &&
 (List.range l.length).all (fun i=>(List.range l.length).all fun j=>match(l.getD j default).dst with
  |none=>true
  |some d=>(!((l.getD i default).slots.contains d)||(bindsE (ops.getD i default)).contains j)&&(decide (i=j)||decide ((l.getD i default).dst≠some d)))
structure AOk (ops:List Oper) (l:List Ins):Prop where
 len:ops.length=l.length
 back:∀(i:Nat) (o:Oper),ops[i]?=some o→∀e∈bindsE o,e<i
 hang:∀(i j:Nat) (d:Nat),i<l.length→j<l.length→(l.getD j default).dst=some d→d∈(l.getD i default).slots→j∈bindsE (ops.getD i default)
 dist:∀(i j:Nat) (d:Nat),i<l.length→j<l.length→(l.getD j default).dst=some d→(l.getD i default).dst=some d→i=j
theorem aOk_spec {ops:List Oper}{l:List Ins}(h:aOk ops l=true):AOk ops l:=by
 simp only[aOk,Bool.and_eq_true,decide_eq_true_eq,List.all_eq_true,List.mem_range]at h
 obtain⟨⟨h1,h2⟩,h3⟩:=h
 refine⟨h1,fun i o ho e he=>?_,fun i j d hi hj hd hm=>?_,fun i j d hi hj hd hd'=>?_⟩
 ·have hlt:=(List.getElem?_eq_some_iff.1 ho).1
  exact h2 i hlt e (by rw[show ops.getD i default=o by simp[List.getD_eq_getElem?_getD,ho]];exact he)
 ·have:=h3 i hi j hj
  rw[hd]at this
  simp only[Bool.and_eq_true,Bool.or_eq_true]at this
  rcases this.1 with h|h
  ·simp at h;exact absurd hm (by simpa using h)
  ·simpa using h
 ·have:=h3 i hi j hj
  rw[hd]at this
  simp only[Bool.and_eq_true,Bool.or_eq_true,decide_eq_true_eq]at this
  rcases this.2 with h|h
  ·exact h
  ·exact absurd hd' h
open Classical in
noncomputable def envX (h:Nat→Prop):Env→Env
 |[]=>[]
 |p::r=>if h p.1 then envX h r else p::envX h r
theorem look_envX {h:Nat→Prop}:∀{env:Env}{s:Nat},¬h s→look (envX h env) s=look env s
 |[],_,_=>rfl
 |p::r,s,hs=>by
  have ih:=look_envX (h:=h) (env:=r) hs
  unfold envX
  split
  ·rename_i hp
   rw[ih]
   simp only[look]
   rw[if_neg (fun e=>hs (by rw[←e];exact hp))]
  ·simp only[look,ih]
theorem look_envX_in {h:Nat→Prop}:∀{env:Env}{s:Nat},h s→look (envX h env) s=none
 |[],_,_=>rfl
 |p::r,s,hs=>by
  have ih:=look_envX_in (h:=h) (env:=r) hs
  unfold envX
  split
  ·exact ih
  ·rename_i hp
   simp only[look,ih]
   rw[if_neg (fun e=>hp (by rw[e];exact hs))]
def hid (l:List Ins)(pd:List (Nat×V))(s:Nat):Prop:=∃p∈pd,(l.getD p.1 default).dst=some s
theorem ord_sound {ops:Array Oper}{l:List Ins}(hr:AOk ops.toList l)(hc:compAll P N.n ops ops.toList=some l)(hg:guardsOk N.n l=true){Q:Post}{I:St→Prop}{w0:World}{A0:Abs} :
  ∀(fuel:Nat) {rem:List Nat}{env:Env}{st:St},Ord P l (bsOf ops) I (Q .normal) rem env st→∀(pd:List (Nat×V)) (listed:Array Bool) (a:Act) (w:World) (A:Abs),unl listed l.length=fuel→listed.size=l.length →
  (∀j,j<l.length→(listed.getD j true=false↔(j∈rem∨∃v,(j,v)∈pd))) →
  (∀j∈rem,j<l.length) →
  (∀p∈pd,p.1<l.length∧p.1 ∉ rem∧(∀b∈bsOf ops p.1,b ∉ rem)∧(∀s,I s→QV P (l.getD p.1 default) env s p.2)∧(∀s,(l.getD p.1 default).dst=some s→look env s=some p.2)∧∀q∈pd,q.1=p.1→q=p) →
  I st→Sim w A st→EnvSim w A a (envX (hid l pd) env)→a.tmps.size=N.n→a.defers=N.D→Ext w0 A0 w A→wpAny P .any ops (lift N w0 A0 Q) fuel listed a w:=by
 intro fuel
 have hlen:ops.size=l.length:=by have:=hr.len;simpa using this
 have getl:∀{i:Nat},i<l.length→l[i]?=some (l.getD i default):=fun {i} hi=>by simp[hi]
 have geto:∀{i:Nat}{o:Oper},ops[i]?=some o→ops.toList.getD i default=o:=fun {i o} h=>by
  have:ops.toList[i]?=some o:=by simpa using h
  simp[List.getD_eq_getElem?_getD,this]
 have eqvS:∀{w:World}{A:Abs}{a:Act}{e e':Env},(∀s,look e' s=look e s)→EnvSim w A a e→EnvSim w A a e':=fun h1 h2 s v hv=>h2 s v (by rw[←h1];exact hv)
 induction fuel with
 |zero =>
  intro rem env st ho
  induction ho with
  |done hk =>
   intro pd listed a w A hu hsz hbe hrl hpd hI hs he hN hd hx
   have hall:∀j,j<l.length→listed.getD j true=true:=by
    intro j hj
    cases h:listed.getD j true with
    |true=>rfl
    |false =>
     exfalso
     have:j∈(List.range l.length).filter fun j=>!listed.getD j true:=List.mem_filter.2 ⟨List.mem_range.2 hj,by simp[h]⟩
     unfold unl at hu
     rw[List.eq_nil_of_length_eq_zero hu]at this
     cases this
   have hp0:pd=[]:=by
    cases pd with
    |nil=>rfl
    |cons p r =>
     exfalso
     have h1:=(hpd p (by simp)).1
     have:=(hbe p.1 h1).2 (.inr ⟨p.2,by simp⟩)
     rw[hall _ h1]at this;cases this
   subst hp0
   refine⟨?_,A,_,_,hk,hs,eqvS (fun s=>(look_envX (h:=hid l []) (fun⟨p,hp,_⟩=>by cases hp)).symm) he,hN,hd,hx⟩
   apply List.eq_nil_iff_forall_not_mem.2
   intro j hj
   obtain⟨h1,o,h2,_⟩:=ready_iff.1 hj
   have hlt:j<l.length:=by have:=(Array.getElem?_eq_some_iff.1 h2).1;omega
   rw[hall j hlt]at h1
   cases h1
  |hoist i d hi hb hq h ih =>
   intro pd listed a w A hu hsz hbe hrl hpd hI hs he hN hd hx
   exfalso
   have h1:=(hbe i (hrl i hi)).2 (.inl hi)
   have:i∈(List.range l.length).filter fun j=>!listed.getD j true:=List.mem_filter.2 ⟨List.mem_range.2 (hrl i hi),by simp[h1]⟩
   unfold unl at hu
   rw[List.eq_nil_of_length_eq_zero hu]at this
   cases this
  |@all rem env st v s h0 h1 h2 ih =>
   intro pd listed a w A hu hsz hbe hrl hpd hI hs he hN hd hx
   exfalso
   obtain⟨i,hi⟩:=List.exists_mem_of_ne_nil _ h0
   have h1:=(hbe i (hrl i hi)).2 (.inl hi)
   have:i∈(List.range l.length).filter fun j=>!listed.getD j true:=List.mem_filter.2 ⟨List.mem_range.2 (hrl i hi),by simp[h1]⟩
   unfold unl at hu
   rw[List.eq_nil_of_length_eq_zero hu]at this
   cases this
 |succ fuel ih =>
  intro rem env st ho
  -- the first that is not listed is ready
  have ready1:∀{listed:Array Bool},unl listed l.length=fuel+1→listed.size=l.length→Region.ready .any ops listed≠[]:=by
   intro listed hu hsz h0
   have hex:∃i,i<l.length∧(!listed.getD i true)=true:=by
    unfold unl at hu
    obtain⟨i,hi⟩:=List.exists_mem_of_length_pos (l:=(List.range l.length).filter fun j=>!listed.getD j true) (by omega)
    obtain⟨h1,h2⟩:=List.mem_filter.1 hi
    exact⟨i,List.mem_range.1 h1,h2⟩
   obtain⟨i0,g1,g2,g3⟩:=exists_first _ l.length hex
   have g2':listed.getD i0 true=false:=by simpa using g2
   have hready:i0∈Region.ready .any ops listed:=by
    refine ready_iff.2 ⟨g2',_,Array.getElem?_eq_getElem (by omega),fun e he'=>?_⟩
    have hb:=hr.back i0 _ (by simp[show i0<ops.size by omega]) e he'
    rw[getD_same (d':=true) (by omega)]
    have:=g3 e hb
    simpa using this
   rw[h0]at hready;cases hready
  -- what every pick needs
  have pick:∀{rem:List Nat}{env:Env}{st:St}{pd:List (Nat×V)}{listed:Array Bool}{a:Act}{w:World}{A:Abs},unl listed l.length=fuel+1→listed.size=l.length →
    (∀j,j<l.length→(listed.getD j true=false↔(j∈rem∨∃v,(j,v)∈pd)))→(∀j∈rem,j<l.length) →
    (∀p∈pd,p.1<l.length∧p.1 ∉ rem∧(∀b∈bsOf ops p.1,b ∉ rem)∧(∀s,I s→QV P (l.getD p.1 default) env s p.2)∧(∀s,(l.getD p.1 default).dst=some s→look env s=some p.2)∧∀q∈pd,q.1=p.1→q=p) →
    I st→Sim w A st→EnvSim w A a (envX (hid l pd) env)→a.tmps.size=N.n→a.defers=N.D→Ext w0 A0 w A →
    (∀i∈rem,(∀b∈bsOf ops i,b ∉ rem)→∃v s,(QS P (l.getD i default) env st v s∧I s)∧Ord P l (bsOf ops) I (Q .normal) (rem.filter (·≠i)) (setD env (l.getD i default).dst v) s) →
    Ord P l (bsOf ops) I (Q .normal) rem env st→wpAny P .any ops (lift N w0 A0 Q) (fuel+1) listed a w:=by
   intro rem env st pd listed a w A hu hsz hbe hrl hpd hI hs he hN hd hx hall ho
   refine⟨fun h0=>absurd h0 (ready1 hu hsz),fun i hi=>?_⟩
   obtain⟨h1,o,h2,h3⟩:=ready_iff.1 hi
   have hil:i<l.length:=by have:=(Array.getElem?_eq_some_iff.1 h2).1;omega
   have hxl:=getl hil
   have hsel:∀j,(listed.setIfInBounds i true).getD j true=if j=i then true else listed.getD j true:=fun j=>getD_set (by omega) true
   have hu':unl (listed.setIfInBounds i true) l.length=fuel:=by
    have:=unl_set (listed:=listed) hil (by omega) h1
    omega
   have hsz':(listed.setIfInBounds i true).size=l.length:=by simp[hsz]
   have hci:=(compAll_get hc).2 i o _ (by simpa using h2) hxl
   have hdlt:∀d,(l.getD i default).dst=some d→d<a.tmps.size:=by rw[hN];exact(compIns_inv hci).2.2.2
   have hgi:=guardsOk_get hg hxl
   have hbs:∀b∈bsOf ops i,listed.getD b true=true:=fun b hb=>by
    have hb':b∈bindsE o:=by unfold bsOf at hb;rw[geto h2]at hb;exact hb
    have:=h3 b hb'
    have hlt:=hr.back i o (by simpa using h2) b hb'
    rw[getD_same (d':=true) (by omega)]at this
    exact this
   have hbr:∀b∈bsOf ops i,b ∉ rem∧∀v,(b,v) ∉ pd:=fun b hb=>by
    have h:=hbs b hb
    have hb':b∈bindsE o:=by unfold bsOf at hb;rw[geto h2]at hb;exact hb
    have hlt:=hr.back i o (by simpa using h2) b hb'
    have hn:¬(b∈rem∨∃v,(b,v)∈pd):=fun h'=>by rw[(hbe b (by omega)).2 h']at h;cases h
    exact⟨fun h'=>hn (.inl h'),fun v h'=>hn (.inr ⟨v,h'⟩)⟩
   -- the slots it reads are there
   have hslots:∀s∈(l.getD i default).slots,¬hid l pd s:=fun s hsl ⟨p,hp,hds⟩=>by
    have:=hr.hang i p.1 s hil (hpd p hp).1 hds hsl
    exact(hbr p.1 this).2 p.2 hp
   have hlook:∀s∈(l.getD i default).slots,look env s=look (envX (hid l pd) env) s:=fun s hsl=>(look_envX (hslots s hsl)).symm
   rcases(hbe i hil).1 h1 with hir|⟨v,hv⟩
   ·-- one of those that are left
    obtain⟨v,s,⟨hq,hIs⟩,ho'⟩:=hall i hir (fun b hb=>(hbr b hb).1)
    have hnp:∀u,(i,u) ∉ pd:=fun u hu=>(hpd _ hu).2.1 hir
    have next:∀u w' A',Rep w' A' u v→Sim w' A' s→Ext w A w' A'→wpAny P .any ops (lift N w0 A0 Q) fuel (listed.setIfInBounds i true) (a.put (l.getD i default).dst u) w':=by
     intro u w' A' hu1 hs1 hx1
     refine ih ho' pd _ _ w' A' hu' hsz' (fun j hj=>?_) (fun j hj=>hrl j (List.mem_filter.1 hj).1) (fun p hp=>?_) hIs hs1 ?_ (by rw[put_size];exact hN) (by rw[put_defers];exact hd) (hx.trans hx1)
     ·rw[hsel]
      by_cases hji:j=i
      ·subst hji
       simp only[if_true,Bool.true_eq_false,false_iff]
       rintro(h|⟨u,h⟩)
       ·simpa using(List.mem_filter.1 h).2
       ·exact hnp u h
      ·rw[if_neg hji,hbe j hj]
       simp[List.mem_filter,hji]
     ·obtain⟨q1,q2,q3,q4,q5,q6⟩:=hpd p hp
      have hpi:p.1≠i:=fun e=>hnp p.2 (by rw[←e];exact hp)
      refine⟨q1,fun h=>q2 (List.mem_filter.1 h).1,fun b hb h=>q3 b hb (List.mem_filter.1 h).1,fun s' hs0=>QV_congr (fun t ht=>?_) (q4 s' hs0),fun s' hs'=>?_,q6⟩
      ·rw[look_setD,if_neg (fun hdt=>?_)]
       have:=hr.hang p.1 i t q1 hil hdt ht
       exact q3 i this hir
      ·rw[look_setD,if_neg (fun hdt=>?_)]
       ·exact q5 s' hs'
       ·exact hpi (hr.dist p.1 i s' q1 hil hdt hs')
     ·refine eqvS (fun t=>?_) ((he.mono hx1).put (d:=(l.getD i default).dst) hdlt hu1)
      by_cases hh:hid l pd t
      ·rw[look_envX_in hh,look_setD,if_neg (fun hdt=>?_),look_envX_in hh]
       obtain⟨p,hp,hds⟩:=hh
       have:=hr.dist p.1 i t (hpd p hp).1 hil hdt hds
       exact hnp p.2 (by rw[←this];exact hp)
      ·rw[look_envX hh,look_setD,look_setD,look_envX hh]
    rcases hq with⟨hq,rfl⟩|hq
    ·exact qv_sound h2 hci hgi hs he hN (QV_congr hlook hq) next
    ·exact stepv_sound h2 hci hgi hs he hN (StepV_congr hlook hq) next
   ·-- one that was taken already
    obtain⟨q1,q2,q3,q4,q5,q6⟩:=hpd _ hv
    have next:∀u w' A',Rep w' A' u v→Sim w' A' st→Ext w A w' A'→wpAny P .any ops (lift N w0 A0 Q) fuel (listed.setIfInBounds i true) (a.put (l.getD i default).dst u) w':=by
     intro u w' A' hu1 hs1 hx1
     refine ih ho (pd.filter (fun p=>p.1≠i)) _ _ w' A' hu' hsz' (fun j hj=>?_) hrl (fun p hp=>?_) hI hs1 ?_ (by rw[put_size];exact hN) (by rw[put_defers];exact hd) (hx.trans hx1)
     ·rw[hsel]
      by_cases hji:j=i
      ·subst hji
       simp only[if_true,Bool.true_eq_false,false_iff]
       rintro(h|⟨u,h⟩)
       ·exact q2 h
       ·simpa using(List.mem_filter.1 h).2
      ·rw[if_neg hji,hbe j hj]
       simp[List.mem_filter,hji]
     ·obtain⟨hp1,hp2⟩:=List.mem_filter.1 hp
      obtain⟨q1,q2,q3,q4,q5,q6⟩:=hpd p hp1
      exact⟨q1,q2,q3,q4,q5,fun q hq=>q6 q (List.mem_filter.1 hq).1⟩
     ·refine eqvS (fun t=>?_) ((he.mono hx1).put (d:=(l.getD i default).dst) hdlt hu1)
      by_cases hdt:(l.getD i default).dst=some t
      ·have hnh:¬hid l (pd.filter (fun p=>p.1≠i)) t:=by
        rintro⟨p,hp,hds⟩
        obtain⟨hp1,hp2⟩:=List.mem_filter.1 hp
        have:=hr.dist p.1 i t (hpd p hp1).1 hil hdt hds
        simp[this]at hp2
       rw[look_envX hnh,look_setD,if_pos hdt,q5 t hdt]
      ·rw[look_setD,if_neg hdt]
       by_cases hh:hid l pd t
       ·have hh':hid l (pd.filter (fun p=>p.1≠i)) t:=by
         obtain⟨p,hp,hds⟩:=hh
         refine⟨p,List.mem_filter.2 ⟨hp,?_⟩,hds⟩
         simp only[ne_eq,decide_eq_true_eq]
         intro e;rw[e]at hds;exact hdt hds
        rw[look_envX_in hh,look_envX_in hh']
       ·have hh':¬hid l (pd.filter (fun p=>p.1≠i)) t:=fun⟨p,hp,hds⟩=>hh ⟨p,(List.mem_filter.1 hp).1,hds⟩
        rw[look_envX hh,look_envX hh']
    exact qv_sound h2 hci hgi hs he hN (QV_congr hlook (q4 st hI)) next
  induction ho with
  |done hk =>
   intro pd listed a w A hu hsz hbe hrl hpd hI hs he hN hd hx
   exact pick hu hsz hbe hrl hpd hI hs he hN hd hx (fun i hi=>by cases hi) (.done hk)
  |@hoist rem env st i d hi hb hq h ih' =>
   intro pd listed a w A hu hsz hbe hrl hpd hI hs he hN hd hx
   have hil:=hrl i hi
   have hni:∀p∈pd,p.1≠i:=fun p hp e=>(hpd p hp).2.1 (by rw[e];exact hi)
   refine ih' ((i,d)::pd) listed a w A hu hsz (fun j hj=>?_) (fun j hj=>hrl j (List.mem_filter.1 hj).1) (fun p hp=>?_) hI hs ?_ hN hd hx
   ·rw[hbe j hj]
    by_cases hji:j=i
    ·subst hji
     simp[hi]
    ·simp[List.mem_filter,hji]
   ·rcases List.mem_cons.1 hp with rfl|hp
    ·refine⟨hil,fun h=>by simpa using(List.mem_filter.1 h).2,fun b hb' h=>hb b hb' (List.mem_filter.1 h).1,fun s hs0=>QV_congr (fun t ht=>?_) (hq s hs0),fun s hds=>by rw[look_setD,if_pos hds],fun q hq' e=>?_⟩
     ·rw[look_setD,if_neg (fun hdt=>?_)]
      have:=hr.hang i i t hil hil hdt ht
      have hlt:i<ops.toList.length:=by rw[hr.len];exact hil
      have:=hr.back i _ (List.getElem?_eq_getElem hlt) i (by rw[List.getD_eq_getElem?_getD,List.getElem?_eq_getElem hlt]at this;exact this)
      omega
     ·rcases List.mem_cons.1 hq' with rfl|hq'
      ·rfl
      ·exact absurd e (hni q hq')
    ·obtain⟨q1,q2,q3,q4,q5,q6⟩:=hpd p hp
     have hpi:=hni p hp
     refine⟨q1,fun h=>q2 (List.mem_filter.1 h).1,fun b hb h=>q3 b hb (List.mem_filter.1 h).1,fun s' hs0=>QV_congr (fun t ht=>?_) (q4 s' hs0),fun s' hs'=>?_,fun q hq' e=>?_⟩
     ·rw[look_setD,if_neg (fun hdt=>?_)]
      exact q3 i (hr.hang p.1 i t q1 hil hdt ht) hi
     ·rw[look_setD,if_neg (fun hdt=>?_)]
      ·exact q5 s' hs'
      ·exact hpi (hr.dist p.1 i s' q1 hil hdt hs')
     ·rcases List.mem_cons.1 hq' with rfl|hq'
      ·exact absurd e.symm hpi
      ·exact q6 q hq' e
   ·intro t v hv
    refine he t v ?_
    by_cases hdt:(l.getD i default).dst=some t
    ·rw[look_envX_in ⟨(i,d),by simp,hdt⟩]at hv;cases hv
    ·by_cases hh:hid l pd t
     ·rw[look_envX_in (show hid l ((i,d)::pd) t from hh.imp fun p hp=>⟨List.mem_cons_of_mem _ hp.1,hp.2⟩)]at hv;cases hv
     ·have hh':¬hid l ((i,d)::pd) t:=fun⟨p,hp,hds⟩=>by
       rcases List.mem_cons.1 hp with rfl|hp
       ·exact hdt hds
       ·exact hh ⟨p,hp,hds⟩
      rw[look_envX hh',look_setD,if_neg hdt]at hv
      rw[look_envX hh];exact hv
  |@all rem env st v s h0 h1 h2 ih' =>
   intro pd listed a w A hu hsz hbe hrl hpd hI hs he hN hd hx
   exact pick hu hsz hbe hrl hpd hI hs he hN hd hx (fun i hi hb=>⟨v i,s i,h1 i hi hb,h2 i hi hb⟩) (.all v s h0 h1 h2)
theorem W_areg (hm:P.follows .mixedOrders=true){id:Nat}{ops:Array Oper}{l:List Ins}(hc:compAll P N.n ops ops.toList=some l)(hg:guardsOk N.n l=true)(hr:aOk ops.toList l=true){env:Env}{st:St}{Q:Post}{I:St→Prop}(hI:I st)
  (h:Ord P l (bsOf ops) I (Q .normal) (List.range l.length) env st):W P N (.region id ops true) env st Q:=by
 intro w A a hs he hN hd
 have hr':=aOk_spec hr
 have hlen:ops.size=l.length:=by have:=hr'.len;simpa using this
 refine wp_region_any hm ?_
 have hx:Ext w A { w with drawn:=w.drawn+1 } A:=Ext.drewN w A _
 have hs1:Sim { w with drawn:=w.drawn+1 } A st:=by
  refine⟨hs.nx,fun id cs h=>(hs.mem id cs h).of_heap hx (hs.mem id cs h).own rfl (hs.mem id cs h).noC,fun id ar h=>(hs.arr id ar h).of_heap hx rfl (fun g hg=>⟨hg,rfl,fun _=>Iff.rfl⟩),hs.Clt,hs.ownlt,hs.disj,hs.x.same hx rfl hs.ownlt (fun _ _=>rfl) (fun _ _ h _=>h) (fun _ _ _ h=>h) (fun _ _ h=>h) (fun _ _ h=>h)⟩
 have hfalse:∀j,j<l.length→(Array.replicate ops.size false).getD j true=false:=fun j hj=>by
  simp[hlen,hj]
 refine ord_sound (w0:=w) (A0:=A) hr' hc hg ops.size h [] _ a _ A ?_ (by simp[hlen]) (fun j hj=>?_) (fun j hj=>by simpa using hj) (fun p hp=>by cases hp) hI hs1 (fun s v hv=>(he.mono hx) s v (by
  have hnh:¬hid l [] s:=by rintro⟨p,hp,_⟩;cases hp
  rw[look_envX hnh]at hv;exact hv)) hN hd hx
 ·unfold unl
  rw[List.filter_eq_self.2 (fun j hj=>by rw[hfalse j (List.mem_range.1 hj)];rfl)]
  simp[hlen]
 ·simp[hfalse j hj,hj]
end
end Go.Sha
namespace Go.Sha
inductive Cx where
 |cd (c:Cd)
 |areg (l:List Ins) (bs:List (List Nat))
 |seq (a b:Cx)
def Cx.join:Cx→Cx→Cx
 | .cd x,.cd y=>.cd (.seq x y)
 |a,b=>.seq a b
def cpX (P:Program)(N:Nat)(ids:List Nat):Code→Option Cx
 | .region id ops d=>if ids.contains id=true then
   match compAll P N ops ops.toList with
   |some l=>if guardsOk N l=true∧aOk ops.toList l=true∧d=true then some (.areg l ((List.range l.length).map (bsOf ops))) else none
   |none=>none
  else(compC P N (.region id ops d)).map .cd
 | .seq a b=>match cpX P N ids a,cpX P N ids b with
  |some x,some y=>some (x.join y)
  |_,_=>none
 |c=>(compC P N c).map .cd
def Cx.bare:Cx→Cx
 | .cd c=>.cd c.bare
 | .areg l bs=>.areg l bs
 | .seq a b=>.seq a.bare b.bare
def Cx.lv (rt:List Nat):Cx→List Nat→List Nat
 | .cd c,out=>c.lv [] rt out
 | .areg l _,out=>l.foldr lvI out
 | .seq a b,out=>a.lv rt (b.lv rt out)
def Cx.ann (rt:List Nat):Cx→List Nat→Cx
 | .cd c,out=>.cd (c.ann [] rt out)
 | .areg l bs,_=>.areg l bs
 | .seq a b,out=>.seq (a.ann rt (b.lv rt out)) (b.ann rt out)
theorem Cx.ann_bare {rt:List Nat}:∀{c:Cx}{out:List Nat},(c.ann rt out).bare=c.bare
 | .cd c,out=>by simp only[Cx.ann,Cx.bare,Cd.ann_bare]
 | .areg _ _,_=>rfl
 | .seq a b,out=>by simp only[Cx.ann,Cx.bare,Cx.ann_bare (c:=a),Cx.ann_bare (c:=b)]
structure Fy where
 N:Nat
 res:List Res
 c:Cx
def cpY (P:Program)(ids:List Nat)(f:FuncId):Option Fy :=
 match P.funcs[f]? with
 |some fn=>match fn.body with
  |some c=>match resB P fn.results.toList,cpX P fn.ntmps ids c with
   |some r,some T=>if(fn.name == "runtime.NumGoroutine")=false then some ⟨fn.ntmps,r,T.ann (r.map (·.slot)) (r.map (·.slot))⟩ else none
   |_,_=>none
  |none=>none
 |none=>none
section
variable {P:Program}{N:Fr}{H:EvF}
def WX (P:Program)(H:EvF):Cx→Env→St→Post→Prop
 | .cd c,env,st,Q=>∃x e s,runC P H c env st=some (x,e,s)∧Q x e s
 | .areg l bs,env,st,Q=>∃I:St→Prop,I st∧Ord P l (fun i=>bs.getD i []) I (Q .normal) (List.range l.length) env st
 | .seq a b,env,st,Q=>WX P H a env st (seqPost (fun e s=>WX P H b e s Q) Q)
theorem Ord.mono {l:List Ins}{bs:Nat→List Nat}{I:St→Prop}{K K':Env→St→Prop}(hk:∀e s,K e s→K' e s){rem:List Nat}{env:Env}{st:St}(h:Ord P l bs I K rem env st):Ord P l bs I K' rem env st:=by
 induction h with
 |done h=>exact .done (hk _ _ h)
 |hoist i d h1 h2 h3 _ ih=>exact .hoist i d h1 h2 h3 ih
 |all v s h0 h1 _ ih=>exact .all v s h0 h1 ih
theorem seqPost_mono {K K':Env→St→Prop}{Q Q':Post}(hk:∀e s,K e s→K' e s)(hq:∀x e s,Q x e s→Q' x e s):∀x e s,seqPost K Q x e s→seqPost K' Q' x e s:=fun x e s h=>by
 cases x<;>first|exact hk _ _ h|exact hq _ _ _ h
theorem WX.mono:∀{c:Cx}{env:Env}{st:St}{Q Q':Post},WX P H c env st Q→(∀x e s,Q x e s→Q' x e s)→WX P H c env st Q'
 | .cd _,_,_,_,_,⟨x,e,s,h1,h2⟩,hq=>⟨x,e,s,h1,hq _ _ _ h2⟩
 | .areg _ _,_,_,_,_,⟨I,hI,h⟩,hq=>⟨I,hI,Ord.mono (fun e s=>hq _ e s) h⟩
 | .seq a b,_,_,_,_,h,hq=>WX.mono (c:=a) h (seqPost_mono (fun e s h=>WX.mono (c:=b) h hq) hq)
theorem Ord.bs_congr {l:List Ins}{bs bs':Nat→List Nat}{I:St→Prop}{K:Env→St→Prop}{rem:List Nat}{env:Env}{st:St}(h:Ord P l bs I K rem env st)(hb:∀i∈rem,bs i=bs' i):Ord P l bs' I K rem env st:=by
 induction h with
 |done h=>exact .done h
 |hoist i d h1 h2 h3 _ ih=>exact .hoist i d h1 (by rw[←hb i h1];exact h2) h3 (ih fun j hj=>hb j (List.mem_filter.1 hj).1)
 |all v s h0 h1 _ ih=>exact .all v s h0 (fun i hi hr=>h1 i hi (by rw[hb i hi];exact hr)) (fun i hi hr=>ih i hi (by rw[hb i hi];exact hr) fun j hj=>hb j (List.mem_filter.1 hj).1)
theorem cpX_cd {n:Nat}{ids:List Nat}:∀{c:Code}{x:Cd},cpX P n ids c=some (.cd x)→compC P n c=some x:=by
 have mp:∀{c:Code}{x:Cd},(compC P n c).map Cx.cd=some (.cd x)→compC P n c=some x:=fun {c x} hc=>by
  obtain⟨y,hy,e⟩:=Option.map_eq_some_iff.1 hc
  cases e;exact hy
 intro c
 induction c with
 |region id ops d =>
  intro x hc
  unfold cpX at hc
  split at hc
  ·split at hc
   ·split at hc<;>cases hc
   ·cases hc
  ·exact mp hc
 |seq a b iha ihb =>
  intro x hc
  simp only[cpX]at hc
  split at hc
  ·rename_i x1 y1 hx hy
   cases x1<;>cases y1<;>simp only[Cx.join]at hc<;>cases hc
   simp only[compC,iha hx,ihb hy]
  ·cases hc
 |_ =>
  intro x hc
  first
   |exact mp hc
   |(simp only[cpX]at hc;exact mp hc)
theorem cpX_bare {n:Nat}{ids:List Nat}:∀{c:Code}{x:Cx},cpX P n ids c=some x→x.bare=x:=by
 have mp:∀{c:Code}{x:Cx},(compC P n c).map Cx.cd=some x→x.bare=x:=fun {c x} hc=>by
  obtain⟨y,hy,e⟩:=Option.map_eq_some_iff.1 hc
  subst e
  simp only[Cx.bare,compC_bare hy]
 intro c
 induction c with
 |region id ops d =>
  intro x hc
  unfold cpX at hc
  split at hc
  ·split at hc
   ·split at hc<;>cases hc
    rfl
   ·cases hc
  ·exact mp hc
 |seq a b iha ihb =>
  intro x hc
  simp only[cpX]at hc
  split at hc
  ·rename_i x1 y1 hx hy
   have h1:=iha hx
   have h2:=ihb hy
   cases hc
   cases x1<;>cases y1<;>simp only[Cx.join,Cx.bare,Cd.bare]at h1 h2 ⊢<;>simp_all
  ·cases hc
 |_ =>
  intro x hc
  first
   |exact mp hc
   |(simp only[cpX]at hc;exact mp hc)
theorem WX_sound (hm:P.follows .mixedOrders=true)(hH:ESound P H){ids:List Nat}:∀{c:Code}{cx:Cx}{env:Env}{st:St}{Q:Post},cpX P N.n ids c=some cx.bare→WX P H cx env st Q→W P N c env st Q:=by
 have ev:∀{c:Code}{cd:Cd}{env:Env}{st:St}{Q:Post},cpX P N.n ids c=some (.cd cd.bare)→WX P H (.cd cd) env st Q→W P N c env st Q:=fun {c cd env st Q} hc ⟨x,e,s,h1,h2⟩ =>
  WD.ev hm hH h1 h2 c (cpX_cd hc)
 intro c
 induction c with
 |region id ops d =>
  intro cx env st Q hc h
  cases cx with
  |cd cd=>exact ev hc h
  |seq a b =>
   unfold cpX at hc
   split at hc
   ·split at hc
    ·split at hc<;>simp[Cx.bare]at hc
    ·cases hc
   ·obtain⟨y,hy,e⟩:=Option.map_eq_some_iff.1 hc
    cases e
  |areg l' bs' =>
  unfold cpX at hc
  split at hc
  ·split at hc
   ·rename_i l hl
    split at hc
    ·rename_i hh
     obtain⟨h1,h2,rfl⟩:=hh
     cases hc
     obtain⟨I,hI,h⟩:=h
     refine W_areg hm hl h1 h2 hI (Ord.bs_congr h fun i hi=>?_)
     have hi':=List.mem_range.1 hi
     simp[List.getD_eq_getElem?_getD,hi']
    ·cases hc
   ·cases hc
  ·obtain⟨y,hy,e⟩:=Option.map_eq_some_iff.1 hc
   cases e
 |seq a b iha ihb =>
  intro cx env st Q hc h
  cases cx with
  |cd cd=>exact ev hc h
  |areg l bs =>
   simp only[cpX]at hc
   split at hc
   ·rename_i x y hx hy
    cases x<;>cases y<;>simp[Cx.join,Cx.bare]at hc
   ·cases hc
  |seq x' y' =>
   simp only[cpX]at hc
   split at hc
   ·rename_i x y hx hy
    have e:x=x'.bare∧y=y'.bare:=by
     cases x<;>cases y<;>simp[Cx.join,Cx.bare]at hc<;>simp[hc]
    obtain⟨rfl,rfl⟩:=e
    exact W_seq (W_mono (iha hx h) (seqPost_mono (fun e s h=>ihb hy h) (fun _ _ _ h=>h)))
   ·cases hc
 |_ =>
  intro cx env st Q hc h
  have hc':=hc
  simp only[cpX]at hc'
  obtain⟨y,hy,e⟩:=Option.map_eq_some_iff.1 hc'
  cases cx<;>simp only[Cx.bare]at e<;>cases e
  exact ev hc h
def endP (res:List Res)(R:VRes→St→Prop):Post:=fun x e s=>∃r s',rawE res (some (x,e,s))=some (r,s')∧R r s'
theorem rawX_sound (hm:P.follows .mixedOrders=true)(hH:ESound P H){ids:List Nat}{f:FuncId}{F:Fy}(hF:cpY P ids f=some F){args:List V}(ha:args.length≤F.N){st:St}{R:VRes→St→Prop}
  (h:WX P H F.c (argEnv 0 args) st (endP F.res R)):VCalls P f args st R:=by
 unfold cpY at hF
 split at hF
 ·rename_i fn hf
  split at hF
  ·rename_i c hb
   split at hF
   ·rename_i res T hres hT
    split at hF
    ·rename_i hname
     cases hF
     have hW:W P ⟨fn.ntmps,[]⟩ c (argEnv 0 args) st (endP res R):=WX_sound hm hH (by rw[Cx.ann_bare,cpX_bare hT];exact hT) h
     refine .inl ⟨⟨fn,hf,hname,by simp[hb]⟩,fun w A vs hs hr=>?_⟩
     have hvl:vs.length≤fn.ntmps:=by rw[hr.1];exact ha
     have hend:∀{w':World}{A':Abs}{a':Act}{x:VX}{e:Env}{s1:St},x=.normal∨x=.ret→endP res R x e s1→Sim w' A' s1→EnvSim w' A' a' e→a'.defers=[]→Ext w A w' A' →
       a'.defers=[]∧∃v,(results fn a'.tmps).run P w'=.ok v w'∧∃r' A' st',R r' st'∧EndRel w' A' (.returned v) r'∧Sim w' A' st'∧Ext w A w' A':=fun {w' A' a' x e s1} hx he hs' he' hd' hx'=>by
      obtain⟨r,s,h,hR⟩:=he
      have hds:∃ds,resV e s1 res=some ds∧r=.ret (resOne ds)∧s=s1:=by
       rcases hx with rfl|rfl<;>(simp only[rawE]at h;cases hd:resV e s1 res<;>rw[hd]at h<;>simp only[rawO]at h<;>cases h;exact⟨_,rfl,rfl,rfl⟩)
      obtain⟨ds,h1,rfl,rfl⟩:=hds
      obtain⟨v,hrun,hv⟩:=run_results (fn:=fn) hs' he' hres h1
      exact⟨hd',v,hrun,_,A',_,hR,hv,hs',hx'⟩
     refine calls_of_wp hf hb (Code.wp_mono (fun ex a' w' hq=>?_) (hW w A { tmps:=vs.toArray++Array.replicate (fn.ntmps-vs.toArray.size) undef,defers:=[] } hs ?_ (by simp;omega) rfl))
     ·cases ex with
      |normal =>
       obtain⟨A',env',st1,q1,q2,q3,_,q5,q6⟩:=hq
       exact hend (.inl rfl) q1 q2 q3 q5 q6
      |ret =>
       obtain⟨A',env',st1,q1,q2,q3,_,q5,q6⟩:=hq
       exact hend (.inr rfl) q1 q2 q3 q5 q6
      |panic ch =>
       obtain⟨A',env',st1,v,d,e1,e2,⟨r,s,h,hR⟩,q2,q3,_,q5,q6⟩:=hq
       simp only[rawE]at h
       cases h
       exact⟨q5,.pan d,A',_,hR,⟨v,e1,e2⟩,q2,q6⟩
      |exit id =>
       obtain⟨A',env',st1,⟨r,s,h,hR⟩,_⟩:=hq
       simp only[rawE]at h;cases h
      |goto l=>exact hq.elim
      |outgrown=>exact hq.elim
     ·intro i v hv
      obtain⟨_,hv⟩:=look_argEnv args 0 i v hv
      simp only[Nat.sub_zero]at hv
      have hlt:i<vs.length:=by have:=(List.getElem?_eq_some_iff.1 hv).1;have:=hr.1;omega
      have:(vs.toArray++Array.replicate (fn.ntmps-vs.toArray.size) undef).getD i undef=vs[i]:=by
       rw[Array.getD_eq_getD_getElem?,Array.getElem?_append_left (by simpa using hlt)];simp[hlt]
      rw[this]
      exact hr.2 i vs[i] v (List.getElem?_eq_getElem hlt) hv
    ·cases hF
   ·cases hF
  ·cases hF
 ·cases hF
theorem VCalls_shutR {f:FuncId}{args:List V}(hb:V.bdL 0 args=true){st:St}{R:VRes→St→Prop}(h:VCalls P f args (stG st.x.gl) R){r':VRes}{s':St}(hR:∀r s,R r s→shutR st (some (r,s))=some (r',s')) :
  VCalls P f args st (fun x y=>x=r'∧y=s'):=by
 have key:∀{w:World}{A:Abs}{w':World}{A':Abs}{u:Value}{d:V}{s:St},Sim w A st→Rep w' A' u d→Sim w' A' s→Ext w (A.cut 0) w' A'→(shutV s d).bd 0=true→∃A3,Rep w' A3 u (shutV s d)∧Sim w' A3 st∧Ext w A w' A3:=fun {w A w' A' u d s} hs hu hs' hx hbd=>by
  have hC:∀b o,A'.shut.C b o→b<w'.heap.size:=fun b o h=>h.elim (hs'.Clt b o) fun⟨id,h⟩=>(hs'.ownlt b id h).1
  obtain⟨k1,k2,k3⟩:=shut_world hs (hx.trans (Ext.shut w' A')) hC
  exact⟨_,(shutV_rep hs' hu).data k3 hbd,k1,k2⟩
 have hargs:∀{w:World}{A:Abs}{vs:List Value},Reps w A vs args→Reps w (A.cut 0) vs args:=fun h=>h.data (fun _ _ h=>h) hb
 have kr:∀{d:V}{s:St},R (.ret d) s→(shutV s d).bd 0=true∧r'=.ret (shutV s d)∧s'=st:=fun {d s} e=>by
  have hr:=hR _ _ e
  simp only[shutR]at hr
  cases hz:(shutV s d).bd 0<;>rw[hz]at hr<;>simp only[guardT]at hr<;>cases hr
  exact⟨rfl,rfl,rfl⟩
 have kp:∀{d:V}{s:St},R (.pan d) s→(shutV s d).bd 0=true∧r'=.pan (shutV s d)∧s'=st:=fun {d s} e=>by
  have hr:=hR _ _ e
  simp only[shutR]at hr
  cases hz:(shutV s d).bd 0<;>rw[hz]at hr<;>simp only[guardT]at hr<;>cases hr
  exact⟨rfl,rfl,rfl⟩
 rcases h with h|h
 ·refine .inl ⟨h.1,fun w A vs hs ha=>(h.2 w (A.cut 0) vs (stG_weak hs) (hargs ha)).mono fun e w' ⟨r0,A',s0,e1,hend,hs',hx⟩=>?_⟩
  cases e with
  |returned u =>
   cases r0 with
   |ret d =>
    obtain⟨k1,rfl,rfl⟩:=kr e1
    obtain⟨A3,g1,g2,g3⟩:=key hs hend hs' hx k1
    exact⟨_,A3,_,⟨rfl,rfl⟩,g1,g2,g3⟩
   |pan d=>exact hend.elim
  |panicked ch =>
   cases r0 with
   |ret d=>exact hend.elim
   |pan d =>
    obtain⟨u,c1,c2⟩:=hend
    obtain⟨k1,rfl,rfl⟩:=kp e1
    obtain⟨A3,g1,g2,g3⟩:=key hs c2 hs' hx k1
    exact⟨_,A3,_,⟨rfl,rfl⟩,⟨u,c1,g1⟩,g2,g3⟩
  |outgrown=>cases r0<;>exact hend.elim
 ·refine .inr fun w A vs hs ha=>?_
  obtain⟨v,w',hrun,r0,A',s0,e1,hend,hs',hx⟩:=h w (A.cut 0) vs (stG_weak hs) (hargs ha)
  cases r0 with
  |ret d =>
   obtain⟨k1,rfl,rfl⟩:=kr e1
   obtain⟨A3,g1,g2,g3⟩:=key hs hend hs' hx k1
   exact⟨v,w',hrun,_,A3,_,⟨rfl,rfl⟩,g1,g2,g3⟩
  |pan d=>exact hend.elim
theorem X_shut (hm:P.follows .mixedOrders=true)(hH:ESound P H){ids:List Nat}{f:FuncId}{M:Nat}{res:List Res}{c:Cx}(hF:cpY P ids f=some ⟨M,res,c⟩){args:List V}(hl:Nat.ble args.length M=true)(hb:V.bdL 0 args=true){st:St}{r:VRes}{s:St}
  (h:WX P H c (argEnv 0 args) (stG st.x.gl) fun x e s1=>shutR st (rawE res (some (x,e,s1)))=some (r,s)):VCalls P f args st (fun x y=>x=r∧y=s):=by
 refine VCalls_shutR hb (R:=fun a b=>shutR st (some (a,b))=some (r,s)) (rawX_sound hm hH hF (Nat.le_of_ble_eq_true hl) (WX.mono h fun x e s1 hq=>?_)) fun _ _ h=>h
 cases hz:rawE res (some (x,e,s1)) with
 |none=>rw[hz]at hq;simp[shutR]at hq
 |some z=>exact⟨z.1,z.2,hz,by rw[hz]at hq;exact hq⟩
def rdy (bs:List (List Nat))(rem:List Nat):List Nat:=rem.filter fun i=>(bs.getD i []).all fun b=>!rem.contains b
theorem mem_rdy {bs:List (List Nat)}{rem:List Nat}{i:Nat}(hi:i∈rem)(hb:∀b∈bs.getD i [],b ∉ rem):i∈rdy bs rem:=by
 refine List.mem_filter.2 ⟨hi,List.all_eq_true.2 fun b h=>?_⟩
 simpa using hb b h
theorem rdy_mem {bs:List (List Nat)}{rem:List Nat}{i:Nat}(h:i∈rdy bs rem):i∈rem∧∀b∈bs.getD i [],b ∉ rem:=by
 obtain⟨h1,h2⟩:=List.mem_filter.1 h
 exact⟨h1,fun b hb=>by simpa using List.all_eq_true.1 h2 b hb⟩
theorem StepV_one (hm:P.follows .mixedOrders=true)(hH:ESound P H){i:Ins}{env e:Env}{st s:St}(ho:i.op.odd=false)(h:evOne (run P H) i env st (fun e s=>some (.normal,e,s))=some (.normal,e,s)) :
  ∃v,StepV P i env st v s∧e=setD env i.dst v:=by
 obtain⟨v,st',h1,x,e',s',h2,h3,h4⟩:=evOne_step (run_sound hm hH) (Q:=fun _ e' s'=>e'=e∧s'=s) (K:=fun e s=>some (.normal,e,s)) ho ⟨.normal,e,s,by rw[h];rfl,rfl,rfl⟩
 cases h2
 subst h3 h4
 exact⟨v,h1,rfl⟩
theorem Ord.go (hm:P.follows .mixedOrders=true)(hH:ESound P H){l:List Ins}{bs:List (List Nat)}{I:St→Prop}{K:Env→St→Prop}{rem:List Nat}{env:Env}{st:St}(L:List Nat)(h0:rem≠[])(hL:rdy bs rem=L)
  (h:∀i∈L,(l.getD i default).op.odd=false∧∃e s,evOne (run P H) (l.getD i default) env st (fun e s=>some (.normal,e,s))=some (.normal,e,s)∧I s∧Ord P l (fun i=>bs.getD i []) I K (rem.filter (·≠i)) e s) :
  Ord P l (fun i=>bs.getD i []) I K rem env st:=by
 refine Ord.each h0 fun i hi hb=>?_
 obtain⟨ho,e,s,h1,hI,h2⟩:=h i (by rw[←hL];exact mem_rdy hi hb)
 obtain⟨v,h3,rfl⟩:=StepV_one hm hH ho h1
 exact⟨v,s,⟨.inr h3,hI⟩,h2⟩
theorem Ord.pure (hm:P.follows .mixedOrders=true)(hH:ESound P H){l:List Ins}{bs:List (List Nat)}{I:St→Prop}{K:Env→St→Prop}{rem:List Nat}{env:Env}{st:St}(i:Nat)(d:V)(hi:(rdy bs rem).contains i=true)(hd:(l.getD i default).dst.isSome=true)
  (hq:∀s,I s→evQ1 (run P H) (l.getD i default) env s (fun e=>some (.normal,e,s))=some (.normal,setD env (l.getD i default).dst d,s))
  (h:Ord P l (fun i=>bs.getD i []) I K (rem.filter (·≠i)) (setD env (l.getD i default).dst d) st):Ord P l (fun i=>bs.getD i []) I K rem env st:=by
 obtain⟨h1,h2⟩:=rdy_mem (bs:=bs) (rem:=rem) (i:=i) (by simpa using hi)
 refine .hoist i d h1 h2 (fun s hs=>?_) h
 have h3:Has (fun _ e _=>e=setD env (l.getD i default).dst d) (evQ1 (run P H) (l.getD i default) env s (fun e=>some (.normal,e,s))):=⟨_,_,_,hq s hs,rfl⟩
 obtain⟨d',hd',x,e,s',h4,h5⟩:=vcQ_one (evQ1_sound (run_sound hm hH) h3)
 cases h4
 obtain⟨k,hk⟩:=Option.isSome_iff_exists.1 hd
 rw[hk]at h5
 have:=congrArg (fun e=>look e k) h5
 simp only[look_setD,if_pos]at this
 cases this
 exact hd'
end
end Go.Sha
