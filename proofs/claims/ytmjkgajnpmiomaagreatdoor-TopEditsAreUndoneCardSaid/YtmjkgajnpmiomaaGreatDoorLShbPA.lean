/- Regions whose order is drawn. -/
import Derived.Test.YtmjkgajnpmiomaaGreatDoorLShbPR
set_option linter.unusedSimpArgs false
set_option linter.unusedVariables false
namespace Go.Sha
def SOp.quiet:SOp→Bool
 | .act .. | .nilk .. | .nxt .. | .alloc .. | .box .. | .store .. | .append .. | .bslice .. | .mkslice .. | .cvsb .. | .panic ..=>false
 |_=>true
def memD:Option Nat→List Nat→Bool
 |some d,x::l=>if x=d then true else memD (some d) l
 |_,_=>false
def Ins.qt (U D:List Nat)(i:Ins):Bool:=bif memD i.dst U then false else bif memD i.dst D then true else i.op.quiet
abbrev Ran:=Ins×Env×V
def picks {α:Type}:List Bool→List α→List α
 |true::bs,x::l=>x::picks bs l
 |false::bs,_::l=>picks bs l
 |_,_=>[]
def sameL (o:Option V)(v:V)(K:Prop):Prop:=o=some v∧K
def sameD (d:Option Nat)(v:V)(env:Env)(K:Prop):Prop:=match d with
 |none=>K
 |some s=>sameL (look env s) v K
def reQ (P:Program)(st:St)(K:Prop):List Ran→Prop
 |[]=>K
 |x::r=>vcQ P [x.1] x.2.1 st fun env'=>sameD x.1.dst x.2.2 env' (reQ P st K r)
def lateQ (P:Program)(i:Ins)(env:Env)(v:V)(K:Prop):List St→Prop
 |[]=>K
 |s::r=>vcQ P [i] env s fun env'=>sameD i.dst v env' (lateQ P i env v K r)
def valD (d:Option Nat)(env:Env):V:=match d with
 |some s=>(look env s).getD .und
 |none=>.und
def StepV (P:Program)(i:Ins)(env:Env)(st:St)(v:V)(st':St):Prop:=(wantV env i.g=some true∧match i.op with
 | .call f args=>callVC P (f.get env) (args.map (·.get env)) st fun r s=>r=.ret v∧s=st'
 |op=>stv op env st=some (v,st'))∨(wantV env i.g=some false∧v=.tup []∧st'=st)∨(wantV env i.g=some true∧∃wr,stR wr i.op env st=some (v,st'))
def SOp.odd:SOp→Bool
 | .nilk .. | .nxt .. | .panic ..=>true
 |_=>false
def vcG (P:Program)(U D:List Nat)(Q:Env→St→Prop):List Ins→List (List Bool)→Env→St→List Ran→List St→Prop
 |[],_,env,st,_,_=>Q env st
 |i::r,fs,env,st,h,hs=>if i.qt U D=true then
   vcQ P [i] env st fun env'=>lateQ P i env (valD i.dst env') (vcG P U D Q r fs.tail env' st ((i,env,valD i.dst env')::h) hs) (hs.take (fs.headD []).length)
  else ∃v st',StepV P i env st v st'∧reQ P st' (vcG P U D Q r fs.tail (setD env i.dst v) st' ((i,env,valD i.dst (setD env i.dst v))::h) (st::hs)) (picks (fs.headD []) h)
section
variable {P:Program}{N:Fr}{U D:List Nat}
def QVr (P:Program)(x:Ran)(st:St):Prop:=∃d,QV P x.1 x.2.1 st d∧∀s,x.1.dst=some s→d=x.2.2
theorem vcQ_one {i:Ins}{env:Env}{st:St}{K:Env→Prop}(h:vcQ P [i] env st K):∃d,QV P i env st d∧K (setD env i.dst d):=by
 obtain⟨vals,h1,h2,h3⟩:=vcQ_vals h
 match vals,h1 with
 |[d],_ =>
  refine⟨d,?_,by simpa [pairs,envSel] using h3⟩
  have:=h2 0 i d rfl rfl
  simpa [pairs,envSel] using this
theorem sameD_inv {d:Option Nat}{v u:V}{env:Env}{K:Prop}(h:sameD d v (setD env d u) K):(∀s,d=some s→u=v)∧K:=by
 cases d with
 |none=>exact⟨fun s h=>(by cases h),h⟩
 |some s =>
  obtain⟨h1,h2⟩:=h
  rw[look_setD,if_pos rfl]at h1
  exact⟨fun _ _=>Option.some.inj h1,h2⟩
theorem reQ_inv {st:St}{K:Prop}:∀{l:List Ran},reQ P st K l→(∀x∈l,QVr P x st)∧K
 |[],h=>⟨fun x hx=>(by cases hx),h⟩
 |x::l,h=>by
  obtain⟨d,h1,h2⟩:=vcQ_one h
  obtain⟨h3,h4⟩:=sameD_inv h2
  obtain⟨h5,h6⟩:=reQ_inv h4
  refine⟨fun y hy=>?_,h6⟩
  rcases List.mem_cons.1 hy with rfl|hy
  ·exact⟨d,h1,h3⟩
  ·exact h5 y hy
theorem lateQ_inv {i:Ins}{env:Env}{v:V}{K:Prop}:∀{l:List St},lateQ P i env v K l→(∀s∈l,QVr P (i,env,v) s)∧K
 |[],h=>⟨fun x hx=>(by cases hx),h⟩
 |s::l,h=>by
  obtain⟨d,h1,h2⟩:=vcQ_one h
  obtain⟨h3,h4⟩:=sameD_inv h2
  obtain⟨h5,h6⟩:=lateQ_inv h4
  refine⟨fun y hy=>?_,h6⟩
  rcases List.mem_cons.1 hy with rfl|hy
  ·exact⟨d,h1,h3⟩
  ·exact h5 y hy
theorem picks_mem {α:Type}:∀{bs:List Bool}{l:List α}{p:Nat}{e:α},l[p]?=some e→bs[p]?=some true→e∈picks bs l
 |[],_,p,e,_,h=>by simp at h
 |_::_,[],p,e,h,_=>by simp at h
 |true::bs,x::l,0,e,h,_=>by simp at h;subst h;simp[picks]
 |false::bs,x::l,0,e,_,h=>by simp at h
 |true::bs,x::l,p+1,e,h,h'=>by simp only[picks];exact List.mem_cons_of_mem _ (picks_mem (p:=p) (by simpa using h) (by simpa using h'))
 |false::bs,x::l,p+1,e,h,h'=>by simp only[picks];exact picks_mem (p:=p) (by simpa using h) (by simpa using h')
def nzt (U D:List Nat):List Ins→Nat→Nat
 |[],_=>0
 |_,0=>0
 |x::l,k+1=>(if x.qt U D=true then 0 else 1)+nzt U D l k
def envAt (l:List Ins)(vals:List V)(env:Env)(i:Nat):Env:=envSel (pairs l vals) (fun j=>decide (j<i)) 0 env
theorem envAt_zero {l:List Ins}{vals:List V}{env:Env}:envAt l vals env 0=env:=by
 unfold envAt
 have none:∀(ps:List (Option Nat×V)) (k:Nat) (env:Env),envSel ps (fun j=>decide (j<0)) k env=env:=by
  intro ps
  induction ps with
  |nil=>intro _ _;rfl
  |cons p ps ih=>intro k env;simp only[envSel];exact ih _ _
 exact none _ _ _
theorem envAt_succ {x:Ins}{v:V}{l:List Ins}{vals:List V}{env:Env}{i:Nat}:envAt (x::l) (v::vals) env (i+1)=envAt l vals (setD env x.dst v) i:=by
 unfold envAt
 simp only[pairs,List.map_cons,List.zip_cons_cons,envSel]
 rw[envSel_shift]
 simp
structure GVals (P:Program) (U D:List Nat) (Q:Env→St→Prop) (l:List Ins) (fs:List (List Bool)) (env:Env) (st:St) (h:List Ran) (hs:List St) (vals:List V) (sts:List St):Prop where
 len:vals.length=l.length
 slen:sts.length=nzt U D l l.length+1
 first:sts[0]?=some st
 quiet:∀(i:Nat) (x:Ins) (v:V),l[i]?=some x→vals[i]?=some v→x.qt U D=true→∀s∈((sts.take (nzt U D l i+1)).reverse++hs).take (((fs[i]?).getD []).length+1),QVr P (x,envAt l vals env i,v) s
 later:∀(k:Nat) (y:Ins) (s:St),l[k]?=some y→y.qt U D=false→sts[nzt U D l k+1]?=some s →
  (∀(i:Nat) (x:Ins) (v:V),i<k→l[i]?=some x→vals[i]?=some v→x.qt U D=true→((fs[k]?).getD [])[k-1-i]?=some true→QVr P (x,envAt l vals env i,v) s) ∧
  (∀(p:Nat) (e:Ran),h[p]?=some e→((fs[k]?).getD [])[k+p]?=some true→QVr P e s)
 step:∀(k:Nat) (y:Ins) (v:V) (s s':St),l[k]?=some y→y.qt U D=false→vals[k]?=some v→sts[nzt U D l k]?=some s→sts[nzt U D l k+1]?=some s'→∃v0,StepV P y (envAt l vals env k) s v0 s'∧∀d,y.dst=some d→v0=v
 fin:∀s,sts[nzt U D l l.length]?=some s→Q (envSel (pairs l vals) (fun _=>true) 0 env) s
theorem fs_tail {fs:List (List Bool)}{k:Nat}:(fs.tail[k]?).getD []=(fs[k+1]?).getD []:=by cases fs<;>simp
theorem fs_head {fs:List (List Bool)}:fs.headD []=(fs[0]?).getD []:=by cases fs<;>simp
theorem vcG_vals {Q:Env→St→Prop}:∀{l:List Ins}{fs:List (List Bool)}{env:Env}{st:St}{h:List Ran}{hs:List St},(∀x∈l,x.op.odd=false)→vcG P U D Q l fs env st h hs→∃vals sts,GVals P U D Q l fs env st h hs vals sts
 |[],fs,env,st,h,hs,_,hv=>⟨[],[st],⟨rfl,rfl,rfl,by simp,by simp,by simp,fun s hs'=>by simp[nzt]at hs';subst hs';simpa [pairs,envSel,vcG] using hv⟩⟩
 |x::l,fs,env,st,h,hs,hodd,hv=>by
  simp only[vcG]at hv
  split at hv
  ·-- quiet
   rename_i hq
   obtain⟨d,h1,h2⟩:=vcQ_one hv
   obtain⟨h3,h4⟩:=lateQ_inv h2
   have hval:∀s,x.dst=some s→d=valD x.dst (setD env x.dst d):=fun s hs=>by
    rw[hs];simp[valD,look_setD]
   have henv:setD env x.dst (valD x.dst (setD env x.dst d))=setD env x.dst d:=by
    cases hd:x.dst with
    |none=>rfl
    |some s=>simp[valD,look_setD]
   generalize hvv:valD x.dst (setD env x.dst d)=v at *
   obtain⟨vals,sts,g⟩:=vcG_vals (fun y hy=>hodd y (List.mem_cons_of_mem _ hy)) h4
   have hnz:∀i,nzt U D (x::l) (i+1)=nzt U D l i:=fun i=>by simp[nzt,hq]
   refine⟨v::vals,sts,⟨by simp[g.len],by simp[hnz,g.slen],g.first,fun i y u hy hu hqy s hs'=>?_,fun k y s hy hqy hs'=>?_,fun k y u s s' hy hqy hu hs1 hs2=>?_,fun s hs'=>?_⟩⟩
   ·cases i with
    |zero =>
     simp at hy hu
     subst hy;subst hu
     rw[envAt_zero]
     have e0:nzt U D (x::l) 0=0:=rfl
     rw[e0]at hs'
     have e1:sts.take 1=[st]:=by
      have:=g.first
      cases sts with
      |nil=>simp at this
      |cons a r=>simp at this;subst this;simp
     rw[e1,←fs_head]at hs'
     simp only[List.reverse_cons,List.reverse_nil,List.nil_append,List.cons_append,List.take_succ_cons,List.mem_cons]at hs'
     rcases hs' with rfl|hs'
     ·exact⟨d,h1,hval⟩
     ·exact h3 s hs'
    |succ i =>
     rw[envAt_succ,henv]
     refine g.quiet i y u (by simpa using hy) (by simpa using hu) hqy s ?_
     rw[hnz]at hs'
     rw[fs_tail]
     exact hs'
   ·cases k with
    |zero=>simp at hy;subst hy;rw[hq]at hqy;cases hqy
    |succ k =>
     rw[hnz]at hs'
     obtain⟨g1,g2⟩:=g.later k y s (by simpa using hy) hqy hs'
     refine⟨fun i z u hik hz hu hqz hm=>?_,fun p e he hm=>?_⟩
     ·cases i with
      |zero =>
       simp at hz hu
       subst hz;subst hu
       rw[envAt_zero]
       exact g2 0 _ rfl (by rw[fs_tail];simpa using hm)
      |succ i =>
       rw[envAt_succ,henv]
       exact g1 i z u (by omega) (by simpa using hz) (by simpa using hu) hqz (by rw[fs_tail,show k-1-i=k+1-1-(i+1) by omega];exact hm)
     ·exact g2 (p+1) e (by simpa using he) (by rw[fs_tail,show k+(p+1)=k+1+p by omega];exact hm)
   ·cases k with
    |zero=>simp at hy;subst hy;rw[hq]at hqy;cases hqy
    |succ k =>
     rw[hnz]at hs1 hs2
     rw[envAt_succ,henv]
     exact g.step k y u s s' (by simpa using hy) hqy (by simpa using hu) hs1 hs2
   ·simp only[List.length_cons,hnz]at hs'
    have:=g.fin s hs'
    simp only[pairs,List.map_cons,List.zip_cons_cons,envSel,if_true]
    rw[envSel_shift,henv]
    simpa [pairs] using this
  ·-- a change of the state
   rename_i hq
   have hq':x.qt U D=false:=by simpa using hq
   have hnz:∀i,nzt U D (x::l) (i+1)=nzt U D l i+1:=fun i=>by simp[nzt,hq'];omega
   obtain⟨v0,st',hstep0,hv0⟩:=hv
   obtain⟨v,hstep,hfl,hv',henv⟩:∃v,(∃v0,StepV P x env st v0 st'∧∀s,x.dst=some s→v0=v)∧(∀y∈picks (fs.headD []) h,QVr P y st')∧vcG P U D Q l fs.tail (setD env x.dst v) st' ((x,env,v)::h) (st::hs)∧True:=by
    obtain⟨r1,r2⟩:=reQ_inv hv0
    have hval:∀s,x.dst=some s→v0=valD x.dst (setD env x.dst v0):=fun s hs=>by
     rw[hs];simp[valD,look_setD]
    have henv:setD env x.dst (valD x.dst (setD env x.dst v0))=setD env x.dst v0:=by
     cases hd:x.dst with
     |none=>rfl
     |some s=>simp[valD,look_setD]
    exact⟨_,⟨v0,hstep0,hval⟩,r1,by rw[henv];exact r2,trivial⟩
   obtain⟨vals,sts,g⟩:=vcG_vals (fun y hy=>hodd y (List.mem_cons_of_mem _ hy)) hv'
   refine⟨v::vals,st::sts,⟨by simp[g.len],by simp[hnz,g.slen],rfl,fun i y u hy hu hqy s hs'=>?_,fun k y s hy hqy hs'=>?_,fun k y u s s' hy hqy hu hs1 hs2=>?_,fun s hs'=>?_⟩⟩
   ·cases i with
    |zero=>simp at hy;subst hy;rw[hq']at hqy;cases hqy
    |succ i =>
     rw[envAt_succ]
     refine g.quiet i y u (by simpa using hy) (by simpa using hu) hqy s ?_
     rw[hnz]at hs'
     rw[fs_tail]
     simpa using hs'
   ·cases k with
    |zero =>
     have e0:nzt U D (x::l) 0=0:=rfl
     rw[e0]at hs'
     have e1:s=st':=by
      have:=g.first
      simp at hs'
      rw[hs']at this
      exact Option.some.inj this
     subst e1
     refine⟨fun i z u hik=>by omega,fun p e he hm=>hfl e (picks_mem he (by rw[fs_head];simpa using hm))⟩
    |succ k =>
     rw[hnz]at hs'
     obtain⟨g1,g2⟩:=g.later k y s (by simpa using hy) hqy (by simpa using hs')
     refine⟨fun i z u hik hz hu hqz hm=>?_,fun p e he hm=>?_⟩
     ·cases i with
      |zero=>simp at hz;subst hz;rw[hq']at hqz;cases hqz
      |succ i =>
       rw[envAt_succ]
       exact g1 i z u (by omega) (by simpa using hz) (by simpa using hu) hqz (by rw[fs_tail,show k-1-i=k+1-1-(i+1) by omega];exact hm)
     ·exact g2 (p+1) e (by simpa using he) (by rw[fs_tail,show k+(p+1)=k+1+p by omega];exact hm)
   ·cases k with
    |zero =>
     simp at hy hu
     subst hy;subst hu
     have e0:nzt U D (x::l) 0=0:=rfl
     rw[e0]at hs1 hs2
     rw[envAt_zero]
     have e1:s'=st':=by
      have:=g.first
      simp at hs2
      rw[hs2]at this
      exact Option.some.inj this
     simp at hs1
     subst hs1;subst e1
     exact hstep
    |succ k =>
     rw[hnz]at hs1 hs2
     rw[envAt_succ]
     exact g.step k y u s s' (by simpa using hy) hqy (by simpa using hu) (by simpa using hs1) (by simpa using hs2)
   ·simp only[List.length_cons,hnz]at hs'
    have:=g.fin s (by simpa using hs')
    simp only[pairs,List.map_cons,List.zip_cons_cons,envSel,if_true]
    rw[envSel_shift]
    simpa [pairs] using this
def cloK (prev:List Nat)(es:List Nat):Nat:=es.foldl (fun a e=>a ||| (1 <<< e ||| prev.getD e 0)) 0
def clos:List Oper→List Nat→List Nat
 |[],acc=>acc
 |o::r,acc=>clos r (acc++[cloK acc (bindsE o)])
theorem foldl_testBit {prev:List Nat}{j:Nat}:∀(es:List Nat) (a:Nat),(es.foldl (fun a e=>a ||| (1 <<< e ||| prev.getD e 0)) a).testBit j=true→a.testBit j=true∨∃e∈es,j=e∨(prev.getD e 0).testBit j=true
 |[],a,h=>.inl h
 |e::es,a,h=>by
  rw[List.foldl_cons]at h
  rcases foldl_testBit es _ h with h|⟨e',h1,h2⟩
  ·rw[Nat.testBit_or,Nat.testBit_or,Bool.or_eq_true,Bool.or_eq_true]at h
   rcases h with h|h|h
   ·exact .inl h
   ·refine .inr ⟨e,List.mem_cons_self,.inl ?_⟩
    rw[Nat.one_shiftLeft,Nat.testBit_two_pow]at h
    exact(by simpa using h:e=j).symm
   ·exact .inr ⟨e,List.mem_cons_self,.inr h⟩
  ·exact .inr ⟨e',List.mem_cons_of_mem _ h1,h2⟩
theorem clos_spec {ops:List Oper}{L:Nat→Bool}(hL:∀(i:Nat) (o:Oper),ops[i]?=some o→L i=true→∀e∈bindsE o,L e=true) :
  ∀(r pre:List Oper) (acc:List Nat),ops=pre++r→acc.length=pre.length→(∀(k:Nat) (c:Nat) (o:Oper),acc[k]?=some c→ops[k]?=some o→(∀e∈bindsE o,L e=true)→∀j,c.testBit j=true→L j=true) →
  ∀(k:Nat) (c:Nat) (o:Oper),(clos r acc)[k]?=some c→ops[k]?=some o→(∀e∈bindsE o,L e=true)→∀j,c.testBit j=true→L j=true
 |[],pre,acc,_,_,h=>h
 |o::r,pre,acc,he,hl,h=>by
  refine clos_spec hL r (pre++[o]) _ (by simp[he]) (by simp[hl]) (fun k c o' hk ho hE j hj=>?_)
  rcases Nat.lt_or_ge k acc.length with hlt|hge
  ·rw[List.getElem?_append_left hlt]at hk
   exact h k c o' hk ho hE j hj
  ·rw[List.getElem?_append_right hge]at hk
   have hk0:k=acc.length:=by
    rcases Nat.lt_or_ge k (acc.length+1) with h|h
    ·omega
    ·rw[List.getElem?_eq_none (by simp;omega)]at hk;cases hk
   subst hk0
   simp at hk
   subst hk
   rcases foldl_testBit (bindsE o) 0 hj with h0|⟨e,h1,h2⟩
   ·simp at h0
   ·have ho':o'=o:=by
     rw[he,hl,List.getElem?_append_right (Nat.le_refl _)]at ho
     simp at ho;exact ho.symm
    subst ho'
    have hLe:=hE e h1
    rcases h2 with rfl|h2
    ·exact hLe
    ·rw[List.getD_eq_getElem?_getD]at h2
     cases hce:acc[e]? with
     |none=>rw[hce]at h2;simp at h2
     |some ce =>
      rw[hce]at h2
      have hlt:e<acc.length:=(List.getElem?_eq_some_iff.1 hce).1
      obtain⟨oe,hoe⟩:∃oe,ops[e]?=some oe:=⟨_,List.getElem?_eq_getElem (by rw[he,List.length_append];omega)⟩
      exact h e ce oe hce hoe (hL e oe hoe hLe) j h2
def maskOf (U D:List Nat)(cs:List Nat)(l:List Ins)(k:Nat):List Bool :=
 if(l.getD k default).qt U D=true then(List.range k).filterMap fun j=>if(l.getD j default).qt U D=false∧(cs.getD k 0).testBit j=false then some true else none
 else(List.range k).map fun p=>(l.getD (k-1-p) default).qt U D&&!(cs.getD k 0).testBit (k-1-p)
def masks (U D:List Nat)(ops:List Oper)(l:List Ins):List (List Bool):=(List.range l.length).map (maskOf U D (clos ops []) l)
def regOkG (U D:List Nat)(ops:List Oper)(l:List Ins):Bool :=
 decide (ops.length=l.length)&&l.all (fun x=>!x.op.odd) &&
 (List.range ops.length).all (fun i=>(bindsE (ops.getD i default)).all (fun e=>decide (e<i))) &&
 (List.range l.length).all (fun i=>(List.range l.length).all fun j=>match(l.getD j default).dst with
  |none=>true
  |some d=>(!((l.getD i default).slots.contains d)||(bindsE (ops.getD i default)).contains j||(decide (i<j)&&((clos ops []).getD j 0).testBit i))&&(decide (i=j)||decide ((l.getD i default).dst≠some d))) &&
 (List.range l.length).all (fun k=>(l.getD k default).qt U D||(List.range k).all fun j=>(l.getD j default).qt U D||((clos ops []).getD k 0).testBit j)
structure RegOkG (U D:List Nat) (ops:List Oper) (l:List Ins):Prop where
 len:ops.length=l.length
 odd:∀x∈l,x.op.odd=false
 back:∀(i:Nat) (o:Oper),ops[i]?=some o→∀e∈bindsE o,e<i
 hang:∀(i j:Nat) (x y:Ins) (o:Oper) (d:Nat),l[i]?=some x→l[j]?=some y→ops[i]?=some o→y.dst=some d→d∈x.slots→j∈bindsE o∨(i<j∧((clos ops []).getD j 0).testBit i=true)
 dist:∀(i j:Nat) (x y:Ins) (d:Nat),l[i]?=some x→l[j]?=some y→y.dst=some d→x.dst=some d→i=j
 chain:∀(j k:Nat) (x y:Ins),j<k→l[j]?=some x→l[k]?=some y→x.qt U D=false→y.qt U D=false→((clos ops []).getD k 0).testBit j=true
theorem regOkG_spec {ops:List Oper}{l:List Ins}(h:regOkG U D ops l=true):RegOkG U D ops l:=by
 simp only[regOkG,Bool.and_eq_true,decide_eq_true_eq,List.all_eq_true,List.mem_range,Bool.or_eq_true]at h
 obtain⟨⟨⟨⟨h2,h1⟩,h3⟩,h4⟩,h5⟩:=h
 have getl:∀(i:Nat) (x:Ins),l[i]?=some x→l.getD i default=x:=fun i x hx=>by simp[List.getD_eq_getElem?_getD,hx]
 have geto:∀(i:Nat) (x:Oper),ops[i]?=some x→ops.getD i default=x:=fun i x hx=>by simp[List.getD_eq_getElem?_getD,hx]
 have lt:∀(i:Nat) (x:Ins),l[i]?=some x→i<l.length:=fun i x hx=>(List.getElem?_eq_some_iff.1 hx).1
 refine⟨h2,fun x hx=>by simpa using h1 x hx,fun i o ho e he=>?_,fun i j x y o d hx hy ho hd hm=>?_,fun i j x y d hx hy hd hd'=>?_,fun j k x y hjk hx hy hqx hqy=>?_⟩
 ·have hlt:=(List.getElem?_eq_some_iff.1 ho).1
  exact h3 i hlt e (by rw[geto i o ho];exact he)
 ·have:=h4 i (lt i x hx) j (lt j y hy)
  rw[getl j y hy,hd]at this
  simp only[Bool.and_eq_true,Bool.or_eq_true]at this
  have h:=this.1
  rw[getl i x hx,geto i o ho]at h
  rcases h with(h|h)|h
  ·simp at h;exact absurd hm h
  ·exact .inl (by simpa using h)
  ·exact .inr ⟨by simpa using h.1,h.2⟩
 ·have:=h4 i (lt i x hx) j (lt j y hy)
  rw[getl j y hy,hd]at this
  simp only[Bool.and_eq_true,Bool.or_eq_true,decide_eq_true_eq]at this
  rcases this.2 with h|h
  ·exact h
  ·rw[getl i x hx]at h;exact absurd hd' h
 ·rcases h5 k (lt k y hy) with h|h
  ·rw[getl k y hy,hqy]at h;cases h
  ·rcases h j hjk with h|h
   ·rw[getl j x hx,hqx]at h;cases h
   ·exact h
theorem stv_congr {so:SOp}{env env':Env}{st:St}(h:∀s∈so.slots,look env s=look env' s):stv so env st=stv so env' st:=by
 cases so with
 |act g xs=>simp only[stv];rw[gets_congr (by simpa [SOp.slots] using h)]
 |alloc T z=>rfl
 |box T x=>simp only[stv];rw[Opd.get_congr (by simpa [SOp.slots] using h)]
 |store n a x =>
  simp only[SOp.slots,List.mem_append]at h
  simp only[stv];rw[Opd.get_congr (fun s hs=>h s (.inl hs)),Opd.get_congr (fun s hs=>h s (.inr hs))]
 |append e es bytes s x =>
  simp only[SOp.slots,List.mem_append]at h
  simp only[stv];rw[Opd.get_congr (fun s hs=>h s (.inl hs)),Opd.get_congr (fun s hs=>h s (.inr hs))]
 |bslice e es xs=>simp only[stv];rw[gets_congr (by simpa [SOp.slots] using h)]
 |mkslice e es bytes b z l c =>
  simp only[SOp.slots,List.mem_append]at h
  simp only[stv];rw[Opd.get_congr (fun s hs=>h s (.inl hs)),Opd.get_congr (fun s hs=>h s (.inr hs))]
 |cvsb e x=>simp only[stv];rw[Opd.get_congr (by simpa [SOp.slots] using h)]
 |_=>exact congrArg (Option.map fun v=>(v,st)) (evs_congr (st:=st) h)
theorem StepV_congr {i:Ins}{env env':Env}{st st':St}{v:V}(h:∀s∈i.slots,look env s=look env' s)(hq:StepV P i env st v st'):StepV P i env' st v st':=by
 simp only[Ins.slots,List.mem_append]at h
 have hw:wantV env i.g=wantV env' i.g:=by
  cases hg:i.g with
  |none=>rfl
  |some p =>
   simp only[wantV]
   rw[h p.1 (.inl (by simp[hg]))]
 unfold StepV at hq ⊢
 rw[←hw]
 refine hq.imp (fun⟨h1,h2⟩=>⟨h1,?_⟩) fun hh=>hh.imp (fun hh=>hh) fun⟨h1,wr,h2⟩=>⟨h1,wr,by rw[←stR_congr (fun s hs=>h s (.inr hs))];exact h2⟩
 cases hop:i.op with
 |call f args =>
  rw[hop]at h2
  have h3:∀s∈f.slots++args.flatMap Opd.slots,look env s=look env' s:=fun s hs=>h s (.inr (by rw[hop];exact hs))
  simp only[List.mem_append]at h3
  dsimp only at h2 ⊢
  rw[←Opd.get_congr (fun s hs=>h3 s (.inl hs)),←gets_congr (fun s hs=>h3 s (.inr hs))];exact h2
 |_ =>
  have:=stv_congr (st:=st) (so:=i.op) (fun s hs=>h s (.inr hs))
  rw[hop]at h2 this
  dsimp only at h2 ⊢
  rw[←this];exact h2
theorem stepv_sound {w:World}{A:Abs}{st:St}{a:Act}{env:Env}{ops:Array Oper}{k:Nat}{o:Oper}{i:Ins}(hk:ops[k]?=some o)(hi:compIns P N.n ops o=some i)(hg:∀d,i.g=some d→d.1<N.n)(hs:Sim w A st)(he:EnvSim w A a env)(hN:a.tmps.size=N.n)
  {d:V}{st':St} (h:StepV P i env st d st') {K':Act→World→Prop}{Q':Exit→Act→World→Prop}
  (hK:∀u w' A',Rep w' A' u d→Sim w' A' st'→Ext w A w' A'→K' (a.put i.dst u) w'):wpOp P ops Q' k K' a w:=by
 obtain⟨hc,hgd,hdst,hlt⟩:=compIns_inv hi
 unfold wpOp
 simp only[hk]
 rcases h with⟨hw,h⟩|⟨hw,rfl,rfl⟩|⟨hw,wr,h⟩
 ·rw[wanted_eq he hgd hw (fun d hd'=>by rw[hN];exact hg d hd')]
  simp only[if_true]
  refine .inl ?_
  unfold Oper.wp
  split at h
  ·rename_i f args hop
   rw[hop]at hc
   rcases call_sound hc hs he h with⟨kf,vs,hrun,hcalls⟩|⟨v,w',hrun,rr,A',s',⟨hR1,hR2⟩,hE,hs',hx⟩
   ·rw[hrun,Oper.upon_enter]
    refine hcalls.mono fun e w' ⟨rr,A',s',⟨hR1,hR2⟩,hE,hs',hx⟩=>?_
    subst hR1 hR2
    cases e with
    |returned v=>rw[hdst];exact hK _ _ A' hE hs' hx
    |panicked ch=>exact hE.elim
    |outgrown=>exact hE.elim
   ·subst hR1 hR2
    rw[hrun,Oper.upon_value,hdst]
    exact hK _ _ A' hE hs' hx
  ·obtain⟨nx,w',A',hrun,hnx,hs',hx⟩:=stv_sound hc hs he h
   rw[hrun]
   rcases hnx with⟨u,rfl,hu⟩|⟨rfl,rfl⟩
   ·rw[Oper.upon_value,hdst];exact hK u w' A' hu hs' hx
   ·rw[Oper.upon_skip,hdst];exact hK _ w' A' (.und _) hs' hx
 ·rw[wanted_eq he hgd hw (fun d hd'=>by rw[hN];exact hg d hd')]
  simp only[Bool.false_eq_true,if_false]
  rw[hdst]
  exact hK _ _ A rep_undef hs (Ext.refl w A)
 ·rw[wanted_eq he hgd hw (fun d hd'=>by rw[hN];exact hg d hd')]
  simp only[if_true]
  refine .inl ?_
  unfold Oper.wp
  obtain⟨nx,w',A',hrun,hnx,hs',hx⟩:=stR_sound hc hs he h
  rw[hrun]
  rcases hnx with⟨u,rfl,hu⟩|⟨rfl,rfl⟩
  ·rw[Oper.upon_value,hdst];exact hK u w' A' hu hs' hx
  ·rw[Oper.upon_skip,hdst];exact hK _ w' A' (.und _) hs' hx
def cntL (U D:List Nat):List Ins→(Nat→Bool)→Nat
 |[],_=>0
 |x::l,L=>(if x.qt U D=true then 0 else if L 0=true then 1 else 0)+cntL U D l fun j=>L (j+1)
theorem cntL_congr:∀{l:List Ins}{L L':Nat→Bool},(∀(j:Nat) (x:Ins),l[j]?=some x→x.qt U D=false→L j=L' j)→cntL U D l L=cntL U D l L'
 |[],_,_,_=>rfl
 |x::l,L,L',h=>by
  simp only[cntL]
  rw[cntL_congr (L:=fun j=>L (j+1)) (L':=fun j=>L' (j+1)) (fun j y hy hq=>h (j+1) y (by simpa using hy) hq)]
  by_cases hq:x.qt U D=true
  ·rw[if_pos hq,if_pos hq]
  ·rw[if_neg hq,if_neg hq,h 0 x rfl (by simpa using hq)]
theorem cntL_eq:∀{l:List Ins}{L:Nat→Bool}{t:Nat},(∀(j:Nat) (x:Ins),j<t→l[j]?=some x→x.qt U D=false→L j=true)→(∀(j:Nat) (x:Ins),t≤j→l[j]?=some x→x.qt U D=false→L j=false)→cntL U D l L=nzt U D l t
 |[],_,t,_,_=>by cases t<;>rfl
 |x::l,L,0,_,h2=>by
  have:=cntL_eq (l:=l) (L:=fun j=>L (j+1)) (t:=0) (fun j y hj=>by omega) (fun j y _ hy hq=>h2 (j+1) y (by omega) (by simpa using hy) hq)
  have e:nzt U D l 0=0:=by cases l<;>rfl
  simp only[cntL,this,e]
  have e2:nzt U D (x::l) 0=0:=rfl
  rw[e2]
  by_cases hq:x.qt U D=true
  ·rw[if_pos hq]
  ·rw[if_neg hq,h2 0 x (Nat.le_refl _) rfl (by simpa using hq)];simp
 |x::l,L,t+1,h1,h2=>by
  have:=cntL_eq (l:=l) (L:=fun j=>L (j+1)) (t:=t) (fun j y hj hy hq=>h1 (j+1) y (by omega) (by simpa using hy) hq) (fun j y hj hy hq=>h2 (j+1) y (by omega) (by simpa using hy) hq)
  simp only[cntL,this,nzt]
  by_cases hq:x.qt U D=true
  ·rw[if_pos hq,if_pos hq]
  ·rw[if_neg hq,if_neg hq,h1 0 x (by omega) rfl (by simpa using hq),if_pos rfl]
theorem nzt_succ:∀{l:List Ins}{k:Nat}{x:Ins},l[k]?=some x→nzt U D l (k+1)=nzt U D l k+if x.qt U D=true then 0 else 1
 |[],k,x,h=>by simp at h
 |y::l,0,x,h=>by
  simp at h;subst h
  have e:nzt U D l 0=0:=by cases l<;>rfl
  simp[nzt,e]
 |y::l,k+1,x,h=>by
  have:=nzt_succ (l:=l) (k:=k) (x:=x) (by simpa using h)
  simp only[nzt]at this ⊢
  omega
theorem nzt_mono {l : List Ins}{i j : Nat}(h : i ≤ j) : nzt U D l i ≤ nzt U D l j := by
  induction j with
  | zero => have : i = 0 := by omega
            subst this; exact Nat.le_refl _
  | succ j ih =>
    rcases Nat.lt_or_ge i (j + 1) with h' | h'
    · refine Nat.le_trans (ih (by omega)) ?_
      cases hx : l[j]? with
      | some x => rw [nzt_succ (U := U) (D := D) hx]; omega
      | none =>
        have hl : l.length ≤ j := by simpa using hx
        have e : ∀ k, l.length ≤ k → nzt U D l k = nzt U D l l.length := by
          intro k hk
          clear hx h' ih h
          induction l generalizing k with
          | nil => cases k <;> rfl
          | cons y l ih2 =>
            cases k with
            | zero => simp at hk
            | succ k => simp only [nzt, List.length_cons]; rw [ih2 (by simp at hl hk; omega) k (by simpa using hk)]
        rw [e j hl, e (j + 1) (by omega)]; exact Nat.le_refl _
    · have : i = j + 1 := by omega
      subst this; exact Nat.le_refl _
theorem exists_last {l : List Ins} : ∀ (t k : Nat), t ≤ l.length → nzt U D l k < nzt U D l t → ∃ m y, k ≤ m ∧ m < t ∧ l[m]? = some y ∧ y.qt U D = false ∧ nzt U D l m + 1 = nzt U D l t
  | 0, k, _, h => by have e : nzt U D l 0 = 0 := by cases l <;> rfl
                     omega
  | t + 1, k, ht, h => by
    have hlt : t < l.length := by omega
    have hx : l[t]? = some l[t] := List.getElem?_eq_getElem hlt
    have e := nzt_succ (U := U) (D := D) hx
    by_cases hq : l[t].qt U D = true
    · rw [if_pos hq] at e
      obtain ⟨m, y, h1, h2, h3, h4, h5⟩ := exists_last (l := l) t k (by omega) (by omega)
      exact ⟨m, y, h1, by omega, h3, h4, by omega⟩
    · rw [if_neg hq] at e
      refine ⟨t, l[t], ?_, Nat.lt_succ_self _, hx, by simpa using hq, by omega⟩
      rcases Nat.lt_or_ge t k with h' | h'
      · have := nzt_mono (U := U) (D := D) (l := l) (show t + 1 ≤ k by omega); omega
      · exact h'
theorem any_soundG {ops : Array Oper}{l : List Ins}(hr : RegOkG U D ops.toList l)(hc : compAll P N.n ops ops.toList = some l)(hg : guardsOk N.n l = true){Q : Post}{w0 : World}{A0 : Abs}{st0 : St}{env0 : Env}{vals : List V}{sts : List St}
    (hv : GVals P U D (Q .normal) l (masks U D ops.toList l) env0 st0 [] [] vals sts) :
    ∀ (fuel : Nat) (listed : Array Bool) (a : Act) (w : World) (A : Abs) (st : St), unl listed l.length = fuel → listed.size = l.length → (∀ (i : Nat) (o : Oper), ops[i]? = some o → listed.getD i false = true → ∀ e ∈ bindsE o, listed.getD e false = true) →
    sts[cntL U D l fun j => listed.getD j true]? = some st →
    Sim w A st → EnvSim w A a (envSel (pairs l vals) (fun j => listed.getD j true) 0 env0) → a.tmps.size = N.n → a.defers = N.D → Ext w0 A0 w A → wpAny P .any ops (lift N w0 A0 Q) fuel listed a w := by
  intro fuel
  have hlen : ops.size = l.length := by have := hr.len; simpa using this
  have hvl := hv.len
  have hpget : ∀ (i : Nat) (x : Ins) (v : V), l[i]? = some x → vals[i]? = some v → (pairs l vals)[i]? = some (x.dst, v) := by
    intro i x v h1 h2
    simp only [pairs]
    rw [List.getElem?_zip_eq_some]
    exact ⟨by rw [List.getElem?_map, h1]; rfl, h2⟩
  have hpinv : ∀ (i : Nat) (d : Option Nat) (v : V), (pairs l vals)[i]? = some (d, v) → ∃ x, l[i]? = some x ∧ x.dst = d ∧ vals[i]? = some v := by
    intro i d v h
    simp only [pairs] at h
    rw [List.getElem?_zip_eq_some] at h
    obtain ⟨h1, h2⟩ := h
    rw [List.getElem?_map] at h1
    obtain ⟨x, hx, e⟩ := Option.map_eq_some_iff.1 h1
    exact ⟨x, hx, e, h2⟩
  have uniq : ∀ (i j : Nat) (s : Nat) (u v : V), (pairs l vals)[i]? = some (some s, u) → (pairs l vals)[j]? = some (some s, v) → i = j := by
    intro i j s u v h1 h2
    obtain ⟨x, x1, x2, _⟩ := hpinv i _ _ h1
    obtain ⟨y, y1, y2, _⟩ := hpinv j _ _ h2
    exact hr.dist i j x y s x1 y1 y2 x2
  have lenp : (pairs l vals).length = l.length := by simp [pairs, hvl]
  induction fuel with
  | zero =>
    intro listed a w A st hu hsz hcl hst hs he hN hd hx
    have hall : ∀ j, j < l.length → listed.getD j true = true := by
      intro j hj
      cases h : listed.getD j true with
      | true => rfl
      | false =>
        exfalso
        have : j ∈ (List.range l.length).filter fun j => !listed.getD j true := List.mem_filter.2 ⟨List.mem_range.2 hj, by simp [h]⟩
        unfold unl at hu
        rw [List.eq_nil_of_length_eq_zero hu] at this
        cases this
    have hcnt : cntL U D l (fun j => listed.getD j true) = nzt U D l l.length := cntL_eq (fun j x hj _ _ => hall j hj) (fun j x hj hx => by
      have := (List.getElem?_eq_some_iff.1 hx).1; omega)
    rw [hcnt] at hst
    have hfin := hv.fin st hst
    have henv := envSel_eq (pairs l vals) (fun j => listed.getD j true) (fun _ => true) 0 env0 (fun j hj => by simp only [Nat.zero_add]; exact hall j (by omega))
    rw [henv] at he
    refine ⟨?_, A, _, st, hfin, hs, he, hN, hd, hx⟩
    apply List.eq_nil_iff_forall_not_mem.2
    intro j hj
    obtain ⟨h1, o, h2, _⟩ := ready_iff.1 hj
    have hlt : j < l.length := by have := (Array.getElem?_eq_some_iff.1 h2).1; omega
    rw [hall j hlt] at h1
    cases h1
  | succ fuel ih =>
    intro listed a w A st hu hsz hcl hst hs he hN hd hx
    have hex : ∃ i, i < l.length ∧ (!listed.getD i true) = true := by
      unfold unl at hu
      obtain ⟨i, hi⟩ := List.exists_mem_of_length_pos (l := (List.range l.length).filter fun j => !listed.getD j true) (by omega)
      obtain ⟨h1, h2⟩ := List.mem_filter.1 hi
      exact ⟨i, List.mem_range.1 h1, h2⟩
    obtain ⟨i0, g1, g2, g3⟩ := exists_first _ l.length hex
    have g2' : listed.getD i0 true = false := by simpa using g2
    have hready : i0 ∈ Region.ready .any ops listed := by
      refine ready_iff.2 ⟨g2', _, Array.getElem?_eq_getElem (by omega), fun e he' => ?_⟩
      have hb := hr.back i0 _ (by simp [show i0 < ops.size by omega]) e he'
      rw [getD_same (d' := true) (by omega)]
      have := g3 e hb
      simpa using this
    refine ⟨(fun h0 => by rw [h0] at hready; cases hready), fun i hi => ?_⟩
    obtain ⟨h1, o, h2, h3⟩ := ready_iff.1 hi
    have hil : i < l.length := by have := (Array.getElem?_eq_some_iff.1 h2).1; omega
    have hsel : ∀ j, (listed.setIfInBounds i true).getD j true = if j = i then true else listed.getD j true := fun j => getD_set (by omega) true
    have hself : ∀ j, (listed.setIfInBounds i true).getD j false = if j = i then true else listed.getD j false := fun j => getD_set (by omega) false
    obtain ⟨x, hxl⟩ : ∃ x, l[i]? = some x := ⟨_, List.getElem?_eq_getElem hil⟩
    obtain ⟨v, hvv⟩ : ∃ v, vals[i]? = some v := ⟨_, List.getElem?_eq_getElem (by omega)⟩
    have hfl : ∀ j, j < l.length → listed.getD j false = listed.getD j true := fun j hj => getD_same (by omega) _ _
    -- what lies in the closure of something listed is listed
    have hclo : ∀ (k : Nat) (o' : Oper), ops[k]? = some o' → (∀ e ∈ bindsE o', listed.getD e false = true) → ∀ j, ((clos ops.toList []).getD k 0).testBit j = true → listed.getD j false = true := by
      intro k o' ho' hE j hj
      rw [List.getD_eq_getElem?_getD] at hj
      cases hck : (clos ops.toList [])[k]? with
      | none => rw [hck] at hj; simp at hj
      | some c =>
        rw [hck] at hj
        exact clos_spec (L := fun j => listed.getD j false) (ops := ops.toList) (fun i o h => hcl i o (by simpa using h)) ops.toList [] [] rfl rfl (fun k c o h => by simp at h) k c o' hck (by simpa using ho') hE j hj
    have hcl' : ∀ (i' : Nat) (o' : Oper), ops[i']? = some o' → (listed.setIfInBounds i true).getD i' false = true → ∀ e ∈ bindsE o', (listed.setIfInBounds i true).getD e false = true := by
      intro i' o' ho' hl' e he'
      rw [hself] at hl' ⊢
      split at hl'
      · rename_i e1; subst e1
        rw [h2] at ho'; cases ho'
        split
        · rfl
        · exact h3 e he'
      · split
        · rfl
        · exact hcl i' o' ho' hl' e he'
    have hput : ∀ (u : Value) (w' : World) (A' : Abs) (d : V), Rep w' A' u d → (∀ s, x.dst = some s → d = v) → Ext w A w' A' → EnvSim w' A' (a.put x.dst u) (envSel (pairs l vals) (fun j => (listed.setIfInBounds i true).getD j true) 0 env0) := by
      intro u w' A' d hu' hdv hx' s z hz
      have hdlt : ∀ d, x.dst = some d → d < N.n := (compIns_inv ((compAll_get hc).2 i o x (by simpa using h2) hxl)).2.2.2
      by_cases hsd : x.dst = some s
      · have hp := hpget i x v hxl hvv
        rw [hsd] at hp
        rw [envSel_hit (i := i) hp (by simp only [Nat.zero_add]; rw [hsel]; simp) (fun j u hj => uniq j i s u v hj hp)] at hz
        cases hz
        have := (he.mono hx').put (d := x.dst) (fun d hd' => by rw [hN]; exact hdlt d hd') hu'
        rw [hdv s hsd] at this
        exact this s v (by rw [look_setD, if_pos hsd])
      · have heq : look (envSel (pairs l vals) (fun j => (listed.setIfInBounds i true).getD j true) 0 env0) s = look (envSel (pairs l vals) (fun j => listed.getD j true) 0 env0) s := by
          refine envSel_congr rfl (fun j u hj => ?_)
          simp only [Nat.zero_add]
          rw [hsel]
          by_cases hji : j = i
          · subst hji
            obtain ⟨y, y1, y2, _⟩ := hpinv j _ _ hj
            rw [hxl] at y1; cases y1
            exact absurd y2 hsd
          · rw [if_neg hji]
        rw [heq] at hz
        have := (he.mono hx').put (d := x.dst) (fun d hd' => by rw [hN]; exact hdlt d hd') hu'
        exact this s z (by rw [look_setD, if_neg hsd]; exact hz)
    have hlook : ∀ s ∈ x.slots, look (envAt l vals env0 i) s = look (envSel (pairs l vals) (fun j => listed.getD j true) 0 env0) s := by
      intro s hsl
      refine envSel_congr rfl (fun j u hj => ?_)
      obtain ⟨y, y1, y2, y3⟩ := hpinv j _ _ hj
      have hb := hr.hang i j x y o s hxl y1 (by simpa using h2) y2 hsl
      rcases hb with hb | ⟨hb, hcj⟩
      · have hlt := hr.back i o (by simpa using h2) j hb
        have hlj := h3 j hb
        rw [getD_same (d' := true) (by omega)] at hlj
        simp only [Nat.zero_add, hlj]
        simpa using hlt
      · have hjl : j < l.length := (List.getElem?_eq_some_iff.1 y1).1
        have hlj : listed.getD j true = false := by
          cases e : listed.getD j true with
          | false => rfl
          | true =>
            exfalso
            obtain ⟨o', ho'⟩ : ∃ o', ops[j]? = some o' := ⟨_, Array.getElem?_eq_getElem (by omega)⟩
            have := hclo j o' ho' (hcl j o' ho' (by rw [hfl j hjl]; exact e)) i hcj
            rw [hfl i hil, h1] at this
            cases this
        simp only [Nat.zero_add, hlj, decide_eq_false_iff_not]
        omega
    -- the changes of the state that are listed: those ahead of t
    obtain ⟨t, ht0, ht1, ht2⟩ : ∃ t, t ≤ l.length ∧ (∀ (j : Nat) (y : Ins), j < t → l[j]? = some y → y.qt U D = false → listed.getD j true = true) ∧ (∀ (j : Nat) (y : Ins), t ≤ j → l[j]? = some y → y.qt U D = false → listed.getD j true = false) := by
      by_cases hq : ∃ j, j < l.length ∧ (!(l.getD j default).qt U D && !listed.getD j true) = true
      · obtain ⟨t, q1, q2, q3⟩ := exists_first _ l.length hq
        simp only [Bool.and_eq_true, Bool.not_eq_true'] at q2
        refine ⟨t, by omega, fun j y hj hy hqy => ?_, fun j y hj hy hqy => ?_⟩
        · have := q3 j hj
          rw [List.getD_eq_getElem?_getD, hy] at this
          simpa [hqy] using this
        · rcases Nat.lt_or_ge t j with hlt | hge
          · cases hlj : listed.getD j true with
            | false => rfl
            | true =>
              exfalso
              have hjl : j < l.length := (List.getElem?_eq_some_iff.1 hy).1
              obtain ⟨z, hz⟩ : ∃ z, l[t]? = some z := ⟨_, List.getElem?_eq_getElem q1⟩
              have hqz : z.qt U D = false := by have := q2.1; rw [List.getD_eq_getElem?_getD, hz] at this; exact this
              have hch := hr.chain t j z y hlt hz hy hqz hqy
              obtain ⟨o', ho'⟩ : ∃ o', ops[j]? = some o' := ⟨_, Array.getElem?_eq_getElem (by omega)⟩
              have := hclo j o' ho' (hcl j o' ho' (by rw [hfl j hjl]; exact hlj)) t hch
              rw [hfl t q1, q2.2] at this
              cases this
          · have : j = t := by omega
            subst this; exact q2.2
      · refine ⟨l.length, Nat.le_refl _, fun j y hj hy hqy => ?_, fun j y hj hy => by have := (List.getElem?_eq_some_iff.1 hy).1; omega⟩
        cases hlj : listed.getD j true with
        | true => rfl
        | false => exact absurd ⟨j, hj, by rw [List.getD_eq_getElem?_getD, hy]; simp [hqy, hlj]⟩ hq
    have hcnt : cntL U D l (fun j => listed.getD j true) = nzt U D l t := cntL_eq ht1 ht2
    rw [hcnt] at hst
    by_cases hq : x.qt U D = true
    · -- a quiet one
      have hQ : QVr P (x, envAt l vals env0 i, v) st := by
        rcases Nat.lt_or_ge (nzt U D l i) (nzt U D l t) with hlt | hge
        · -- later than its own place
          obtain ⟨m, y, m1, m2, m3, m4, m5⟩ := exists_last (U := U) (D := D) t i ht0 hlt
          have him : i < m := by
            rcases Nat.lt_or_ge i m with h | h
            · exact h
            · have : m = i := by omega
              subst this; rw [hxl] at m3; cases m3; rw [hq] at m4; cases m4
          have hlm := ht1 m y m2 m3 m4
          have hml : m < l.length := (List.getElem?_eq_some_iff.1 m3).1
          obtain ⟨o', ho'⟩ : ∃ o', ops[m]? = some o' := ⟨_, Array.getElem?_eq_getElem (by omega)⟩
          have hnb : ((clos ops.toList []).getD m 0).testBit i = false := by
            cases hb : ((clos ops.toList []).getD m 0).testBit i with
            | false => rfl
            | true =>
              have := hclo m o' ho' (hcl m o' ho' (by rw [hfl m hml]; exact hlm)) i hb
              rw [hfl i hil, h1] at this; cases this
          refine (hv.later m y st m3 m4 (by rw [m5]; exact hst)).1 i x v him hxl hvv hq ?_
          have hmk : (masks U D ops.toList l)[m]? = some (maskOf U D (clos ops.toList []) l m) := by
            unfold masks
            rw [List.getElem?_map, List.getElem?_range hml]; rfl
          rw [hmk, Option.getD_some]
          unfold maskOf
          have e1 : l.getD m default = y := by rw [List.getD_eq_getElem?_getD, m3]; rfl
          rw [e1, m4]
          simp only [Bool.false_eq_true, if_false]
          rw [List.getElem?_map, List.getElem?_range (by omega)]
          have e2 : m - 1 - (m - 1 - i) = i := by omega
          have e3 : l.getD i default = x := by rw [List.getD_eq_getElem?_getD, hxl]; rfl
          simp only [Option.map_some, e2, e3, hq, hnb, Bool.true_and, Bool.not_false]
        · -- at its own place or earlier
          refine hv.quiet i x v hxl hvv hq st ?_
          have hmk : (masks U D ops.toList l)[i]? = some (maskOf U D (clos ops.toList []) l i) := by
            unfold masks
            rw [List.getElem?_map, List.getElem?_range hil]; rfl
          rw [hmk, Option.getD_some, List.append_nil]
          have hbound : nzt U D l i - nzt U D l t ≤ (maskOf U D (clos ops.toList []) l i).length := by
            unfold maskOf
            have e3 : l.getD i default = x := by rw [List.getD_eq_getElem?_getD, hxl]; rfl
            rw [e3, hq]
            simp only [if_true]
            have key : ∀ k, k ≤ i → nzt U D l k - nzt U D l t ≤ ((List.range k).filterMap fun j => if (l.getD j default).qt U D = false ∧ ((clos ops.toList []).getD i 0).testBit j = false then some true else none).length := by
              intro k
              induction k with
              | zero => intro _; have e : nzt U D l 0 = 0 := by cases l <;> rfl
                        omega
              | succ k ihk =>
                intro hk
                have hk' := ihk (by omega)
                obtain ⟨y, hy⟩ : ∃ y, l[k]? = some y := ⟨_, List.getElem?_eq_getElem (by omega)⟩
                have e := nzt_succ (U := U) (D := D) hy
                rw [List.range_succ, List.filterMap_append, List.length_append]
                by_cases hqy : y.qt U D = true
                · rw [if_pos hqy] at e; omega
                · rw [if_neg hqy] at e
                  rcases Nat.lt_or_ge k t with hkt | hkt
                  · have := nzt_mono (U := U) (D := D) (l := l) (show k + 1 ≤ t by omega); omega
                  · have hnl := ht2 k y hkt hy (by simpa using hqy)
                    have hnb : ((clos ops.toList []).getD i 0).testBit k = false := by
                      cases hb : ((clos ops.toList []).getD i 0).testBit k with
                      | false => rfl
                      | true =>
                        have := hclo i o h2 h3 k hb
                        rw [hfl k (by omega), hnl] at this; cases this
                    have e4 : l.getD k default = y := by rw [List.getD_eq_getElem?_getD, hy]; rfl
                    simp only [List.filterMap_cons, List.filterMap_nil, e4]
                    rw [if_pos ⟨by simpa using hqy, hnb⟩]
                    simp only [List.length_cons, List.length_nil]
                    omega
            exact key i (Nat.le_refl _)
          have hsl : nzt U D l i + 1 ≤ sts.length := by
            rw [hv.slen]
            have := nzt_mono (U := U) (D := D) (l := l) (show i ≤ l.length by omega)
            omega
          refine List.mem_of_getElem? (i := nzt U D l i - nzt U D l t) ?_
          rw [List.getElem?_take_of_lt (by omega), List.getElem?_reverse (by rw [List.length_take]; omega), List.getElem?_take_of_lt (by rw [List.length_take]; omega), List.length_take]
          rw [show min (nzt U D l i + 1) sts.length - 1 - (nzt U D l i - nzt U D l t) = nzt U D l t by omega]
          exact hst
      obtain ⟨d, hd1, hd2⟩ := hQ
      have hq' : QV P x (envSel (pairs l vals) (fun j => listed.getD j true) 0 env0) st d := QV_congr hlook hd1
      refine qv_sound h2 ((compAll_get hc).2 i o x (by simpa using h2) hxl) (guardsOk_get hg hxl) hs he hN hq' (fun u w' A' hu' hs' hx' => ?_)
      refine ih _ _ w' A' st (by have := unl_set hil (by omega) h1; omega) (by simpa using hsz) hcl' ?_ hs' (hput u w' A' d hu' hd2 hx') (by rw [put_size]; exact hN) (by rw [put_defers]; exact hd) (hx.trans hx')
      rw [← hst, ← hcnt]
      congr 1
      refine cntL_congr (fun j y hy hqy => ?_)
      rw [hsel, if_neg (fun e => by subst e; rw [hxl] at hy; cases hy; rw [hq] at hqy; cases hqy)]
    · -- a change of the state
      have hqf : x.qt U D = false := by simpa using hq
      have hti : nzt U D l t = nzt U D l i ∧ (∀ (j : Nat) (y : Ins), j < i → l[j]? = some y → y.qt U D = false → listed.getD j true = true) ∧ (∀ (j : Nat) (y : Ins), i < j → l[j]? = some y → y.qt U D = false → listed.getD j true = false) := by
        have a1 : ∀ (j : Nat) (y : Ins), j < i → l[j]? = some y → y.qt U D = false → listed.getD j true = true := fun j y hj hy hqy => by
          have := hclo i o h2 h3 j (hr.chain j i y x hj hy hxl hqy hqf)
          rw [hfl j (by omega)] at this; exact this
        have a2 : ∀ (j : Nat) (y : Ins), i < j → l[j]? = some y → y.qt U D = false → listed.getD j true = false := fun j y hj hy hqy => by
          cases hlj : listed.getD j true with
          | false => rfl
          | true =>
            have hjl : j < l.length := (List.getElem?_eq_some_iff.1 hy).1
            obtain ⟨o', ho'⟩ : ∃ o', ops[j]? = some o' := ⟨_, Array.getElem?_eq_getElem (by omega)⟩
            have := hclo j o' ho' (hcl j o' ho' (by rw [hfl j hjl]; exact hlj)) i (hr.chain i j x y hj hxl hy hqf hqy)
            rw [hfl i hil, h1] at this; cases this
        refine ⟨?_, a1, a2⟩
        rw [← hcnt]
        refine cntL_eq a1 (fun j y hj hy hqy => ?_)
        rcases Nat.lt_or_ge i j with h | h
        · exact a2 j y h hy hqy
        · have : j = i := by omega
          subst this; exact h1
      obtain ⟨e1, a1, a2⟩ := hti
      rw [e1] at hst
      have hsl : nzt U D l i + 1 < sts.length := by
        rw [hv.slen]
        have := nzt_mono (U := U) (D := D) (l := l) (show i + 1 ≤ l.length by omega)
        rw [nzt_succ (U := U) (D := D) hxl, if_neg hq] at this
        omega
      obtain ⟨st', hst'⟩ : ∃ st', sts[nzt U D l i + 1]? = some st' := ⟨_, List.getElem?_eq_getElem hsl⟩
      obtain ⟨v0, hstep, hv0⟩ := hv.step i x v st st' hxl hqf hvv hst hst'
      have hstep := StepV_congr hlook hstep
      refine stepv_sound h2 ((compAll_get hc).2 i o x (by simpa using h2) hxl) (guardsOk_get hg hxl) hs he hN hstep (fun u w' A' hu' hs' hx' => ?_)
      refine ih _ _ w' A' st' (by have := unl_set hil (by omega) h1; omega) (by simpa using hsz) hcl' ?_ hs' (hput u w' A' v0 hu' hv0 hx') (by rw [put_size]; exact hN) (by rw [put_defers]; exact hd) (hx.trans hx')
      rw [← hst']
      congr 1
      rw [cntL_eq (t := i + 1) (fun j y hj hy hqy => ?_) (fun j y hj hy hqy => ?_), nzt_succ (U := U) (D := D) hxl, if_neg hq]
      · rw [hsel]
        split
        · rfl
        · exact a1 j y (by omega) hy hqy
      · rw [hsel, if_neg (by omega)]; exact a2 j y (by omega) hy hqy
theorem W_greg (hm:P.follows .mixedOrders=true){id:Nat}{ops:Array Oper}{l:List Ins}(hc:compAll P N.n ops ops.toList=some l)(hg:guardsOk N.n l=true)(hr:regOkG U D ops.toList l=true){env:Env}{st:St}{Q:Post}
  (h:vcG P U D (Q .normal) l (masks U D ops.toList l) env st [] []):W P N (.region id ops true) env st Q:=by
 intro w A a hs he hN hd
 have hr':=regOkG_spec hr
 obtain⟨vals,sts,g⟩:=vcG_vals hr'.odd h
 have hlen:ops.size=l.length:=by have:=hr'.len;simpa using this
 refine wp_region_any hm ?_
 have hx:Ext w A { w with drawn:=w.drawn+1 } A:=Ext.drewN w A _
 have hs1:Sim { w with drawn:=w.drawn+1 } A st:=by
  refine⟨hs.nx,fun id cs h=>(hs.mem id cs h).of_heap hx (hs.mem id cs h).own rfl (hs.mem id cs h).noC,fun id ar h=>(hs.arr id ar h).of_heap hx rfl (fun g hg=>⟨hg,rfl,fun _=>Iff.rfl⟩),hs.Clt,hs.ownlt,hs.disj,hs.x.same hx rfl hs.ownlt (fun _ _=>rfl) (fun _ _ h _=>h) (fun _ _ _ h=>h) (fun _ _ h=>h) (fun _ _ h=>h)⟩
 have hfalse:∀j,j<l.length→(Array.replicate ops.size false).getD j true=false:=fun j hj=>by
  simp[hlen,hj]
 have hfalse':∀j,(Array.replicate ops.size false).getD j false=false:=fun j=>by
  simp only[Array.getD_eq_getD_getElem?,Array.getElem?_replicate]
  split<;>rfl
 have henv:envSel (pairs l vals) (fun j=>(Array.replicate ops.size false).getD j true) 0 env=env:=by
  have e:=envSel_eq (pairs l vals) (fun j=>(Array.replicate ops.size false).getD j true) (fun _=>false) 0 env (fun j hj=>by
   simp only[Nat.zero_add];exact hfalse j (by simp[pairs]at hj;omega))
  rw[e]
  have none:∀(ps:List (Option Nat×V)) (k:Nat) (env:Env),envSel ps (fun _=>false) k env=env:=by
   intro ps
   induction ps with
   |nil=>intro _ _;rfl
   |cons p ps ih=>intro k env;simp only[envSel];exact ih _ _
  exact none _ _ _
 have hc0:cntL U D l (fun j=>(Array.replicate ops.size false).getD j true)=0:=by
  rw[cntL_eq (t:=0) (fun j y hj=>by omega) (fun j y _ hy _=>hfalse j (List.getElem?_eq_some_iff.1 hy).1)]
  cases l<;>rfl
 refine any_soundG (w0:=w) (A0:=A) hr' hc hg g ops.size _ a _ A st ?_ (by simp[hlen]) (fun i o _ hl=>by rw[hfalse']at hl;cases hl) (by rw[hc0];exact g.first) hs1 (by rw[henv];exact he.mono hx) hN hd hx
 unfold unl
 rw[List.filter_eq_self.2 (fun j hj=>by rw[hfalse j (List.mem_range.1 hj)];rfl)]
 simp[hlen]
end
end Go.Sha
