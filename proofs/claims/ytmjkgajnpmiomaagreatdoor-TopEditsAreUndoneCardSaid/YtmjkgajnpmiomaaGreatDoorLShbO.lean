/- Regions. -/
import Derived.Test.YtmjkgajnpmiomaaGreatDoorLShbN
set_option linter.unusedSimpArgs false
set_option linter.unusedVariables false
namespace Go.Sha
section
variable {P:Program}{N:Fr}
theorem Good.mono {w0 w1:World}{A0 A1:Abs}{R R':Env→St→Prop}{a:Act}{w:World}(hx:Ext w0 A0 w1 A1)(h:Good N w1 A1 R a w)(hr:∀e s,R e s→R' e s):Good N w0 A0 R' a w:=by
 obtain⟨A,env,st,h1,h2,h3,h4,h5,h6⟩:=h
 exact⟨A,env,st,hr _ _ h1,h2,h3,h4,h5,hx.trans h6⟩
theorem PanGood.mono {w0 w1:World}{A0 A1:Abs}{R R':V→Env→St→Prop}{ch:List PanicEntry}{a:Act}{w:World}(hx:Ext w0 A0 w1 A1)(h:PanGood N w1 A1 R ch a w)(hr:∀v e s,R v e s→R' v e s):PanGood N w0 A0 R' ch a w:=by
 obtain⟨A,env,st,v,d,h0,h1,h2,h3,h4,h5,h6,h7⟩:=h
 exact⟨A,env,st,v,d,h0,h1,hr _ _ _ h2,h3,h4,h5,h6,hx.trans h7⟩
def lift (N:Fr)(w0:World)(A0:Abs)(Q:Post):Exit→Act→World→Prop
 | .normal,a,w=>Good N w0 A0 (Q .normal) a w
 | .exit id,a,w=>Good N w0 A0 (Q (.exit id)) a w
 | .ret,a,w=>Good N w0 A0 (Q .ret) a w
 | .panic ch,a,w=>PanGood N w0 A0 (fun v=>Q (.pan v)) ch a w
 |_,_,_=>False
theorem lift_mono {w0 w1:World}{A0 A1:Abs}{Q Q':Post}(hx:Ext w0 A0 w1 A1)(hq:∀x e s,Q x e s→Q' x e s):∀e a w,lift N w1 A1 Q e a w→lift N w0 A0 Q' e a w
 | .normal,_,_,h=>Good.mono hx h (hq _)
 | .exit _,_,_,h=>Good.mono hx h (hq _)
 | .ret,_,_,h=>Good.mono hx h (hq _)
 | .panic _,_,_,h=>PanGood.mono hx h (fun _=>hq _)
 | .goto _,_,_,h=>h.elim
 | .outgrown,_,_,h=>h.elim
def W (P:Program)(N:Fr)(c:Code)(env:Env)(st:St)(Q:Post):Prop :=
 ∀w A a,Sim w A st→EnvSim w A a env→a.tmps.size=N.n→a.defers=N.D→c.wp P (lift N w A Q) a w
def guardsOk (N:Nat)(l:List Ins):Bool:=l.all fun i=>match i.g with
 |some (d,_)=>decide (d<N)
 |none=>true
theorem guardsOk_cons {i:Ins}{l:List Ins}(h:guardsOk N.n (i::l)=true):(∀d,i.g=some d→d.1<N.n)∧guardsOk N.n l=true:=by
 simp only[guardsOk,List.all_cons,Bool.and_eq_true]at h
 refine⟨fun d hd=>?_,h.2⟩
 have:=h.1
 rw[hd]at this
 simpa using this
theorem ops_sound {ops:Array Oper}{Q:Post}{w0:World}{A0:Abs}:∀(os:List Oper) (l:List Ins) (k:Nat) (env:Env) (st:St) (w:World) (A:Abs) (a:Act),compAll P N.n ops os=some l→guardsOk N.n l=true→(∀(j:Nat),os[j]?=ops[k+j]?) →
  Sim w A st→EnvSim w A a env→a.tmps.size=N.n→a.defers=N.D→Ext w0 A0 w A→vcOps P l env st Q→wpOps P ops (lift N w0 A0 Q) (List.range' k os.length) a w
 |[],l,k,env,st,w,A,a,hc,_,_,hs,he,hN,hd,hx,h=>by
  simp[compAll]at hc;subst hc
  simp only[vcOps]at h
  exact⟨A,env,st,h,hs,he,hN,hd,hx⟩
 |o::os,l,k,env,st,w,A,a,hc,hg,hk,hs,he,hN,hd,hx,h=>by
  simp only[compAll]at hc
  split at hc
  ·rename_i i l' hi hl
   cases hc
   obtain⟨g1,g2⟩:=guardsOk_cons hg
   rw[List.length_cons,List.range'_succ,wpOps_cons]
   refine ins_sound (by have:=hk 0;simpa using this.symm) hi g1 hs he hN hd h (fun a' w' hG=>?_) (fun ch a' w' hP=>?_)
   ·obtain⟨A',env',st',q1,q2,q3,q4,q5,q6⟩:=hG
    exact ops_sound os l' (k+1) env' st' w' A' a' hl g2 (fun j=>by have:=hk (j+1);simp at this;rw[this];congr 1;omega) q2 q3 q4 q5 (hx.trans q6) q1
   ·exact PanGood.mono hx hP (fun _ _ _ h=>h)
  ·cases hc
theorem W_region {id:Nat}{ops:Array Oper}{l:List Ins}(hc:compAll P N.n ops ops.toList=some l)(hg:guardsOk N.n l=true){env:Env}{st:St}{Q:Post}(h:vcOps P l env st Q):W P N (.region id ops false) env st Q:=by
 intro w A a hs he hN hd
 refine wp_region ?_
 have:=ops_sound (w0:=w) (A0:=A) ops.toList l 0 env st w A a hc hg (by simp) hs he hN hd (Ext.refl w A) h
 simpa [List.range_eq_range'] using this
def Opd.slots:Opd→List Nat
 | .t i=>[i]
 | .c _=>[]
def optSlots:Option Opd→List Nat
 |some o=>o.slots
 |none=>[]
def SOp.slots:SOp→List Nat
 | .mv x | .box _ x | .nilc x | .un _ x | .fadr _ x | .fld _ _ x | .ext _ x | .lens x | .len x | .mkif _ x | .cvi _ x | .cvis x | .cvss x | .cvsb _ x | .cvbs x | .load _ x | .panic x=>x.slots
 | .pick c a b=>c.slots++a.slots++b.slots
 | .alloc ..=>[]
 | .build _ parts=>parts.flatMap fun p=>p.2.2.slots
 | .store _ a x | .append _ _ _ a x | .bin _ a x | .eqb _ a x | .eqs _ _ a x | .iadr _ a x | .iadra _ _ a x | .ichr a x | .mkslice _ _ _ _ _ a x=>a.slots++x.slots
 | .slices x lo hi=>x.slots++optSlots lo++optSlots hi
 | .slice _ x lo hi mx=>x.slots++optSlots lo++optSlots hi++optSlots mx
 | .mkfn _ a b=>a.flatMap Opd.slots++b.flatMap Opd.slots
 | .bslice _ _ xs=>xs.flatMap Opd.slots
 | .call f args=>f.slots++args.flatMap Opd.slots
 | .nilk _ x=>x.slots
 | .nxt x=>x.slots
 | .gen _ xs=>xs.flatMap Opd.slots
 | .act _ xs=>xs.flatMap Opd.slots
 | .eqi .. | .iarr ..=>[]
theorem Opd.get_congr {env env':Env}{x:Opd}(h:∀s∈x.slots,look env s=look env' s):x.get env=x.get env':=by
 cases x with
 |t i=>simp only[Opd.get];rw[h i (by simp[Opd.slots])]
 |c v=>rfl
theorem gets_congr {env env':Env}:∀{xs:List Opd},(∀s∈xs.flatMap Opd.slots,look env s=look env' s)→xs.map (·.get env)=xs.map (·.get env')
 |[],_=>rfl
 |x::xs,h=>by
  simp only[List.flatMap_cons,List.mem_append]at h
  simp only[List.map_cons]
  rw[Opd.get_congr (fun s hs=>h s (.inl hs)),gets_congr (fun s hs=>h s (.inr hs))]
theorem optGet_congr {env env':Env}{x:Option Opd}(h:∀s∈optSlots x,look env s=look env' s):x.map (·.get env)=x.map (·.get env'):=by
 cases x with
 |none=>rfl
 |some o=>simp only[Option.map_some];rw[Opd.get_congr h]
theorem parts_congr {env env':Env}:∀{ps:List (Nat×Nat×Opd)},(∀s∈ps.flatMap (fun p=>p.2.2.slots),look env s=look env' s)→ps.map (fun p=>(p.1,p.2.1,p.2.2.get env))=ps.map fun p=>(p.1,p.2.1,p.2.2.get env')
 |[],_=>rfl
 |x::xs,h=>by
  simp only[List.flatMap_cons,List.mem_append]at h
  simp only[List.map_cons]
  rw[Opd.get_congr (fun s hs=>h s (.inl hs)),parts_congr (fun s hs=>h s (.inr hs))]
theorem evs_congr {so:SOp}{env env':Env}{st:St}(h:∀s∈so.slots,look env s=look env' s):evs so env st=evs so env' st:=by
 cases so<;>simp only[SOp.slots,List.mem_append]at h<;>simp only[evs]
 all_goals first
  |rfl
  |(rw[Opd.get_congr h];done)
  |(rw[Opd.get_congr (fun s hs=>h s (.inl hs)),Opd.get_congr (fun s hs=>h s (.inr hs))];done)
  |(rw[parts_congr h];done)
  |(rw[gets_congr h];done)
  |(rw[gets_congr (fun s hs=>h s (.inl hs)),gets_congr (fun s hs=>h s (.inr hs))];done)
  |(rw[Opd.get_congr (fun s hs=>h s (.inl (.inl hs))),Opd.get_congr (fun s hs=>h s (.inl (.inr hs))),Opd.get_congr (fun s hs=>h s (.inr hs))];done)
  |(rw[Opd.get_congr (fun s hs=>h s (.inl (.inl hs))),optGet_congr (fun s hs=>h s (.inl (.inr hs))),optGet_congr (fun s hs=>h s (.inr hs))];done)
  |(rw[Opd.get_congr (fun s hs=>h s (.inl (.inl (.inl hs)))),optGet_congr (fun s hs=>h s (.inl (.inl (.inr hs)))),optGet_congr (fun s hs=>h s (.inl (.inr hs))),optGet_congr (fun s hs=>h s (.inr hs))];done)
theorem evq_congr {so:SOp}{env env':Env}{st:St}(h:∀s∈so.slots,look env s=look env' s):evq so env st=evq so env' st:=by
 cases so with
 |bslice e es xs=>simp only[evq];rw[gets_congr (by simpa [SOp.slots] using h)]
 |_=>exact evs_congr (st:=st) h
def QV (P:Program)(i:Ins)(env:Env)(st:St)(d:V):Prop :=
 match wantV env i.g with
 |some false=>d=.tup []
 |some true=>match i.op with
  | .call f args=>callVC P (f.get env) (args.map (·.get env)) st fun r s=>r=.ret d∧s=st
  |op=>evq op env st=some d
 |none=>False
def Ins.slots (i:Ins):List Nat:=(match i.g with|some (d,_)=>[d]|none=>[])++i.op.slots
theorem QV_congr {i:Ins}{env env':Env}{st:St}{d:V}(h:∀s∈i.slots,look env s=look env' s)(hq:QV P i env st d):QV P i env' st d:=by
 simp only[Ins.slots,List.mem_append]at h
 have hw:wantV env i.g=wantV env' i.g:=by
  cases hg:i.g with
  |none=>rfl
  |some p =>
   simp only[wantV]
   rw[h p.1 (.inl (by simp[hg]))]
 unfold QV at hq ⊢
 rw[←hw]
 split at hq
 ·exact hq
 ·split at hq
  ·rename_i f args hop
   have h2:∀s∈f.slots++args.flatMap Opd.slots,look env s=look env' s:=fun s hs=>h s (.inr (by rw[hop];exact hs))
   simp only[List.mem_append]at h2
   rw[←Opd.get_congr (fun s hs=>h2 s (.inl hs)),←gets_congr (fun s hs=>h2 s (.inr hs))];exact hq
  ·rename_i op hnc
   rw[←evq_congr (fun s hs=>h s (.inr hs))];exact hq
 ·exact hq.elim
end
end Go.Sha
