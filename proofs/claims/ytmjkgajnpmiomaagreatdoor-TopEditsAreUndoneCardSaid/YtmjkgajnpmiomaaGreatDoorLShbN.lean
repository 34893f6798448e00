/- Instructions. -/
import Derived.Test.YtmjkgajnpmiomaaGreatDoorLShbMA
set_option linter.unusedSimpArgs false
set_option linter.unusedVariables false
namespace Go.Sha
inductive VX where
 |normal
 |exit (id:Nat)
 |ret
 |pan (v:V)
abbrev Post:=VX→Env→St→Prop
def setD (env:Env)(d:Option Nat)(v:V):Env:=match d with
 |some i=>(i,v)::env
 |none=>env
def wantV (env:Env):Option (Nat×Bool)→Option Bool
 |none=>some true
 |some (j,b)=>match look env j with
  |some (.bool t)=>some (t == b)
  |some (.tup [])=>some false
  |_=>none
def callVC (P:Program)(f:V)(args:List V)(st:St)(R:VRes→St→Prop):Prop:=match f with
 | .fn (.func k) first caps=>VCalls P k (first++args++caps) st R
 |_=>False
def fork (t:Bool)(a b:Prop):Prop:=if t=true then a else b
theorem fork_true {a b:Prop}:fork true a b=a:=rfl
theorem fork_false {a b:Prop}:fork false a b=b:=by simp[fork]
def upon {α:Type}(o:Option α)(k:α→Prop):Prop:=match o with
 |some x=>k x
 |none=>False
theorem upon_some {α:Type}{x:α}{k:α→Prop}:upon (some x) k=k x:=rfl
theorem upon_inv {α:Type}{o:Option α}{k:α→Prop}(h:upon o k):∃x,o=some x∧k x:=by
 cases o with
 |none=>exact h.elim
 |some x=>exact⟨x,rfl,h⟩
theorem upon_intro {α:Type}{o:Option α}{k:α→Prop}{x:α}(h:o=some x)(hk:k x):upon o k:=by rw[h];exact hk
def callK (k p:V→St→Prop):VRes→St→Prop
 | .ret v,s=>k v s
 | .pan v,s=>p v s
theorem callK_ret {k p:V→St→Prop}{v:V}{s:St}:callK k p (.ret v) s=k v s:=rfl
theorem callK_pan {k p:V→St→Prop}{v:V}{s:St}:callK k p (.pan v) s=p v s:=rfl
def panK (x:V)(Q:Post)(env:Env)(st:St):Prop:=match x with
 | .iface t v=>Q (.pan (.iface t v)) env st
 |_=>False
def vcOps (P:Program):List Ins→Env→St→Post→Prop
 |[],env,st,Q=>Q .normal env st
 |i::r,env,st,Q=>upon (wantV env i.g) fun t=>fork t
   (match i.op with
    | .call f args=>callVC P (f.get env) (args.map (·.get env)) st (callK (fun v s=>vcOps P r (setD env i.dst v) s Q) (fun v s=>Q (.pan v) env s))
    | .panic x=>panK (x.get env) Q env st
    | .nilk ne x=>nilK st (fun b=>vcOps P r (setD env i.dst (.bool (b != ne))) st Q) (x.get env)
    | .nxt x=>nxtK st (fun v s=>vcOps P r (setD env i.dst v) s Q) (x.get env)
    |op=>upon (stv op env st) fun z=>vcOps P r (setD env i.dst z.1) z.2 Q)
   (vcOps P r (setD env i.dst (.tup [])) st Q)
def compGuard (ops:Array Oper):Option (Nat×Bool)→Option (Option (Nat×Bool))
 |none=>some none
 |some (j,b)=>match(ops[j]?).bind (·.dst) with
  |some d=>some (some (d,b))
  |none=>none
def compIns (P:Program)(N:Nat)(ops:Array Oper)(o:Oper):Option Ins :=
 match compOp P o,compGuard ops o.guard with
 |some so,some g=>match o.dst with
  |none=>some ⟨none,so,g⟩
  |some d=>if d<N then some ⟨some d,so,g⟩ else none
 |_,_=>none
def compAll (P:Program)(N:Nat)(ops:Array Oper):List Oper→Option (List Ins)
 |[]=>some []
 |o::r=>match compIns P N ops o,compAll P N ops r with
  |some i,some l=>some (i::l)
  |_,_=>none
structure Fr where
 n:Nat
 D:List Deferred
instance:Coe Nat Fr:=⟨fun n=>⟨n,[]⟩⟩
section
variable {P:Program}{N:Fr}
def Good (N:Fr)(w0:World)(A0:Abs)(R:Env→St→Prop)(a:Act)(w:World):Prop :=
 ∃A env st,R env st∧Sim w A st∧EnvSim w A a env∧a.tmps.size=N.n∧a.defers=N.D∧Ext w0 A0 w A
def PanGood (N:Fr)(w0:World)(A0:Abs)(R:V→Env→St→Prop)(ch:List PanicEntry)(a:Act)(w:World):Prop :=
 ∃A env st v d,ch=[{ v,recovered:=false }]∧Rep w A v d∧R d env st∧Sim w A st∧EnvSim w A a env∧a.tmps.size=N.n∧a.defers=N.D∧Ext w0 A0 w A
theorem EnvSim.put {w:World}{A:Abs}{a:Act}{env:Env}(h:EnvSim w A a env){d:Option Nat}{u:Value}{v:V}(hd:∀i,d=some i→i<a.tmps.size)(hr:Rep w A u v):EnvSim w A (a.put d u) (setD env d v):=by
 cases d with
 |none=>exact h
 |some i =>
  intro j x hj
  have hi:=hd i rfl
  simp only[setD,look]at hj
  simp only[Act.put]
  split at hj
  ·rename_i e;subst e;cases hj
   rw[Array.getD_eq_getD_getElem?,Array.getElem?_setIfInBounds_self_of_lt hi];exact hr
  ·rename_i e
   have:=h j x hj
   rw[Array.getD_eq_getD_getElem?,Array.getElem?_setIfInBounds_ne e,←Array.getD_eq_getD_getElem?];exact this
theorem put_size (a:Act)(d:Option Nat)(v:Value):(a.put d v).tmps.size=a.tmps.size:=by cases d<;>simp[Act.put]
theorem put_defers (a:Act)(d:Option Nat)(v:Value):(a.put d v).defers=a.defers:=by cases d<;>rfl
theorem rep_undef {w:World}{A:Abs}:Rep w A undef (.tup []):=by
 have:=Rep.tup (w:=w) (A:=A) [] [] rfl (by simp)
 exact this
theorem wanted_eq {w:World}{A:Abs}{a:Act}{env:Env}(he:EnvSim w A a env){ops:Array Oper}{o:Oper}{g:Option (Nat×Bool)}(hg:compGuard ops o.guard=some g){b:Bool}(hw:wantV env g=some b)(hN:∀d,g=some d→d.1<a.tmps.size) :
  Region.wanted o (yielded ops a.tmps)=b:=by
 unfold Region.wanted
 cases h:o.guard with
 |none =>
  rw[h]at hg;simp[compGuard]at hg;subst hg
  simp[wantV]at hw;simpa using hw
 |some p =>
  obtain⟨j,want⟩:=p
  rw[h]at hg
  simp only[compGuard]at hg
  split at hg
  ·rename_i d hd
   cases hg
   have hlt:=hN _ rfl
   simp only[wantV]at hw
   simp only[yielded,hd,Option.bind_some]
   split at hw
   ·rename_i t ht
    cases hw
    have:=(he d _ ht).bool_inv
    rw[Array.getD_eq_getD_getElem?,Array.getElem?_eq_getElem hlt]at this
    simp at this
    simp only[Array.getElem?_eq_getElem hlt,this]
    cases t<;>cases want<;>rfl
   ·rename_i ht
    cases hw
    obtain⟨vs,e1,e2,_⟩:=(he d _ ht).tup_inv
    have hv:vs=[]:=List.eq_nil_of_length_eq_zero (by simpa using e2)
    subst hv
    rw[Array.getD_eq_getD_getElem?,Array.getElem?_eq_getElem hlt]at e1
    simp at e1
    simp[Array.getElem?_eq_getElem hlt,e1]
   ·cases hw
  ·cases hg
theorem compIns_inv {ops:Array Oper}{o:Oper}{i:Ins}(h:compIns P N.n ops o=some i):compOp P o=some i.op∧compGuard ops o.guard=some i.g∧o.dst=i.dst∧∀d,i.dst=some d→d<N.n:=by
 unfold compIns at h
 split at h
 ·rename_i so g h1 h2
  split at h
  ·rename_i hd;cases h;exact⟨h1,h2,hd,fun _ h=>by cases h⟩
  ·rename_i d hd
   split at h
   ·rename_i hlt;cases h;exact⟨h1,h2,hd,fun _ h=>by cases h;exact hlt⟩
   ·cases h
 ·cases h
theorem compOp_call {o:Oper}{f:Opd}{args:List Opd}(hc:compOp P o=some (.call f args)):∃c g,o.op=.call c∧c.callee=.value g∧opdOf g=some f∧opdsOf c.args.toList=some args:=by
 rcases compOp_cases hc with hc|hc
 ·unfold compOp0 at hc
  repeat' split at hc
  all_goals first|(cases hc;done)|skip
  all_goals first
   |(obtain⟨y,hy,e⟩:=Option.map_eq_some_iff.1 hc;cases e;done)
   |skip
  cases hc
  exact⟨_,_,‹_›,‹_›,‹_›,‹_›⟩
 ·cases hc
theorem compOp_panic {o:Oper}{x:Opd}(hc:compOp P o=some (.panic x)):∃y,o.op=.panic y∧opdOf y=some x:=by
 rcases compOp_cases hc with hc|hc
 ·unfold compOp0 at hc
  repeat' split at hc
  all_goals first|(cases hc;done)|(obtain⟨y,hy,e⟩:=Option.map_eq_some_iff.1 hc;first|(cases e;done)|(cases e;exact⟨_,‹_›,hy⟩))
 ·cases hc
theorem Reps.append {w:World}{A:Abs}{vs us:List Value}{cs ds:List V}(h:Reps w A vs cs)(k:Reps w A us ds):Reps w A (vs++us) (cs++ds):=by
 refine⟨by simp[h.1,k.1],fun i v c hv hc=>?_⟩
 rcases Nat.lt_or_ge i vs.length with hi|hi
 ·rw[List.getElem?_append_left hi]at hv
  rw[List.getElem?_append_left (by rw[←h.1];exact hi)]at hc
  exact h.2 i v c hv hc
 ·rw[List.getElem?_append_right hi]at hv
  rw[List.getElem?_append_right (by rw[←h.1];exact hi),←h.1]at hc
  exact k.2 _ v c hv hc
theorem call_sound {w:World}{A:Abs}{st:St}{a:Act}{env:Env}{o:Oper}{f:Opd}{args:List Opd}(hc:compOp P o=some (.call f args))(hs:Sim w A st)(he:EnvSim w A a env){R:VRes→St→Prop}
  (h:callVC P (f.get env) (args.map (·.get env)) st R):(∃k vs,(execOp a.eval o).run P w=.ok (.enter k vs) w∧Calls P k vs w fun e w'=>∃r A' st',R r st'∧EndRel w' A' e r∧Sim w' A' st'∧Ext w A w' A')
   ∨ ∃v w',(execOp a.eval o).run P w=.ok (.value v) w'∧∃r A' st',R r st'∧EndRel w' A' (.returned v) r∧Sim w' A' st'∧Ext w A w' A':=by
 obtain⟨c,g,ho,hcal,hg,hargs⟩:=compOp_call hc
 have rg:=rep_get (w:=w) (A:=A) he hg
 have ra:=reps_get (w:=w) (A:=A) he hargs
 unfold callVC at h
 split at h
 ·rename_i k first caps hf
  rw[hf]at rg
  generalize hgv:a.eval g=gv at rg
  cases rg with
  |fn _ vs us cs ds hl hk hr hs' =>
   have hall:Reps w A (vs++c.args.toList.map a.eval++us) (first++args.map (·.get env)++caps):=(Reps.append ⟨hl,hr⟩ ra).append ⟨hk,hs'⟩
   rcases h with⟨⟨fn,c1,c2,c3⟩,h2⟩|h2
   ·refine .inl ⟨k,(vs++c.args.toList.map a.eval++us).toArray,?_,h2 w A _ hs hall⟩
    unfold execOp
    simp only[ho,resolve,hcal,hgv,Deferred.ofValue,Sem.run_bind,Sem.run_pure,Result.andThen_ok,invoke,callFunc,run_program,c1,c2,c3,Bool.false_eq_true,if_false]
    congr 2
    simp
   ·obtain⟨v,w',h1,h3⟩:=h2 w A _ hs hall
    refine .inr ⟨v,w',?_,h3⟩
    have e:(vs++c.args.toList.map a.eval++us).toArray=vs.toArray++c.args.map a.eval++us.toArray:=by simp
    rw[e]at h1
    unfold execOp
    simp only[ho,resolve,hcal,hgv,Deferred.ofValue,Sem.run_bind,Sem.run_pure,Result.andThen_ok,invoke,h1]
 ·exact h.elim
theorem ins_sound {w:World}{A:Abs}{st:St}{a:Act}{env:Env}{ops:Array Oper}{k:Nat}{o:Oper}{i:Ins}(hk:ops[k]?=some o)(hi:compIns P N.n ops o=some i)(hg:∀d,i.g=some d→d.1<N.n)(hs:Sim w A st)(he:EnvSim w A a env)(hN:a.tmps.size=N.n)(hd:a.defers=N.D)
  {r:List Ins}{Q:Post} (h:vcOps P (i::r) env st Q) {K':Act→World→Prop}{Q':Exit→Act→World→Prop}
  (hK:∀a' w',Good N w A (fun env st=>vcOps P r env st Q) a' w'→K' a' w') (hQ:∀ch a' w',PanGood N w A (fun v env st=>Q (.pan v) env st) ch a' w'→Q' (.panic ch) a' w') :
  wpOp P ops Q' k K' a w:=by
 obtain⟨hc,hgd,hdst,hlt⟩:=compIns_inv hi
 unfold wpOp
 simp only[hk]
 rw[vcOps.eq_def]at h
 obtain⟨t,hw,h⟩:=upon_inv h
 cases t with
 |false =>
  -- skipped
  rw[fork_false]at h
  have hwant:=wanted_eq he hgd hw (fun d hd'=>by rw[hN];exact hg d hd')
  rw[hwant]
  simp only[Bool.false_eq_true,if_false]
  refine hK _ _ ⟨A,_,st,h,hs,?_,by rw[put_size];exact hN,by rw[put_defers];exact hd,Ext.refl w A⟩
  rw[hdst]
  exact he.put (fun j hj=>by rw[hN];exact hlt j hj) rep_undef
 |true =>
  rw[fork_true]at h
  have hwant:=wanted_eq he hgd hw (fun d hd'=>by rw[hN];exact hg d hd')
  rw[hwant]
  simp only[if_true]
  refine .inl ?_
  unfold Oper.wp
  split at h
  ·-- a call
   rename_i f args hop
   rw[hop]at hc
   rcases call_sound hc hs he h with⟨kf,vs,hrun,hcalls⟩|⟨v,w',hrun,rr,A',st',hR,hE,hs',hx⟩
   ·rw[hrun,Oper.upon_enter]
    refine hcalls.mono fun e w' ⟨rr,A',st',hR,hE,hs',hx⟩=>?_
    cases e with
    |returned v =>
     cases rr with
     |ret d =>
      rw[callK_ret]at hR
      refine hK _ _ ⟨A',_,st',hR,hs',?_,by rw[put_size];exact hN,by rw[put_defers];exact hd,hx⟩
      rw[hdst]
      exact(he.mono hx).put (fun j hj=>by rw[hN];exact hlt j hj) hE
     |pan d=>exact hE.elim
    |panicked ch =>
     cases rr with
     |ret d=>exact hE.elim
     |pan d =>
      obtain⟨v,e1,e2⟩:=hE
      rw[callK_pan]at hR
      exact hQ _ _ _ ⟨A',env,st',v,d,e1,e2,hR,hs',he.mono hx,hN,hd,hx⟩
    |outgrown=>cases rr<;>exact hE.elim
   ·rw[hrun,Oper.upon_value]
    cases rr with
    |ret d =>
     rw[callK_ret]at hR
     refine hK _ _ ⟨A',_,st',hR,hs',?_,by rw[put_size];exact hN,by rw[put_defers];exact hd,hx⟩
     rw[hdst]
     exact(he.mono hx).put (fun j hj=>by rw[hN];exact hlt j hj) hE
    |pan d=>exact hE.elim
  ·-- a panic
   rename_i x hop
   rw[hop]at hc
   obtain⟨y,ho,hy⟩:=compOp_panic hc
   have hr:=rep_get (w:=w) (A:=A) he hy
   unfold panK at h
   split at h
   ·rename_i t v hx
    rw[hx]at hr
    generalize hyv:a.eval y=yv at hr
    cases hr with
    |iface _ v' _ hv =>
     have hrun:(execOp a.eval o).run P w=.halt (.panic (.iface t v')) w:=by
      unfold execOp
      simp only[ho,hyv,Instr.panic,Sem.run_bind,run_goPanic,Result.andThen_halt]
     rw[hrun,Oper.upon_panic]
     exact hQ _ _ _ ⟨A,env,st,_,_,rfl,.iface t v' _ hv,h,hs,he,hN,hd,Ext.refl w A⟩
   ·exact h.elim
  ·-- a slice against nil
   rename_i ne x hop
   rw[hop]at hc
   obtain⟨b,hrun,hk⟩:=nilk_sound hc hs he h
   rw[hrun,Oper.upon_value]
   refine hK _ _ ⟨A,_,st,hk,hs,?_,by rw[put_size];exact hN,by rw[put_defers];exact hd,Ext.refl w A⟩
   rw[hdst]
   exact he.put (fun j hj=>by rw[hN];exact hlt j hj) (.bool _)
  ·-- a step of an iterator
   rename_i x hop
   rw[hop]at hc
   obtain⟨d,st',⟨nx,w',A',hrun,hnx,hs',hx⟩,h⟩:=nxt_sound hc hs he h
   rw[hrun]
   rcases hnx with⟨u,rfl,hu⟩|⟨rfl,rfl⟩
   ·rw[Oper.upon_value]
    refine hK _ _ ⟨A',_,st',h,hs',?_,by rw[put_size];exact hN,by rw[put_defers];exact hd,hx⟩
    rw[hdst]
    exact(he.mono hx).put (fun j hj=>by rw[hN];exact hlt j hj) hu
   ·rw[Oper.upon_skip]
    refine hK _ _ ⟨A',_,st',h,hs',?_,by rw[put_size];exact hN,by rw[put_defers];exact hd,hx⟩
    rw[hdst]
    exact(he.mono hx).put (fun j hj=>by rw[hN];exact hlt j hj) (.und _)
  ·rename_i op hnc hnp hnk hnx'
   ·obtain⟨⟨d,st'⟩,hst,h⟩:=upon_inv h
    obtain⟨nx,w',A',hrun,hnx,hs',hx⟩:=stv_sound hc hs he hst
    rw[hrun]
    rcases hnx with⟨u,rfl,hu⟩|⟨rfl,rfl⟩
    ·rw[Oper.upon_value]
     refine hK _ _ ⟨A',_,st',h,hs',?_,by rw[put_size];exact hN,by rw[put_defers];exact hd,hx⟩
     rw[hdst]
     exact(he.mono hx).put (fun j hj=>by rw[hN];exact hlt j hj) hu
    ·rw[Oper.upon_skip]
     refine hK _ _ ⟨A',_,st',h,hs',?_,by rw[put_size];exact hN,by rw[put_defers];exact hd,hx⟩
     rw[hdst]
     exact(he.mono hx).put (fun j hj=>by rw[hN];exact hlt j hj) (.und _)
end
end Go.Sha
