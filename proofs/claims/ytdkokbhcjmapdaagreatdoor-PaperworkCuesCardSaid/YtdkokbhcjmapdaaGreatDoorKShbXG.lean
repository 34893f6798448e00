/- Rows that are written while a table holds them: slices that are kept as they are in slices. -/
import Derived.Test.YtdkokbhcjmapdaaGreatDoorKShbXF
set_option linter.unusedSimpArgs false
set_option linter.unusedVariables false
namespace Go.Sha
section
variable {P:Program}{N:Fr}{H:EvF}
def appR (st:St)(e es bytes:Nat)(s x:V):Option (V×St):=match elemsV st x with
 |some ys=>if ys.all (fun y=>y.cells.length == es)=true then appG st e es bytes ys s else none
 |none=>none
def bslR (st:St)(e es:Nat)(wr:Bool)(ys:List V):Option (V×St):=if ys.all (fun y=>partOk st y&&y.cells.length == es)=true then some (newArr st e es ys wr false) else none
def stR (wr:Bool)(op:SOp)(env:Env)(st:St):Option (V×St):=match op with
 | .append e es bytes s x=>appR st e es bytes (s.get env) (x.get env)
 | .bslice e es xs=>bslR st e es wr (xs.map (·.get env))
 |_=>none
theorem appR_sound {w:World}{A:Abs}{st:St}{t ty e:TypeId}{i:TypeInfo}{z:Value}(ht:P.underlying t=some (.slice e))(hi:P.info? e=some i)(hz:i.zero=some z)(hsz:0<i.size)(hzs:z.cells.size=i.size)(hs:Sim w A st)
  {s x:Value}{ds dx d:V}{st':St} (rs:Rep w A s ds) (rx:Rep w A x dx) (h:appR st e i.size i.bytes ds dx=some (d,st')) :
  ∃u w' A',(Builtin.append_ #[t,t] ty #[s,x]).run P w=.ok u w'∧Rep w' A' u d∧Sim w' A' st'∧Ext w A w' A':=by
 unfold appR at h
 split at h
 ·rename_i ys h1
  split at h
  ·rename_i h3
   have h3':∀y∈ys,y.cells.length=i.size:=by simpa using h3
   obtain⟨b,c,rfl,_,s1,s2⟩:=slice_read hs rx h1 h3'
   obtain⟨news,src,n4⟩:∃news,AppSrc P w t t ty e i z (.slice b ys.length c) ys.length news∧∀(i' j:Nat) (x c:V),ys[i']?=some x→x.cells[j]?=some c→∃v,news[i'*i.size+j]?=some v∧v.oneCell'=true∧Rep w A v c:=by
    cases b with
    |none =>
     have hys:=s1 rfl
     subst hys
     exact⟨[],⟨by simp,by simp,fun _ base n cap hc=>run_append_empty ht hi w hc,fun h=>absurd h (Nat.lt_irrefl 0),fun h=>absurd h (Nat.lt_irrefl 0),fun h=>absurd h (Nat.lt_irrefl 0)⟩,fun i' j x c hx=>by simp at hx⟩
    |some ad =>
     obtain⟨cs,q1,q2,q3,q4⟩:=s2 ad rfl
     refine⟨cs,⟨q1,q3,fun h0 base n cap hc=>?_,fun a b c'=>run_append_nil (P:=P) w t ty e i z ht hi hz ad ys.length c cs q1 q2 a b c',
      fun _ g sLen sCap cur hg hroom hfit=>run_append_room (P:=P) w t ty e i ht hi g sLen sCap cur hg ad ys.length c cs q1 q2 q3 hroom hfit,
      fun _ b sLen sCap olds o1 o2 a b' c'=>run_append_grow (P:=P) w t ty e i z ht hi hz b sLen sCap olds o1 o2 ad ys.length c cs q1 q2 a b' c'⟩,fun i' j y c hy hc=>?_⟩
     ·rw[h0];exact run_append_empty ht hi w hc
     ·obtain⟨v,v1,v2⟩:=q4 i' j y c hy hc
      exact⟨v,v1,q3 v (List.mem_of_getElem? v1),v2⟩
   exact appG_sound hz hsz hzs hs src n4 h3' rs h
  ·cases h
 ·cases h
theorem stR_sound {w:World}{A:Abs}{st:St}{a:Act}{env:Env}{o:Oper}{so:SOp}{wr:Bool}{d:V}{st':St}(hc:compOp P o=some so)(hs:Sim w A st)(he:EnvSim w A a env)(h:stR wr so env st=some (d,st')):Does P w A (execOp a.eval o) d st':=by
 cases so with
 |append e es bytes s x =>
  have hc:compOp0 P o=some (.append e es bytes s x):=by
   rcases compOp_cases hc with hc|hc
   ·exact hc
   ·cases hc
  obtain⟨t,c,i,z,p,q,ho,hcal,hat,hargs,hp,hq,ht,hi,hz,h1,h2,h3,h4⟩:=compOp_append hc
  subst h3 h4
  obtain⟨u,w',A',g1,g2,g3,g4⟩:=appR_sound (ty:=o.type) ht hi hz h1 h2 hs (rep_get he hp) (rep_get he hq) h
  refine⟨.value u,w',A',?_,.inl ⟨u,rfl,g2⟩,g3,g4⟩
  unfold execOp
  rw[ho]
  simp only[resolve,hcal,hargs,hat,Sem.run_bind,Sem.run_pure,Result.andThen_ok,invoke,builtin]
  simp[g1]
 |bslice e es xs =>
  have hc:compOp0 P o=some (.bslice e es xs):=by
   rcases compOp_cases hc with hc|hc
   ·exact hc
   ·cases hc
  obtain⟨t,len,parts,z,ho,ht,hn,hz,h1,h2,h3,h4⟩:=compOp_bslice hc
  simp only[stR,bslR]at h
  generalize hys:xs.map (·.get env)=ys at h
  split at h
  ·rename_i hall
   cases h
   have hall':∀y∈ys,partOk st y=true∧y.cells.length=es:=by simpa using hall
   obtain⟨r1,r2⟩:=reps_get (w:=w) (A:=A) he h4
   rw[hys]at r1 r2
   obtain⟨i,hi⟩:∃i,P.info? e=some i:=by
    cases hi:P.info? e with
    |none=>simp[sizeB,hi]at hn
    |some i=>exact⟨i,rfl⟩
   have hin:i.size=es:=by simp[sizeB,hi]at hn;exact hn
   obtain⟨zv,hzv⟩:∃zv,i.zero=some zv:=by
    unfold zeroB at hz
    rw[hi]at hz
    simp only[Option.bind_some]at hz
    cases hq:i.zero with
    |none=>rw[hq]at hz;cases hz
    |some v=>exact⟨v,rfl⟩
   let vs:List Value:=(parts.toList.map (·.2)).map a.eval
   have hvl:vs.length=ys.length:=r1
   have hrep:∀(k:Nat) (v:Value) (y:V),vs[k]?=some v→ys[k]?=some y→Rep w A v y∧v.cells.size=es∧(∀u∈v.cells.toList,u.oneCell'=true)∧∀(j:Nat) (u:Value) (c:V),v.cells[j]?=some u→y.cells[j]?=some c→Rep w A u c:=by
    intro k v y hv hy
    have hR:=r2 k v y hv hy
    obtain⟨q1,q2⟩:=hall' y (List.mem_of_getElem? hy)
    obtain⟨k1,k2,k3⟩:=hR.cells_inv hs q1
    exact⟨hR,by omega,k2,k3⟩
   have hsize:∀v∈vs,v.cells.size=es:=by
    intro v hv
    obtain⟨k,hk⟩:=List.mem_iff_getElem?.1 hv
    have hlt:k<ys.length:=by have:=(List.getElem?_eq_some_iff.1 hk).1;omega
    exact(hrep k v ys[k] hk (List.getElem?_eq_getElem hlt)).2.1
   have hlen:ys.length=len:=by
    rw[←hvl]
    have:=congrArg List.length h3
    simpa [vs] using this
   have hfm:(parts.map fun(i,x)=>(i,a.eval x)).toList.flatMap (fun p=>p.2.cells.toList)=vs.flatMap fun v=>v.cells.toList:=by
    simp[vs,List.flatMap_map]
   have hrun:=run_buildSlice' (P:=P) w (len:=len) (parts:=parts.map fun(i,x)=>(i,a.eval x)) ht hi hzv (by rw[hin];exact h1) (by rw[hin];exact h2) (by simpa [Function.comp_def] using h3) (fun p hp=>by
    rw[hin]
    simp only[Array.toList_map,List.mem_map]at hp
    obtain⟨q,hq,rfl⟩:=hp
    exact hsize _ (List.mem_map.2 ⟨q.2,List.mem_map.2 ⟨q,hq,rfl⟩,rfl⟩))
   rw[hfm]at hrun
   have:=does_newArr (P:=P) (w0:=w) (cur:=(vs.flatMap fun v=>v.cells.toList).toArray) (xs:=ys) (e:=e) (es:=es) (cap:=ys.length) (wr:=wr) (fz:=false) hs ⟨rfl,rfl,rfl,rfl⟩ (fun y hy=>(hall' y hy).2) (Nat.le_refl _) (by
     have:len*es≤2 ^ 24:=h1
     have h5:len≤len*es:=Nat.le_mul_of_pos_right _ h2
     simp only[maxLen];omega) (by simp only[List.size_toArray,length_flatMap_cells es vs hsize,hvl]) (fun i' j y c hy hc=>by
     have hlt:i'<vs.length:=by have:=(List.getElem?_eq_some_iff.1 hy).1;omega
     obtain⟨q1,q2,q3,q4⟩:=hrep i' vs[i'] y (List.getElem?_eq_getElem hlt) hy
     have hjl:j<es:=by have:=(List.getElem?_eq_some_iff.1 hc).1;rw[(hall' y (List.mem_of_getElem? hy)).2]at this;exact this
     have hju:j<vs[i'].cells.size:=by omega
     refine⟨vs[i'].cells[j],?_,q3 _ (by simp),q4 j _ c (by simp[hju]) hc⟩
     rw[List.getElem?_toArray,flatMap_get es vs i' j vs[i'] hsize (List.getElem?_eq_getElem hlt) hjl]
     simp[hju]) (by rw[hlen];exact hrun)
   unfold execOp;rw[ho];exact this
  ·cases h
 |_=>cases h
theorem insR_sound {w:World}{A:Abs}{st st':St}{a:Act}{env:Env}{ops:Array Oper}{k:Nat}{o:Oper}{i:Ins}{wr:Bool}{d:V}(hk:ops[k]?=some o)(hi:compIns P N.n ops o=some i)(hg:∀d,i.g=some d→d.1<N.n)(hs:Sim w A st)(he:EnvSim w A a env)(hN:a.tmps.size=N.n)(hd:a.defers=N.D)
  (hw:wantV env i.g=some true) (hst:stR wr i.op env st=some (d,st')) {K':Act→World→Prop}{Q':Exit→Act→World→Prop}
  (hK:∀a' w',Good N w A (fun e s=>e=setD env i.dst d∧s=st') a' w'→K' a' w'):wpOp P ops Q' k K' a w:=by
 obtain⟨hc,hgd,hdst,hlt⟩:=compIns_inv hi
 unfold wpOp
 simp only[hk]
 have hwant:=wanted_eq he hgd hw (fun d hd'=>by rw[hN];exact hg d hd')
 rw[hwant]
 simp only[if_true]
 refine .inl ?_
 unfold Oper.wp
 obtain⟨nx,w',A',hrun,hnx,hs',hx⟩:=stR_sound hc hs he hst
 rw[hrun]
 rcases hnx with⟨u,rfl,hu⟩|⟨rfl,rfl⟩
 ·rw[Oper.upon_value]
  refine hK _ _ ⟨A',_,st',⟨rfl,rfl⟩,hs',?_,by rw[put_size];exact hN,by rw[put_defers];exact hd,hx⟩
  rw[hdst]
  exact(he.mono hx).put (fun j hj=>by rw[hN];exact hlt j hj) hu
 ·rw[Oper.upon_skip]
  refine hK _ _ ⟨A',_,st',⟨rfl,rfl⟩,hs',?_,by rw[put_size];exact hN,by rw[put_defers];exact hd,hx⟩
  rw[hdst]
  exact(he.mono hx).put (fun j hj=>by rw[hN];exact hlt j hj) (.und _)
def vcR (P:Program):List Ins→List (Option Bool)→Env→St→Post→Prop
 |i::r,some wr::fs,env,st,Q=>wantV env i.g=some true∧∃d st',stR wr i.op env st=some (d,st')∧vcR P r fs (setD env i.dst d) st' Q
 |i::r,none::fs,env,st,Q=>vcOps P [i] env st (seqPost (fun e s=>vcR P r fs e s Q) Q)
 |[],_::_,env,st,Q=>Q .normal env st
 |l,[],env,st,Q=>vcOps P l env st Q
theorem opsR_sound {ops:Array Oper}{Q:Post}{w0:World}{A0:Abs}:∀(fs:List (Option Bool)) (os:List Oper) (l:List Ins) (k:Nat) (env:Env) (st:St) (w:World) (A:Abs) (a:Act),compAll P N.n ops os=some l→guardsOk N.n l=true→(∀(j:Nat),os[j]?=ops[k+j]?) →
  Sim w A st→EnvSim w A a env→a.tmps.size=N.n→a.defers=N.D→Ext w0 A0 w A→vcR P l fs env st Q→wpOps P ops (lift N w0 A0 Q) (List.range' k os.length) a w
 |[],os,l,k,env,st,w,A,a,hc,hg,hk,hs,he,hN,hd,hx,h=>ops_sound os l k env st w A a hc hg hk hs he hN hd hx (by cases l<;>exact h)
 |f::fs,[],l,k,env,st,w,A,a,hc,_,_,hs,he,hN,hd,hx,h=>by
  simp[compAll]at hc;subst hc
  simp only[vcR]at h
  exact⟨A,env,st,h,hs,he,hN,hd,hx⟩
 |f::fs,o::os,l,k,env,st,w,A,a,hc,hg,hk,hs,he,hN,hd,hx,h=>by
  simp only[compAll]at hc
  split at hc
  ·rename_i i l' hi hl
   cases hc
   obtain⟨g1,g2⟩:=guardsOk_cons hg
   rw[List.length_cons,List.range'_succ,wpOps_cons]
   cases f with
   |some wr =>
    obtain⟨hw,d,st',hst,h⟩:=h
    refine insR_sound (by have:=hk 0;simpa using this.symm) hi g1 hs he hN hd hw hst (fun a' w' hG=>?_)
    obtain⟨A',env',st2,⟨rfl,rfl⟩,q2,q3,q4,q5,q6⟩:=hG
    exact opsR_sound fs os l' (k+1) _ _ w' A' a' hl g2 (fun j=>by have:=hk (j+1);simp at this;rw[this];congr 1;omega) q2 q3 q4 q5 (hx.trans q6) h
   |none =>
    refine ins_sound (by have:=hk 0;simpa using this.symm) hi g1 hs he hN hd h (fun a' w' hG=>?_) (fun ch a' w' hP=>?_)
    ·obtain⟨A',env',st',q1,q2,q3,q4,q5,q6⟩:=hG
     exact opsR_sound fs os l' (k+1) env' st' w' A' a' hl g2 (fun j=>by have:=hk (j+1);simp at this;rw[this];congr 1;omega) q2 q3 q4 q5 (hx.trans q6) q1
    ·exact PanGood.mono hx hP (fun _ _ _ h=>h)
  ·cases hc
theorem WD.regR {l:List Ins}{env:Env}{st:St}{Q:Post}(fs:List (Option Bool))(h:vcR P l fs env st Q):WD P N (.reg l) env st Q:=fun c hc=>by
 cases c<;>simp only[compC,Cd.bare]at hc<;>(repeat' split at hc)<;>first
  |(cases hc;done)
  |(obtain⟨y,hy,e⟩:=Option.map_eq_some_iff.1 hc;cases e;done)
  |skip
 cases hc
 rename_i _ d _ hd hl hg
 cases d with
 |true=>exact absurd rfl hd
 |false =>
  intro w A a hs he hN hd
  refine wp_region ?_
  have:=opsR_sound (w0:=w) (A0:=A) fs _ l 0 env st w A a hl hg (by simp) hs he hN hd (Ext.refl w A) h
  simpa [List.range_eq_range'] using this
theorem W_weak {c:Code}{env env':Env}{st st':St}{Q:Post}{n:Nat}(hn:st.nx≤n)(h:Weak n st st')(he:WeakEnv n env env')(k:W P N c env' st' Q):W P N c env st Q:=by
 intro w A a hs he' hN hd
 have hown0:∀b id,A.own b=some id→id<A.nx:=fun b id h=>(hs.ownlt b id h).2
 exact Code.wp_mono (lift_mono ((Ext.refl w A).cut hown0 (by rw[←hs.nx];exact hn)) (fun _ _ _ h=>h)) (k w (A.cut n) a (hs.cut h) (he'.cut he) hN hd)
theorem WD.weak {c:Cd}{env env':Env}{st st':St}{Q:Post}{n:Nat}(hn:st.nx≤n)(h:Weak n st st')(he:WeakEnv n env env')(k:WD P N c env' st' Q):WD P N c env st Q:=fun cc hc=>W_weak hn h he (k cc hc)
theorem WD.sub {c:Cd}{env env':Env}{st:St}{Q:Post}(he:∀i v,look env' i=some v→look env i=some v)(k:WD P N c env' st Q):WD P N c env st Q:=fun cc hc w A a hs he' hN hd=>k cc hc w A a hs (fun i v hv=>he' i v (he i v hv)) hN hd
theorem WD.freeze {c:Cd}{env:Env}{st:St}{Q:Post}{id:Nat}{ar:Arr}(hl:look st.arr id=some ar)(k:WD P N c env ⟨st.nx,st.mem,updA st.arr id ⟨ar.e,ar.es,ar.xs,false,ar.fz⟩,st.x⟩ Q):WD P N c env st Q:=fun cc hc=>W_freeze hl (k cc hc)
theorem Sim.snapEl {w:World}{A:Abs}{st:St}(hs:Sim w A st){o j:Nat}{ro:Arr}{x y:V}(ho:look st.arr o=some ro)(hx:ro.xs[j]?=some x)(hy:snapA st x=some y):Sim w A ⟨st.nx,st.mem,updA st.arr o ⟨ro.e,ro.es,ro.xs.set j y,ro.wr,ro.fz⟩,st.x⟩:=by
 have hk:=hs.arr o ro ho
 obtain⟨hc1,hc2⟩:=snapA_cells hy
 have hlt:=(List.getElem?_eq_some_iff.1 hx).1
 refine⟨hs.nx,hs.mem,fun i a h=>?_,hs.Clt,hs.ownlt,fun i c ar h1 h2=>?_,⟨fun i ob h=>?_,hs.x.gl,fun i T h=>?_⟩⟩
 ·rw[look_updA]at h
  split at h
  ·rename_i e;subst e
   rw[ho]at h
   cases h
   refine⟨hk.lt,by rw[List.length_set];exact hk.ln,fun z hz=>?_,?_⟩
   ·rcases List.mem_or_eq_of_mem_set hz with hz|rfl
    ·exact hk.es z hz
    ·exact hc1.trans (hk.es x (List.mem_of_getElem? hx))
   ·simp only[List.length_set]
    rcases hk.row with⟨r1,r2,r3⟩|⟨g,cap,cur,r1,r2,r3,r4,r5,r6,r7,r8,r9⟩
    ·rw[r2]at hlt;simp at hlt
    ·refine .inr ⟨g,cap,cur,r1,r2,r3,r4,r5,r6,r7,r8,fun i' j' z c hz hc=>?_⟩
     rw[List.getElem?_set]at hz
     split at hz
     ·rename_i e;subst e
      cases hz
      have hj:j'<x.cells.length:=by have:=(List.getElem?_eq_some_iff.1 hc).1;omega
      obtain⟨v,v1,v2,v3⟩:=r9 j j' x x.cells[j'] hx (List.getElem?_eq_getElem hj)
      exact⟨v,v1,v2,snap1_rep hs v3 (hc2 j' _ c (List.getElem?_eq_getElem hj) hc)⟩
     ·exact r9 i' j' z c hz hc
  ·exact hs.arr i a h
 ·rw[look_updA]at h2
  split at h2
  ·rename_i e;subst e;exact hs.disj _ _ _ h1 ho
  ·exact hs.disj _ _ _ h1 h2
 ·obtain⟨k1,k2,k3⟩:=hs.x.obj i ob h
  refine⟨k1,k2,?_⟩
  rw[look_updA]
  split
  ·rename_i e;subst e;rw[ho]at k3;cases k3
  ·exact k3
 ·obtain⟨k1,k2⟩:=hs.x.ty i T h
  refine⟨k1,?_⟩
  rw[look_updA]
  split
  ·rename_i e;subst e;rw[ho]at k2;cases k2
  ·exact k2
theorem WD.snapEl {c:Cd}{env:Env}{st:St}{Q:Post}{o j:Nat}{ro:Arr}{x y:V}(ho:look st.arr o=some ro)(hx:ro.xs[j]?=some x)(hy:snapA st x=some y)(k:WD P N c env ⟨st.nx,st.mem,updA st.arr o ⟨ro.e,ro.es,ro.xs.set j y,ro.wr,ro.fz⟩,st.x⟩ Q):WD P N c env st Q:=fun cc hc w A a hs he hN hd=>k cc hc w A a (hs.snapEl ho hx hy) he hN hd
def AgainG (I:Nat→Env→St→Prop)(n:Nat)(env:Env)(st:St):Prop:=∃m env' st',m<n∧I m env' st'∧WeakEnv st'.nx env env'∧Weak st'.nx st st'
theorem W_loopG {x:Code}{env:Env}{st:St}{Q:Post}(I:Nat→Env→St→Prop)(hI:∀n e s,I n e s→st.nx≤s.nx)(h0:∃n env' st',I n env' st'∧WeakEnv st'.nx env env'∧Weak st'.nx st st')
  (round:∀n e s,I n e s→W P N x e s (seqPost (AgainG I n) Q)):W P N (.loop x) env st Q:=by
 intro w A a hs he hN hd
 let Inv (n:Nat) (a':Act) (w':World):Prop:=∃A' e s,I n e s∧Sim w' A' s∧EnvSim w' A' a' e∧a'.tmps.size=N.n∧a'.defers=N.D∧Ext w A w' A'
 have hown0:∀b id,A.own b=some id→id<A.nx:=fun b id h=>(hs.ownlt b id h).2
 have μspec:∀(a':Act) (w':World),(∃n,Inv n a' w')→∃n,Inv n a' w'∧∀m,Inv m a' w'→n≤m:=fun a' w' h=>exists_least _ h
 let μ (a':Act) (w':World):Nat:=open Classical in if h:∃n,Inv n a' w' then Classical.choose (μspec a' w' h) else 0
 have μmin:∀a' w' n,Inv n a' w'→Inv (μ a' w') a' w'∧μ a' w'≤n:=by
  intro a' w' n hn
  have hex:∃n,Inv n a' w':=⟨n,hn⟩
  have hμ:μ a' w'=Classical.choose (μspec a' w' hex):=by simp only[μ];rw[dif_pos hex]
  obtain⟨h1,h2⟩:=Classical.choose_spec (μspec a' w' hex)
  rw[hμ]
  exact⟨h1,h2 n hn⟩
 refine wp_loop (fun a' w'=>∃n,Inv n a' w') μ ?_ ?_
 ·obtain⟨n,env',st',h1,h2,h3⟩:=h0
  exact⟨n,A.cut st'.nx,env',st',h1,hs.cut h3,he.cut h2,hN,hd,(Ext.refl w A).cut hown0 (by rw[←hs.nx];exact hI _ _ _ h1)⟩
 ·rintro a' w' ⟨n,hn⟩
  obtain⟨⟨A',e,s,q1,q2,q3,q4,q5,q6⟩,_⟩:=μmin a' w' n hn
  refine Code.wp_mono (fun ex a2 w2 hq=>?_) (round _ e s q1 w' A' a' q2 q3 q4 q5)
  cases ex with
  |normal =>
   obtain⟨A2,e2,s2,⟨m,e3,s3,r1,r2,r3,r4⟩,r5,r6,r7,r8,r9⟩:=hq
   have hinv:Inv m a2 w2:=⟨A2.cut s3.nx,e3,s3,r2,r5.cut r4,r6.cut r3,r7,r8,(q6.trans r9).cut hown0 (by rw[←hs.nx];exact hI _ _ _ r2)⟩
   have:=μmin a2 w2 m hinv
   exact⟨⟨m,hinv⟩,by omega⟩
  |exit id=>exact lift_mono q6 (fun _ _ _ h=>h) (.exit id) a2 w2 hq
  |goto l=>exact hq.elim
  |ret=>exact lift_mono q6 (fun _ _ _ h=>h) .ret a2 w2 hq
  |panic ch=>exact lift_mono q6 (fun _ _ _ h=>h) (.panic ch) a2 w2 hq
  |outgrown=>exact hq.elim
theorem WD.loopG {lv:List Nat}{r:List (Nat×Nat×Nat)}{a:Cd}{env:Env}{st:St}{Q:Post}(I:Nat→Env→St→Prop)(hI:∀n e s,I n e s→st.nx≤s.nx)(h0:∃n env' st',I n env' st'∧WeakEnv st'.nx env env'∧Weak st'.nx st st')
  (round:∀n e s,I n e s→WD P N a e s (seqPost (AgainG I n) Q)):WD P N (.loop lv r a) env st Q:=fun c hc=>by
 cases c<;>simp only[compC,Cd.bare]at hc<;>(repeat' split at hc)<;>first
  |(cases hc;done)
  |(obtain⟨y,hy,e⟩:=Option.map_eq_some_iff.1 hc;cases e;done)
  |skip
 obtain⟨y,hy,e⟩:=Option.map_eq_some_iff.1 hc
 cases e
 exact W_loopG I hI h0 fun n e s hi=>round n e s hi _ hy
def SOp.plain:SOp→Bool
 | .call _ _ | .panic _ | .nilk _ _ | .nxt _=>false
 |_=>true
theorem vcR_op {d:Option Nat}{op:SOp}{r:List Ins}{fs:List (Option Bool)}{env:Env}{st st':St}{v:V}{Q:Post}(hp:op.plain=true)(h:stv op env st=some (v,st'))(k:vcR P r fs (setD env d v) st' Q):vcR P (⟨d,op,none⟩::r) (none::fs) env st Q:=by
 show vcOps P [⟨d,op,none⟩] env st _
 unfold vcOps
 refine upon_intro (x:=true) rfl ?_
 rw[fork_true]
 split<;>first|(simp[SOp.plain]at hp;done)|skip
 all_goals first
  |(rename_i h1;dsimp only at h1;subst h1;simp[SOp.plain]at hp;done)
  |(refine upon_intro (x:=(v,st')) h ?_;exact k)
theorem vcR_call {d:Option Nat}{f:Opd}{args:List Opd}{r:List Ins}{fs:List (Option Bool)}{env:Env}{st:St}{Q:Post}(h:callVC P (f.get env) (args.map (·.get env)) st (callK (fun v s=>vcR P r fs (setD env d v) s Q) (fun v s=>Q (.pan v) env s))):vcR P (⟨d,.call f args,none⟩::r) (none::fs) env st Q:=by
 show vcOps P [⟨d,.call f args,none⟩] env st _
 unfold vcOps
 refine upon_intro (x:=true) rfl ?_
 rw[fork_true]
 exact h
theorem vcR_raw {d:Option Nat}{op:SOp}{r:List Ins}{fs:List (Option Bool)}{env:Env}{st st':St}{v:V}{Q:Post}(wr:Bool)(h:stR wr op env st=some (v,st'))(k:vcR P r fs (setD env d v) st' Q):vcR P (⟨d,op,none⟩::r) (some wr::fs) env st Q:=⟨rfl,v,st',h,k⟩
theorem WD.cond {o:Opd}{a b:Cd}{env:Env}{st:St}{Q:Post}{t:Bool}(hc:o.get env=.bool t)(h1:t=true→WD P N a env st Q)(h2:t=false→WD P N b env st Q):WD P N (.cond o a b) env st Q:=fun c hcc=>by
 cases c<;>simp only[compC,Cd.bare]at hcc<;>(repeat' split at hcc)<;>first
  |(cases hcc;done)
  |(obtain⟨y,hy,e⟩:=Option.map_eq_some_iff.1 hcc;cases e;done)
  |skip
 cases hcc
 exact W_cond (by assumption) hc (fun t=>h1 t _ (by assumption)) (fun t=>h2 t _ (by assumption))
end
end Go.Sha
