/- Regions whose order is drawn. -/
import Derived.Test.YtmjkgajnpmiomaaGreatDoorLShbO
set_option linter.unusedSimpArgs false
set_option linter.unusedVariables false
namespace Go.Sha
def retIs (d:V)(st:St):VRes→St→Prop:=fun r s=>r=.ret d∧s=st
def getsV (P:Program)(f:V)(args:List V)(st:St)(k:V→Prop):Prop:=∃d,callVC P f args st (retIs d st)∧k d
def vcV (P:Program):List Ins→Env→St→List V→(List V→Env→Prop)→Prop
 |[],env,_,acc,K=>K acc.reverse env
 |i::r,env,st,acc,K=>upon (wantV env i.g) fun t=>fork t
   (match i.op with
    | .call f args=>getsV P (f.get env) (args.map (·.get env)) st fun d=>vcV P r (setD env i.dst d) st (d::acc) K
    |op=>upon (evq op env st) fun d=>vcV P r (setD env i.dst d) st (d::acc) K)
   (vcV P r (setD env i.dst (.tup [])) st (.tup []::acc) K)
def vcQ (P:Program):List Ins→Env→St→(Env→Prop)→Prop
 |[],env,_,K=>K env
 |i::r,env,st,K=>upon (wantV env i.g) fun t=>fork t
   (match i.op with
    | .call f args=>getsV P (f.get env) (args.map (·.get env)) st fun d=>vcQ P r (setD env i.dst d) st K
    |op=>upon (evq op env st) fun d=>vcQ P r (setD env i.dst d) st K)
   (vcQ P r (setD env i.dst (.tup [])) st K)
def envSel:List (Option Nat×V)→(Nat→Bool)→Nat→Env→Env
 |[],_,_,env=>env
 |(d,v)::r,L,k,env=>envSel r L (k+1) (if L k then setD env d v else env)
theorem look_setD (env:Env)(d:Option Nat)(v:V)(s:Nat):look (setD env d v) s=if d=some s then some v else look env s:=by
 cases d with
 |none=>simp[setD]
 |some i =>
  simp only[setD,look]
  by_cases h:i=s
  ·subst h;simp
  ·rw[if_neg h,if_neg (by simpa using h)]
theorem envSel_congr {s:Nat}:∀{ps:List (Option Nat×V)}{L L':Nat→Bool}{k:Nat}{env env':Env},look env s=look env' s→(∀(j:Nat) (v:V),ps[j]?=some (some s,v)→L (k+j)=L' (k+j)) →
  look (envSel ps L k env) s=look (envSel ps L' k env') s
 |[],_,_,_,_,_,h,_=>h
 |(d,v)::ps,L,L',k,env,env',h,hl=>by
  simp only[envSel]
  refine envSel_congr ?_ (fun j u hj=>by have:=hl (j+1) u (by simpa using hj);rw[show k+1+j=k+(j+1) by omega];exact this)
  by_cases hd:d=some s
  ·subst hd
   have:=hl 0 v rfl
   simp only[Nat.add_zero]at this
   rw[this]
   cases L' k
   ·simpa using h
   ·simp[look_setD]
  ·cases L k<;>cases L' k<;>simp[look_setD,hd,h]
theorem envSel_hit {s:Nat}{v:V}:∀{ps:List (Option Nat×V)}{L:Nat→Bool}{k:Nat}{env:Env}{i:Nat},ps[i]?=some (some s,v)→L (k+i)=true→(∀(j:Nat) (u:V),ps[j]?=some (some s,u)→j=i) →
  look (envSel ps L k env) s=some v
 |[],_,_,_,i,h,_,_=>by simp at h
 |(d,u)::ps,L,k,env,0,h,hL,hu=>by
  simp at h
  obtain⟨rfl,rfl⟩:=h
  simp only[envSel]
  simp only[Nat.add_zero]at hL
  rw[hL,if_pos rfl]
  have:=envSel_congr (s:=s) (ps:=ps) (L:=L) (L':=fun _=>false) (k:=k+1) (env:=setD env (some s) u) (env':=setD env (some s) u) rfl (fun j x hj=>by have:=hu (j+1) x (by simpa using hj);omega)
  rw[this]
  have none:∀(ps:List (Option Nat×V)) (k:Nat) (env:Env),envSel ps (fun _=>false) k env=env:=by
   intro ps
   induction ps with
   |nil=>intro _ _;rfl
   |cons p ps ih=>intro k env;simp only[envSel];exact ih _ _
  rw[none]
  simp[look_setD]
 |(d,u)::ps,L,k,env,i+1,h,hL,hu=>by
  simp only[envSel]
  exact envSel_hit (i:=i) (by simpa using h) (by rw[show k+1+i=k+(i+1) by omega];exact hL) (fun j x hj=>by have:=hu (j+1) x (by simpa using hj);omega)
theorem envSel_shift:∀(ps:List (Option Nat×V)) (L:Nat→Bool) (k:Nat) (env:Env),envSel ps L (k+1) env=envSel ps (fun j=>L (j+1)) k env
 |[],_,_,_=>rfl
 |(d,v)::ps,L,k,env=>by simp only[envSel];rw[envSel_shift]
def pairs (l:List Ins)(vals:List V):List (Option Nat×V):=(l.map (·.dst)).zip vals
section
variable {P:Program}{N:Fr}
theorem envSel_eq:∀(ps:List (Option Nat×V)) (L L':Nat→Bool) (k:Nat) (env:Env),(∀j,j<ps.length→L (k+j)=L' (k+j))→envSel ps L k env=envSel ps L' k env
 |[],_,_,_,_,_=>rfl
 |(d,v)::ps,L,L',k,env,h=>by
  simp only[envSel]
  have:=h 0 (by simp)
  simp only[Nat.add_zero]at this
  rw[this]
  exact envSel_eq ps L L' (k+1) _ (fun j hj=>by have:=h (j+1) (by simp;omega);rw[show k+1+j=k+(j+1) by omega];exact this)
theorem vcQ_vals {st:St}{K:Env→Prop}:∀{l:List Ins}{env:Env},vcQ P l env st K→∃vals:List V,vals.length=l.length ∧
  (∀(i:Nat) (x:Ins) (v:V),l[i]?=some x→vals[i]?=some v→QV P x (envSel (pairs l vals) (fun j=>decide (j<i)) 0 env) st v)∧K (envSel (pairs l vals) (fun _=>true) 0 env)
 |[],env,h=>⟨[],rfl,by simp,h⟩
 |x::l,env,h=>by
  have main:∃d,QV P x env st d∧vcQ P l (setD env x.dst d) st K:=by
   unfold vcQ at h
   unfold QV
   obtain⟨t,hw,h⟩:=upon_inv h
   rw[hw]
   cases t with
   |false=>exact⟨.tup [],rfl,by rw[fork_false]at h;exact h⟩
   |true =>
    rw[fork_true]at h
    split at h
    ·rename_i f args hop
     obtain⟨d,h1,h2⟩:=h
     exact⟨d,by rw[hop];exact h1,h2⟩
    ·rename_i op hnc
     obtain⟨d,hd,h⟩:=upon_inv h
     refine⟨d,?_,h⟩
     dsimp only
     split
     ·rename_i f args hop;exact absurd hop (hnc f args)
     ·exact hd
  obtain⟨d,hq,hr⟩:=main
  obtain⟨vals,h1,h2,h3⟩:=vcQ_vals hr
  refine⟨d::vals,by simp[h1],fun i y v hy hv=>?_,?_⟩
  ·cases i with
   |zero =>
    simp at hy hv;subst hy hv
    have:envSel (pairs (x::l) (d::vals)) (fun j=>decide (j<0)) 0 env=env:=by
     have none:∀(ps:List (Option Nat×V)) (k:Nat) (env:Env),envSel ps (fun j=>decide (j<0)) k env=env:=by
      intro ps
      induction ps with
      |nil=>intro _ _;rfl
      |cons p ps ih=>intro k env;simp only[envSel];exact ih _ _
     exact none _ _ _
    rw[this];exact hq
   |succ i =>
    have:=h2 i y v (by simpa using hy) (by simpa using hv)
    simp only[pairs,List.map_cons,List.zip_cons_cons,envSel]
    rw[envSel_shift]
    simpa [pairs] using this
  ·simp only[pairs,List.map_cons,List.zip_cons_cons,envSel,if_true]
   rw[envSel_shift]
   exact h3
def bindsE (o:Oper):List Nat:=o.after.toList.filterMap fun e=>if Region.binds .any e then some e.on else none
theorem mem_bindsE {o:Oper}{k:Nat}:k∈bindsE o↔∃e∈o.after,Region.binds .any e=true∧e.on=k:=by
 simp[bindsE]
def regOk (m:Nat)(ops:List Oper)(l:List Ins):Bool :=
 decide (m≤l.length)&&decide (ops.length=l.length) &&
 (List.range ops.length).all (fun i=>(bindsE (ops.getD i default)).all (fun e=>decide (e<i))) &&
 (List.range m).all (fun i=>(List.range m).all fun j=>match(l.getD j default).dst with
  |none=>true
  |some d=>(!((l.getD i default).slots.contains d)||(bindsE (ops.getD i default)).contains j)&&(decide (i=j)||decide ((l.getD i default).dst≠some d))) &&
 (List.range ops.length).all (fun k=>decide (k<m)||(List.range k).all fun j=>(bindsE (ops.getD k default)).contains j)
structure RegOk (m:Nat) (ops:List Oper) (l:List Ins):Prop where
 le:m≤l.length
 len:ops.length=l.length
 back:∀(i:Nat) (o:Oper),ops[i]?=some o→∀e∈bindsE o,e<i
 hang:∀(i j:Nat) (x y:Ins) (o:Oper) (d:Nat),i<m→j<m→l[i]?=some x→l[j]?=some y→ops[i]?=some o→y.dst=some d→d∈x.slots→j∈bindsE o
 dist:∀(i j:Nat) (x y:Ins) (d:Nat),i<m→j<m→l[i]?=some x→l[j]?=some y→y.dst=some d→x.dst=some d→i=j
 tail:∀(k:Nat) (o:Oper),m≤k→ops[k]?=some o→∀j,j<k→j∈bindsE o
theorem regOk_spec {m:Nat}{ops:List Oper}{l:List Ins}(h:regOk m ops l=true):RegOk m ops l:=by
 simp only[regOk,Bool.and_eq_true,decide_eq_true_eq,List.all_eq_true,List.mem_range,Bool.or_eq_true]at h
 obtain⟨⟨⟨⟨h1,h2⟩,h3⟩,h4⟩,h5⟩:=h
 have getl:∀(i:Nat) (x:Ins),l[i]?=some x→l.getD i default=x:=fun i x hx=>by simp[List.getD_eq_getElem?_getD,hx]
 have geto:∀(i:Nat) (x:Oper),ops[i]?=some x→ops.getD i default=x:=fun i x hx=>by simp[List.getD_eq_getElem?_getD,hx]
 refine⟨h1,h2,fun i o ho e he=>?_,fun i j x y o d hi hj hx hy ho hd hm=>?_,fun i j x y d hi hj hx hy hd hd'=>?_,fun k o hk ho j hj=>?_⟩
 ·have hlt:=(List.getElem?_eq_some_iff.1 ho).1
  have:=h3 i hlt e (by rw[geto i o ho];exact he)
  exact this
 ·have:=h4 i hi j hj
  rw[getl j y hy,hd]at this
  simp only[Bool.and_eq_true,Bool.or_eq_true]at this
  have h:=this.1
  rw[getl i x hx,geto i o ho]at h
  rcases h with h|h
  ·simp at h;exact absurd hm h
  ·simpa using h
 ·have:=h4 i hi j hj
  rw[getl j y hy,hd]at this
  simp only[Bool.and_eq_true,Bool.or_eq_true,decide_eq_true_eq]at this
  rcases this.2 with h|h
  ·exact h
  ·rw[getl i x hx]at h;exact absurd hd' h
 ·have hlt:=(List.getElem?_eq_some_iff.1 ho).1
  rcases h5 k hlt with h|h
  ·omega
  ·have:=h j hj
   rw[geto k o ho]at this
   simpa using this
theorem qv_sound {w:World}{A:Abs}{st:St}{a:Act}{env:Env}{ops:Array Oper}{k:Nat}{o:Oper}{i:Ins}(hk:ops[k]?=some o)(hi:compIns P N.n ops o=some i)(hg:∀d,i.g=some d→d.1<N.n)(hs:Sim w A st)(he:EnvSim w A a env)(hN:a.tmps.size=N.n)
  {d:V} (h:QV P i env st d) {K':Act→World→Prop}{Q':Exit→Act→World→Prop}
  (hK:∀u w' A',Rep w' A' u d→Sim w' A' st→Ext w A w' A'→K' (a.put i.dst u) w'):wpOp P ops Q' k K' a w:=by
 obtain⟨hc,hgd,hdst,hlt⟩:=compIns_inv hi
 unfold wpOp
 simp only[hk]
 unfold QV at h
 split at h
 ·rename_i hw
  rw[wanted_eq he hgd hw (fun d hd'=>by rw[hN];exact hg d hd')]
  simp only[Bool.false_eq_true,if_false]
  rw[hdst]
  exact hK _ _ A (by rw[h];exact rep_undef) hs (Ext.refl w A)
 ·rename_i hw
  rw[wanted_eq he hgd hw (fun d hd'=>by rw[hN];exact hg d hd')]
  simp only[if_true]
  refine .inl ?_
  unfold Oper.wp
  split at h
  ·rename_i f args hop
   rw[hop]at hc
   rcases call_sound hc hs he h with⟨kf,vs,hrun,hcalls⟩|⟨v,w',hrun,rr,A',st',⟨hR1,hR2⟩,hE,hs',hx⟩
   ·rw[hrun,Oper.upon_enter]
    refine hcalls.mono fun e w' ⟨rr,A',st',⟨hR1,hR2⟩,hE,hs',hx⟩=>?_
    subst hR1 hR2
    cases e with
    |returned v=>rw[hdst];exact hK _ _ A' hE hs' hx
    |panicked ch=>exact hE.elim
    |outgrown=>exact hE.elim
   ·subst hR1 hR2
    rw[hrun,Oper.upon_value,hdst]
    exact hK _ _ A' hE hs' hx
  ·obtain⟨u,w',A',hrun,hu,hs',hx⟩:=evq_sound hc hs he h
   rw[hrun,Oper.upon_value,hdst]
   exact hK _ _ A' hu hs' hx
 ·exact h.elim
theorem ready_iff {ops:Array Oper}{listed:Array Bool}{j:Nat}:j∈Region.ready .any ops listed↔listed.getD j true=false∧∃o,ops[j]?=some o∧∀e∈bindsE o,listed.getD e false=true:=by
 rw[mem_ready]
 constructor
 ·rintro⟨h1,o,h2,h3⟩
  exact⟨h1,o,h2,fun e he=>by obtain⟨e',h4,h5,rfl⟩:=mem_bindsE.1 he;exact h3 e' h4 h5⟩
 ·rintro⟨h1,o,h2,h3⟩
  exact⟨h1,o,h2,fun e he hb=>h3 _ (mem_bindsE.2 ⟨e,he,hb,rfl⟩)⟩
theorem getD_set {listed:Array Bool}{i j:Nat}(hi:i<listed.size)(d:Bool):(listed.setIfInBounds i true).getD j d=if j=i then true else listed.getD j d:=by
 by_cases h:j=i
 ·subst h;rw[if_pos rfl];simp[hi]
 ·rw[if_neg h,getD_set_ne d (Ne.symm h)]
theorem getD_same {listed:Array Bool}{j:Nat}(h:j<listed.size)(d d':Bool):listed.getD j d=listed.getD j d':=by simp[h]
theorem compAll_get {ops:Array Oper}:∀{os:List Oper}{l:List Ins},compAll P N.n ops os=some l→os.length=l.length∧∀(k:Nat) (o:Oper) (i:Ins),os[k]?=some o→l[k]?=some i→compIns P N.n ops o=some i
 |[],l,h=>by simp[compAll]at h;subst h;simp
 |o::os,l,h=>by
  simp only[compAll]at h
  split at h
  ·rename_i i l' h1 h2
   cases h
   obtain⟨a1,a2⟩:=compAll_get h2
   refine⟨by simp[a1],fun k o' i' ho hi=>?_⟩
   cases k with
   |zero=>simp at ho hi;subst ho hi;exact h1
   |succ k=>exact a2 k o' i' (by simpa using ho) (by simpa using hi)
  ·cases h
theorem guardsOk_get {l:List Ins}(h:guardsOk N.n l=true){k:Nat}{i:Ins}(hi:l[k]?=some i):∀d,i.g=some d→d.1<N.n:=by
 intro d hd
 have:=List.all_eq_true.1 h i (List.mem_of_getElem? hi)
 rw[hd]at this
 simpa using this
theorem tail_sound {ops:Array Oper}{l:List Ins}{m:Nat}(hr:RegOk m ops.toList l)(hc:compAll P N.n ops ops.toList=some l)(hg:guardsOk N.n l=true){Q:Post}{w0:World}{A0:Abs} :
  ∀(fuel k:Nat) (listed:Array Bool) (a:Act) (w:World) (A:Abs) (env:Env) (st:St),m≤k→k+fuel=l.length→listed.size=l.length→(∀j,j<l.length→listed.getD j true=decide (j<k)) →
  Sim w A st→EnvSim w A a env→a.tmps.size=N.n→a.defers=N.D→Ext w0 A0 w A→vcOps P (l.drop k) env st Q→wpAny P .any ops (lift N w0 A0 Q) fuel listed a w
 |0,k,listed,a,w,A,env,st,hm,hf,hsz,hl,hs,he,hN,hd,hx,h=>by
  have hk:k=l.length:=by omega
  rw[hk,List.drop_length]at h
  simp only[vcOps]at h
  refine⟨?_,A,env,st,h,hs,he,hN,hd,hx⟩
  apply List.eq_nil_iff_forall_not_mem.2
  intro j hj
  obtain⟨h1,o,h2,_⟩:=ready_iff.1 hj
  have hlt:j<l.length:=by have:=(Array.getElem?_eq_some_iff.1 h2).1;have:=hr.len;simp at this;omega
  rw[hl j hlt]at h1
  simp at h1;omega
 |fuel+1,k,listed,a,w,A,env,st,hm,hf,hsz,hl,hs,he,hN,hd,hx,h=>by
  have hlen:ops.size=l.length:=by have:=hr.len;simpa using this
  have hk:k<l.length:=by omega
  obtain⟨o,ho⟩:∃o,ops[k]?=some o:=⟨_,Array.getElem?_eq_getElem (by omega)⟩
  have hkr:k∈Region.ready .any ops listed:=by
   refine ready_iff.2 ⟨by rw[hl k hk];simp,o,ho,fun e he'=>?_⟩
   have:=hr.back k o (by simpa using ho) e he'
   rw[getD_same (d':=true) (by omega),hl e (by omega)]
   simpa using this
  refine⟨(fun h0=>by rw[h0]at hkr;cases hkr),fun i hi=>?_⟩
  obtain⟨h1,o',h2,h3⟩:=ready_iff.1 hi
  have hil:i<l.length:=by have:=(Array.getElem?_eq_some_iff.1 h2).1;omega
  rw[hl i hil]at h1
  simp at h1
  have hik:i=k:=by
   rcases Nat.lt_or_ge k i with hh|hh
   ·have:=hr.tail i o' (by omega) (by simpa using h2) k hh
    have:=h3 k this
    rw[getD_same (d':=true) (by omega),hl k hk]at this
    simp at this
   ·omega
  subst hik
  obtain⟨x,hx'⟩:∃x,l[i]?=some x:=⟨_,List.getElem?_eq_getElem hil⟩
  have hdrop:l.drop i=x::l.drop (i+1):=by
   rw[List.drop_eq_getElem_cons hil]
   congr 1
   rw[List.getElem?_eq_getElem hil]at hx';exact Option.some.inj hx'
  rw[hdrop]at h
  refine ins_sound h2 ((compAll_get hc).2 i o' x (by simpa using h2) hx') (guardsOk_get hg hx') hs he hN hd h (fun a' w' hG=>?_) (fun ch a' w' hP=>PanGood.mono hx hP (fun _ _ _ h=>h))
  obtain⟨A',env',st',q1,q2,q3,q4,q5,q6⟩:=hG
  refine tail_sound hr hc hg fuel (i+1) _ a' w' A' env' st' (by omega) (by omega) (by simpa using hsz) (fun j hj=>?_) q2 q3 q4 q5 (hx.trans q6) q1
  rw[getD_set (by omega),hl j hj]
  by_cases h:j=i
  ·subst h;simp
  ·rw[if_neg h];congr 1;simp;omega
def unl (listed:Array Bool)(n:Nat):Nat:=((List.range n).filter fun j=>!listed.getD j true).length
theorem unl_set {listed:Array Bool}{n i:Nat}(hi:i<n)(hsz:n≤listed.size)(h:listed.getD i true=false):unl (listed.setIfInBounds i true) n+1=unl listed n:=by
 unfold unl
 have key:∀(n:Nat),(i<n→((List.range n).filter fun j=>!(listed.setIfInBounds i true).getD j true).length+1=((List.range n).filter fun j=>!listed.getD j true).length) ∧
   (n≤i→((List.range n).filter fun j=>!(listed.setIfInBounds i true).getD j true)=((List.range n).filter fun j=>!listed.getD j true)):=by
  intro n
  induction n with
  |zero=>exact⟨by omega,by simp⟩
  |succ n ih =>
   simp only[List.range_succ,List.filter_append,List.length_append]
   refine⟨fun hlt=>?_,fun hle=>?_⟩
   ·rcases Nat.lt_or_ge i n with h'|h'
    ·have:=ih.1 h'
     have e:(listed.setIfInBounds i true).getD n true=listed.getD n true:=by rw[getD_set_ne true (by omega)]
     simp only[List.filter_cons,e,List.filter_nil]
     omega
    ·have hin:i=n:=by omega
     subst hin
     rw[ih.2 (Nat.le_refl _)]
     have e:(listed.setIfInBounds i true).getD i true=true:=by rw[getD_set (by omega)];simp
     simp only[List.filter_cons,e,h,List.filter_nil]
     simp
   ·rw[ih.2 (by omega)]
    have e:(listed.setIfInBounds i true).getD n true=listed.getD n true:=by rw[getD_set_ne true (by omega)]
    simp only[List.filter_cons,e,List.filter_nil]
 exact(key n).1 hi
theorem exists_first (p:Nat→Bool):∀n,(∃j,j<n∧p j=true)→∃j,j<n∧p j=true∧∀i,i<j→p i=false
 |0,h=>by obtain⟨j,hj,_⟩:=h;omega
 |n+1,h=>by
  by_cases h':∃j,j<n∧p j=true
  ·obtain⟨j,h1,h2,h3⟩:=exists_first p n h'
   exact⟨j,by omega,h2,h3⟩
  ·obtain⟨j,hj,hp⟩:=h
   refine⟨j,hj,hp,fun i hi=>?_⟩
   cases hpi:p i with
   |false=>rfl
   |true=>exact absurd ⟨i,by omega,hpi⟩ h'
theorem any_sound {ops:Array Oper}{l:List Ins}{m:Nat}(hr:RegOk m ops.toList l)(hc:compAll P N.n ops ops.toList=some l)(hg:guardsOk N.n l=true){Q:Post}{w0:World}{A0:Abs}{st:St}{env0:Env}{vals:List V}(hvl:vals.length=m)
  (hv:∀(i:Nat) (x:Ins) (v:V),(l.take m)[i]?=some x→vals[i]?=some v→QV P x (envSel (pairs (l.take m) vals) (fun j=>decide (j<i)) 0 env0) st v)
  (hfin:vcOps P (l.drop m) (envSel (pairs (l.take m) vals) (fun _=>true) 0 env0) st Q) :
  ∀(fuel:Nat) (listed:Array Bool) (a:Act) (w:World) (A:Abs),unl listed l.length=fuel→listed.size=l.length→(∀j,m≤j→j<l.length→(∃i,i<m∧listed.getD i true=false)→listed.getD j true=false) →
  ((∀i,i<m→listed.getD i true=true)→∀j,m≤j→j<l.length→listed.getD j true=false) →
  Sim w A st→EnvSim w A a (envSel (pairs (l.take m) vals) (fun j=>listed.getD j true) 0 env0)→a.tmps.size=N.n→a.defers=N.D→Ext w0 A0 w A→wpAny P .any ops (lift N w0 A0 Q) fuel listed a w:=by
 intro fuel
 have hlen:ops.size=l.length:=by have:=hr.len;simpa using this
 have hmle:=hr.le
 have hpl:(pairs (l.take m) vals).length=m:=by simp[pairs,hvl];omega
 have hpget:∀(i:Nat) (x:Ins) (v:V),l[i]?=some x→vals[i]?=some v→i<m→(pairs (l.take m) vals)[i]?=some (x.dst,v):=by
  intro i x v h1 h2 h3
  simp only[pairs]
  rw[List.getElem?_zip_eq_some]
  exact⟨by rw[List.getElem?_map,List.getElem?_take_of_lt h3,h1];rfl,h2⟩
 have hpinv:∀(i:Nat) (d:Option Nat) (v:V),(pairs (l.take m) vals)[i]?=some (d,v)→∃x,l[i]?=some x∧x.dst=d∧vals[i]?=some v∧i<m:=by
  intro i d v h
  simp only[pairs]at h
  rw[List.getElem?_zip_eq_some]at h
  obtain⟨h1,h2⟩:=h
  have him:i<m:=by have:=(List.getElem?_eq_some_iff.1 h2).1;omega
  rw[List.getElem?_map,List.getElem?_take_of_lt him]at h1
  obtain⟨x,hx,e⟩:=Option.map_eq_some_iff.1 h1
  exact⟨x,hx,e,h2,him⟩
 have uniq:∀(i j:Nat) (s:Nat) (u v:V),(pairs (l.take m) vals)[i]?=some (some s,u)→(pairs (l.take m) vals)[j]?=some (some s,v)→i=j:=by
  intro i j s u v h1 h2
  obtain⟨x,x1,x2,_,x4⟩:=hpinv i _ _ h1
  obtain⟨y,y1,y2,_,y4⟩:=hpinv j _ _ h2
  exact hr.dist i j x y s x4 y4 x1 y1 y2 x2
 induction fuel with
 |zero =>
  intro listed a w A hu hsz hA hB hs he hN hd hx
  have hall:∀j,j<l.length→listed.getD j true=true:=by
   intro j hj
   cases h:listed.getD j true with
   |true=>rfl
   |false =>
    exfalso
    have:j∈(List.range l.length).filter fun j=>!listed.getD j true:=List.mem_filter.2 ⟨List.mem_range.2 hj,by simp[h]⟩
    unfold unl at hu
    rw[List.eq_nil_of_length_eq_zero hu]at this
    cases this
  have hml:m=l.length:=by
   rcases Nat.lt_or_ge m l.length with h|h
   ·have:=hB (fun i hi=>hall i (by omega)) m (Nat.le_refl _) h
    rw[hall m h]at this;cases this
   ·omega
  refine tail_sound hr hc hg 0 m listed a w A _ st (Nat.le_refl _) (by omega) hsz (fun j hj=>by rw[hall j hj];simp;omega) hs ?_ hN hd hx hfin
  have:=envSel_eq (pairs (l.take m) vals) (fun j=>listed.getD j true) (fun _=>true) 0 env0 (fun j hj=>by simp only[Nat.zero_add];exact hall j (by omega))
  rw[this]at he
  exact he
 |succ fuel ih =>
  intro listed a w A hu hsz hA hB hs he hN hd hx
  by_cases hex:∃i,i<m∧(!listed.getD i true)=true
  ·obtain⟨i0,g1,g2,g3⟩:=exists_first _ m hex
   have g2':listed.getD i0 true=false:=by simpa using g2
   have hready:i0∈Region.ready .any ops listed:=by
    refine ready_iff.2 ⟨g2',_,Array.getElem?_eq_getElem (by omega),fun e he'=>?_⟩
    have hb:=hr.back i0 _ (by simp[show i0<ops.size by omega]) e he'
    rw[getD_same (d':=true) (by omega)]
    have:=g3 e hb
    simpa using this
   refine⟨(fun h0=>by rw[h0]at hready;cases hready),fun i hi=>?_⟩
   obtain⟨h1,o,h2,h3⟩:=ready_iff.1 hi
   have hil:i<l.length:=by have:=(Array.getElem?_eq_some_iff.1 h2).1;omega
   have him:i<m:=by
    rcases Nat.lt_or_ge i m with h|h
    ·exact h
    ·have:=h3 i0 (hr.tail i o h (by simpa using h2) i0 (by omega))
     rw[getD_same (d':=true) (by omega),g2']at this;cases this
   obtain⟨x,hxl⟩:∃x,l[i]?=some x:=⟨_,List.getElem?_eq_getElem hil⟩
   obtain⟨v,hvv⟩:∃v,vals[i]?=some v:=⟨_,List.getElem?_eq_getElem (by omega)⟩
   have hq:=hv i x v (by rw[List.getElem?_take_of_lt him];exact hxl) hvv
   have hq':QV P x (envSel (pairs (l.take m) vals) (fun j=>listed.getD j true) 0 env0) st v:=by
    refine QV_congr (fun s hsl=>envSel_congr rfl (fun j u hj=>?_)) hq
    obtain⟨y,y1,y2,y3,y4⟩:=hpinv j _ _ hj
    have hb:=hr.hang i j x y o s him y4 hxl y1 (by simpa using h2) y2 hsl
    have hlt:=hr.back i o (by simpa using h2) j hb
    have hlj:=h3 j hb
    rw[getD_same (d':=true) (by omega)]at hlj
    simp only[Nat.zero_add,hlj]
    simpa using hlt
   refine qv_sound h2 ((compAll_get hc).2 i o x (by simpa using h2) hxl) (guardsOk_get hg hxl) hs he hN hq' (fun u w' A' hu' hs' hx'=>?_)
   have hdlt:∀d,x.dst=some d→d<N.n:=(compIns_inv ((compAll_get hc).2 i o x (by simpa using h2) hxl)).2.2.2
   refine ih _ _ w' A' (by have:=unl_set hil (by omega) h1;omega) (by simpa using hsz) (fun j hj hjl _=>?_) (fun hall j hj hjl=>?_) hs' ?_ (by rw[put_size];exact hN) (by rw[put_defers];exact hd) (hx.trans hx')
   ·rw[getD_set (by omega),if_neg (by omega)];exact hA j hj hjl ⟨i,him,h1⟩
   ·rw[getD_set (by omega),if_neg (by omega)];exact hA j hj hjl ⟨i,him,h1⟩
   ·intro s z hz
    have hsel:∀j,(listed.setIfInBounds i true).getD j true=if j=i then true else listed.getD j true:=fun j=>getD_set (by omega) true
    by_cases hsd:x.dst=some s
    ·have hp:=hpget i x v hxl hvv him
     rw[hsd]at hp
     rw[envSel_hit (i:=i) hp (by simp only[Nat.zero_add];rw[hsel];simp) (fun j u hj=>uniq j i s u v hj hp)]at hz
     cases hz
     have:=(he.mono hx').put (d:=x.dst) (fun d hd'=>by rw[hN];exact hdlt d hd') hu'
     exact this s v (by rw[look_setD,if_pos hsd])
    ·have heq:look (envSel (pairs (l.take m) vals) (fun j=>(listed.setIfInBounds i true).getD j true) 0 env0) s=look (envSel (pairs (l.take m) vals) (fun j=>listed.getD j true) 0 env0) s:=by
      refine envSel_congr rfl (fun j u hj=>?_)
      simp only[Nat.zero_add]
      rw[hsel]
      by_cases hji:j=i
      ·subst hji
       obtain⟨y,y1,y2,_⟩:=hpinv j _ _ hj
       rw[hxl]at y1;cases y1
       exact absurd y2 hsd
      ·rw[if_neg hji]
     rw[heq]at hz
     have:=(he.mono hx').put (d:=x.dst) (fun d hd'=>by rw[hN];exact hdlt d hd') hu'
     exact this s z (by rw[look_setD,if_neg hsd];exact hz)
  ·have hall:∀i,i<m→listed.getD i true=true:=fun i hi=>by
    cases h:listed.getD i true with
    |true=>rfl
    |false=>exact absurd ⟨i,hi,by simp[h]⟩ hex
   have hrest:=hB hall
   have hfuel:m+(fuel+1)=l.length:=by
    have:unl listed l.length=l.length-m:=by
     unfold unl
     have:((List.range l.length).filter fun j=>!listed.getD j true)=(List.range l.length).filter fun j=>decide (m≤j):=by
      apply List.filter_congr
      intro j hj
      have hj:=List.mem_range.1 hj
      rcases Nat.lt_or_ge j m with h|h
      ·rw[hall j h];simp;omega
      ·rw[hrest j h hj];simp;omega
     rw[this]
     have cnt:∀n,m≤n→((List.range n).filter fun j=>decide (m≤j)).length=n-m:=by
      intro n
      induction n with
      |zero=>simp
      |succ n ihn =>
       intro hmn
       rw[List.range_succ,List.filter_append,List.length_append]
       rcases Nat.lt_or_ge n m with h|h
       ·have:m=n+1:=by omega
        subst this
        have:((List.range n).filter fun j=>decide (n+1≤j))=[]:=by
         apply List.filter_eq_nil_iff.2
         intro j hj;have:=List.mem_range.1 hj;simp;omega
        rw[this];simp
       ·rw[ihn h];simp[h];omega
     exact cnt _ hmle
    omega
   refine tail_sound hr hc hg (fuel+1) m listed a w A _ st (Nat.le_refl _) hfuel hsz (fun j hj=>?_) hs ?_ hN hd hx hfin
   ·rcases Nat.lt_or_ge j m with h|h
    ·rw[hall j h];simp[h]
    ·rw[hrest j h hj];simp;omega
   ·have:=envSel_eq (pairs (l.take m) vals) (fun j=>listed.getD j true) (fun _=>true) 0 env0 (fun j hj=>by simp only[Nat.zero_add];exact hall j (by omega))
    rw[this]at he
    exact he
theorem W_dreg (hm:P.follows .mixedOrders=true){id:Nat}{ops:Array Oper}{l:List Ins}{m:Nat}(hc:compAll P N.n ops ops.toList=some l)(hg:guardsOk N.n l=true)(hr:regOk m ops.toList l=true){env:Env}{st:St}{Q:Post}
  (h:vcQ P (l.take m) env st fun env'=>vcOps P (l.drop m) env' st Q):W P N (.region id ops true) env st Q:=by
 intro w A a hs he hN hd
 have hr':=regOk_spec hr
 obtain⟨vals,v1,v2,v3⟩:=vcQ_vals h
 have hlen:ops.size=l.length:=by have:=hr'.len;simpa using this
 have hml:(l.take m).length=m:=by have:=hr'.le;simp;omega
 refine wp_region_any hm ?_
 have hx:Ext w A { w with drawn:=w.drawn+1 } A:=Ext.drewN w A _
 have hs1:Sim { w with drawn:=w.drawn+1 } A st:=by
  refine⟨hs.nx,fun id cs h=>(hs.mem id cs h).of_heap hx (hs.mem id cs h).own rfl (hs.mem id cs h).noC,fun id ar h=>(hs.arr id ar h).of_heap hx rfl (fun g hg=>⟨hg,rfl,fun _=>Iff.rfl⟩),hs.Clt,hs.ownlt,hs.disj,hs.x.same hx rfl hs.ownlt (fun _ _=>rfl) (fun _ _ h _=>h) (fun _ _ _ h=>h) (fun _ _ h=>h) (fun _ _ h=>h)⟩
 have hfalse:∀j,j<l.length→(Array.replicate ops.size false).getD j true=false:=fun j hj=>by
  simp[hlen,hj]
 have henv:envSel (pairs (l.take m) vals) (fun j=>(Array.replicate ops.size false).getD j true) 0 env=env:=by
  have e:=envSel_eq (pairs (l.take m) vals) (fun j=>(Array.replicate ops.size false).getD j true) (fun _=>false) 0 env (fun j hj=>by
   simp only[Nat.zero_add];exact hfalse j (by simp[pairs]at hj;omega))
  rw[e]
  have none:∀(ps:List (Option Nat×V)) (k:Nat) (env:Env),envSel ps (fun _=>false) k env=env:=by
   intro ps
   induction ps with
   |nil=>intro _ _;rfl
   |cons p ps ih=>intro k env;simp only[envSel];exact ih _ _
  exact none _ _ _
 refine any_sound (w0:=w) (A0:=A) hr' hc hg (by omega) v2 v3 ops.size _ a _ A ?_ (by simp[hlen]) (fun j _ hj _=>hfalse j hj) (fun hall j hmj hj=>hfalse j hj) hs1 (by rw[henv];exact he.mono hx) hN hd hx
 unfold unl
 rw[List.filter_eq_self.2 (fun j hj=>by rw[hfalse j (List.mem_range.1 hj)];rfl)]
 simp[hlen]
structure RegOkS (m:Nat) (ops:List Oper) (l:List Ins):Prop where
 lt:m<l.length
 len:ops.length=l.length
 back:∀(i:Nat) (o:Oper),ops[i]?=some o→∀e∈bindsE o,e<i
 hang:∀(i j:Nat) (x y:Ins) (o:Oper) (d:Nat),i≤m→j<m→l[i]?=some x→l[j]?=some y→ops[i]?=some o→y.dst=some d→d∈x.slots→j∈bindsE o
 dist:∀(i j:Nat) (x y:Ins) (d:Nat),i<m→j<m→l[i]?=some x→l[j]?=some y→y.dst=some d→x.dst=some d→i=j
 tail:∀(k:Nat) (o:Oper),m+1≤k→ops[k]?=some o→∀j,j<k→j∈bindsE o
 dst:∀x,l[m]?=some x→x.dst=none∧x.g=none
end
end Go.Sha
