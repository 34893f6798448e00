/- slices. -/
import Derived.Test.YtmjkgajnpmiomaaGreatDoorLShbYB
set_option linter.unusedSimpArgs false
set_option linter.unusedVariables false
namespace Go.Sha
section
variable {P:Program}{N:Fr}{H:EvF}
def WD (P:Program)(N:Fr)(cd:Cd)(env:Env)(st:St)(Q:Post):Prop:=∀c,compC P N.n c=some cd.bare→W P N c env st Q
theorem WD.mono {cd:Cd}{env:Env}{st:St}{Q Q':Post}(h:WD P N cd env st Q)(hq:∀x e s,Q x e s→Q' x e s):WD P N cd env st Q':=fun c hc=>W_mono (h c hc) hq
theorem bare_seq {n:Nat}{c:Code}{a b:Cd}(hc:compC P n c=some (.seq a b)):∃ca cb,c=.seq ca cb∧compC P n ca=some a∧compC P n cb=some b:=by
 cases c<;>simp only[compC,gregO,gregC]at hc<;>(repeat' split at hc)<;>first
  |(cases hc;done)
  |(obtain⟨y,hy,e⟩:=Option.map_eq_some_iff.1 hc;cases e;done)
  |skip
 cases hc
 exact⟨_,_,rfl,by assumption,by assumption⟩
theorem WD.seq {a b:Cd}{env:Env}{st:St}{Q:Post}(h:WD P N a env st (seqPost (fun e s=>WD P N b e s Q) Q)):WD P N (.seq a b) env st Q:=fun c hc=>by
 obtain⟨ca,cb,rfl,h1,h2⟩:=bare_seq hc
 refine W_seq (W_mono (h ca h1) fun x e s hq=>?_)
 cases x<;>first|exact hq cb h2|exact hq
theorem WD.join {lv:List Nat}{a b:Cd}{env:Env}{st:St}{Q:Post}(h:WD P N a env st (seqPost (fun e s=>WD P N b (restr lv e) s Q) Q)):WD P N (.join lv a b) env st Q:=fun c hc=>by
 obtain⟨ca,cb,rfl,h1,h2⟩:=bare_seq hc
 refine W_seq (W_mono (h ca h1) fun x e s hq=>?_)
 cases x<;>first|exact W_restr (hq cb h2)|exact hq
theorem WD.block {id:Nat}{a:Cd}{env:Env}{st:St}{Q:Post}(h:WD P N a env st (blockPost id Q)):WD P N (.block id a) env st Q:=fun c hc=>by
 cases c<;>simp only[compC,gregO,gregC,Cd.bare]at hc<;>(repeat' split at hc)<;>first
  |(cases hc;done)
  |(obtain⟨y,hy,e⟩:=Option.map_eq_some_iff.1 hc;cases e;done)
  |skip
 obtain⟨y,hy,e⟩:=Option.map_eq_some_iff.1 hc
 cases e
 exact W_block (h _ hy)
theorem WD.own {lv:List Nat}{t e es:Nat}{r:List (Nat×Nat×Nat)}{a:Cd}{env:Env}{st:St}{Q:Post}(hl:look env t=some .nils)
  (k:WD P N (.loop lv r a) ((t,.osl st.nx 0)::env) ⟨st.nx+1,st.mem,(st.nx,⟨e,es,[],false,false⟩)::st.arr,st.x⟩ Q):WD P N (.loop lv ((t,e,es)::r) a) env st Q:=fun c hc=>W_own e es hl (k c hc)
theorem WD.loop {lv:List Nat}{r:List (Nat×Nat×Nat)}{a:Cd}{env:Env}{st:St}{Q:Post}(I:Nat→Env→St→Prop)(nx:Nat)(hnx:st.nx≤nx)(hI:∀n e s,I n e s→s.nx=nx)(h0:∃n env' st',I n env' st'∧WeakEnv nx env env'∧Weak nx st st')
  (round:∀n e s,I n e s→WD P N a e s (seqPost (Again nx I n) Q)):WD P N (.loop lv r a) env st Q:=fun c hc=>by
 cases c<;>simp only[compC,gregO,gregC,Cd.bare]at hc<;>(repeat' split at hc)<;>first
  |(cases hc;done)
  |(obtain⟨y,hy,e⟩:=Option.map_eq_some_iff.1 hc;cases e;done)
  |skip
 obtain⟨y,hy,e⟩:=Option.map_eq_some_iff.1 hc
 cases e
 exact W_loop I nx hnx hI h0 fun n e s hi=>round n e s hi _ hy
theorem frzR_W2 {c:Code}{Q1 Q:Post}{k:Env→St→Rc}(hk:∀env st,Has Q1 (k env st)→W P N c env st Q):∀{l:List Nat}{env:Env}{st:St},Has Q1 (frzR k l env st)→W P N c env st Q
 |[],env,st,h=>hk _ _ h
 |t::r,env,st,h=>by
  unfold frzR at h
  split at h
  ·rename_i hl
   split at h
   ·rename_i hm;exact W_frzM hl hm (frzR_W2 hk h)
   ·exact frzR_W2 hk h
  ·exact frzR_W2 hk h
def Cd.put:Cd→Cd→Cd
 | .seq a b,k=>.seq a (b.put k)
 | .join lv a b,k=>.join lv a (b.put k)
 | .frz l a,k=>.frz l (a.put k)
 | .skip,k=>k
 |c,k=>.seq c k
theorem WD.put (hm:P.follows .mixedOrders=true){E:EvF}(hE:ESound P E){k:Cd}{Q:Post}:∀(n:Nat) {cd:Cd}{env:Env}{st:St},Has (seqPost (fun e s=>WD P N k e s Q) Q) (evC E n cd env st)→WD P N (cd.put k) env st Q
 |0,cd,env,st,⟨_,_,_,h,_⟩=>by cases h
 |n+1,cd,env,st,h=>by
  cases cd with
  |seq a b =>
   simp only[evC]at h
   obtain⟨x,e,s,h,hq⟩:=h
   refine WD.seq ?_
   cases hz:evC E n a env st with
   |none=>rw[hz]at h;cases h
   |some z =>
    obtain⟨x2,e2,s2⟩:=z
    rw[hz]at h
    intro c hc
    refine evC_sound hm hE n hc ⟨x2,e2,s2,hz,?_⟩
    cases x2 with
    |normal=>exact WD.put hm hE n ⟨x,e,s,h,hq⟩
    |_=>simp only[seqR]at h;cases h;exact hq
  |join lv a b =>
   simp only[evC]at h
   obtain⟨x,e,s,h,hq⟩:=h
   refine WD.join ?_
   cases hz:evC E n a env st with
   |none=>rw[hz]at h;cases h
   |some z =>
    obtain⟨x2,e2,s2⟩:=z
    rw[hz]at h
    intro c hc
    refine evC_sound hm hE n hc ⟨x2,e2,s2,hz,?_⟩
    cases x2 with
    |normal=>exact WD.put hm hE n ⟨x,e,s,h,hq⟩
    |_=>simp only[restR,seqR]at h;cases h;exact hq
  |frz l a =>
   simp only[evC]at h
   exact fun c hc=>frzR_W2 (k:=evC E n a) (fun env st h=>WD.put hm hE n h c hc) h
  |skip =>
   simp only[evC]at h
   obtain⟨x,e,s,h,hq⟩:=h
   cases h
   exact hq
  |_ =>
   refine WD.seq fun c hc=>evC_sound hm hE (n+1) hc h
theorem WD.run (hm:P.follows .mixedOrders=true)(hH:ESound P H){k cd:Cd}{env:Env}{st:St}{Q:Post}{x:VX}{e:Env}{s:St}(h:runC P H cd env st=some (x,e,s))(hq:seqPost (fun e s=>WD P N k e s Q) Q x e s):WD P N (cd.put k) env st Q:=by
 obtain⟨n,hn⟩:=lub_some h
 exact WD.put hm (run_sound hm hH) n ⟨_,_,_,hn,hq⟩
theorem VCalls_WD {f:FuncId}{F:Fx}(hF:compF P f=some F){args:List V}(ha:args.length≤F.N){st:St}{R:VRes→St→Prop}
  (h:∀N,WD P ⟨N,[]⟩ F.c (argEnv 0 args) st (fun x e s=>∃r s',rawE F.res (some (x,e,s))=some (r,s')∧R r s')):VCalls P f args st R:=by
 unfold compF at hF
 split at hF
 ·rename_i fn hf
  split at hF
  ·rename_i c hb
   split at hF
   ·rename_i res T hres hT
    split at hF
    ·rename_i hname
     generalize hcd:Cd.fz _ (T.ann [] (res.map (·.slot)) (res.map (·.slot)))=cd at hF
     have hcb:cd.bare=T:=by rw[←hcd,Cd.fz_bare,Cd.ann_bare,compC_bare hT]
     cases hF
     have hW:=h fn.ntmps c (by rw[hcb];exact hT)
     refine .inl ⟨⟨fn,hf,hname,by simp[hb]⟩,fun w A vs hs hr=>?_⟩
     have hvl:vs.length≤fn.ntmps:=by rw[hr.1];exact ha
     have hend:∀{w':World}{A':Abs}{a':Act}{x:VX}{e:Env}{s1:St},x=.normal∨x=.ret→Sim w' A' s1→EnvSim w' A' a' e→a'.defers=[]→Ext w A w' A'→(∃r s',rawE res (some (x,e,s1))=some (r,s')∧R r s') →
       a'.defers=[]∧∃v,(results fn a'.tmps).run P w'=.ok v w'∧∃r' A' st',R r' st'∧EndRel w' A' (.returned v) r'∧Sim w' A' st'∧Ext w A w' A':=fun {w' A' a' x e s1} hx hs' he' hd' hx' ⟨r,s,h,hR⟩=>by
      have hds:∃ds,resV e s1 res=some ds∧r=.ret (resOne ds)∧s=s1:=by
       rcases hx with rfl|rfl<;>(simp only[rawE]at h;cases hd:resV e s1 res<;>rw[hd]at h<;>simp only[rawO]at h<;>cases h;exact⟨_,rfl,rfl,rfl⟩)
      obtain⟨ds,h1,rfl,rfl⟩:=hds
      obtain⟨v,hrun,hv⟩:=run_results (fn:=fn) hs' he' hres h1
      exact⟨hd',v,hrun,_,A',_,hR,hv,hs',hx'⟩
     refine calls_of_wp hf hb (Code.wp_mono (fun ex a' w' hq=>?_) (hW w A { tmps:=vs.toArray++Array.replicate (fn.ntmps-vs.toArray.size) undef,defers:=[] } hs ?_ (by simp;omega) rfl))
     ·cases ex with
      |normal =>
       obtain⟨A',env',st1,hR,q2,q3,_,q5,q6⟩:=hq
       exact hend (.inl rfl) q2 q3 q5 q6 hR
      |ret =>
       obtain⟨A',env',st1,hR,q2,q3,_,q5,q6⟩:=hq
       exact hend (.inr rfl) q2 q3 q5 q6 hR
      |panic ch =>
       obtain⟨A',env',st1,v,d,e1,e2,⟨r,s,h,hR⟩,q2,q3,_,q5,q6⟩:=hq
       simp only[rawE]at h
       cases h
       exact⟨q5,.pan d,A',_,hR,⟨v,e1,e2⟩,q2,q6⟩
      |exit id =>
       obtain⟨A',env',st1,⟨r,s,h,hR⟩,_⟩:=hq
       simp only[rawE]at h;cases h
      |goto l=>exact hq.elim
      |outgrown=>exact hq.elim
     ·intro i v hv
      obtain⟨_,hv⟩:=look_argEnv args 0 i v hv
      simp only[Nat.sub_zero]at hv
      have hlt:i<vs.length:=by have:=(List.getElem?_eq_some_iff.1 hv).1;have:=hr.1;omega
      have:(vs.toArray++Array.replicate (fn.ntmps-vs.toArray.size) undef).getD i undef=vs[i]:=by
       rw[Array.getD_eq_getD_getElem?,Array.getElem?_append_left (by simpa using hlt)];simp[hlt]
      rw[this]
      exact hr.2 i vs[i] v (List.getElem?_eq_getElem hlt) hv
    ·cases hF
   ·cases hF
  ·cases hF
 ·cases hF
end
end Go.Sha
namespace Go.Sha
section
variable {P:Program}{N:Fr}{H:EvF}
end
end Go.Sha
namespace Go.Sha
section
variable {P:Program}{N:Fr}{H:EvF}
theorem insR_sound {w:World}{A:Abs}{st st':St}{a:Act}{env:Env}{ops:Array Oper}{k:Nat}{o:Oper}{i:Ins}{wr:Bool}{d:V}(hk:ops[k]?=some o)(hi:compIns P N.n ops o=some i)(hg:∀d,i.g=some d→d.1<N.n)(hs:Sim w A st)(he:EnvSim w A a env)(hN:a.tmps.size=N.n)(hd:a.defers=N.D)
  (hw:wantV env i.g=some true) (hst:stR wr i.op env st=some (d,st')) {K':Act→World→Prop}{Q':Exit→Act→World→Prop}
  (hK:∀a' w',Good N w A (fun e s=>e=setD env i.dst d∧s=st') a' w'→K' a' w'):wpOp P ops Q' k K' a w:=by
 obtain⟨hc,hgd,hdst,hlt⟩:=compIns_inv hi
 unfold wpOp
 simp only[hk]
 have hwant:=wanted_eq he hgd hw (fun d hd'=>by rw[hN];exact hg d hd')
 rw[hwant]
 simp only[if_true]
 refine .inl ?_
 unfold Oper.wp
 obtain⟨nx,w',A',hrun,hnx,hs',hx⟩:=stR_sound hc hs he hst
 rw[hrun]
 rcases hnx with⟨u,rfl,hu⟩|⟨rfl,rfl⟩
 ·rw[Oper.upon_value]
  refine hK _ _ ⟨A',_,st',⟨rfl,rfl⟩,hs',?_,by rw[put_size];exact hN,by rw[put_defers];exact hd,hx⟩
  rw[hdst]
  exact(he.mono hx).put (fun j hj=>by rw[hN];exact hlt j hj) hu
 ·rw[Oper.upon_skip]
  refine hK _ _ ⟨A',_,st',⟨rfl,rfl⟩,hs',?_,by rw[put_size];exact hN,by rw[put_defers];exact hd,hx⟩
  rw[hdst]
  exact(he.mono hx).put (fun j hj=>by rw[hN];exact hlt j hj) (.und _)
def vcR (P:Program):List Ins→List (Option Bool)→Env→St→Post→Prop
 |i::r,some wr::fs,env,st,Q=>wantV env i.g=some true∧∃d st',stR wr i.op env st=some (d,st')∧vcR P r fs (setD env i.dst d) st' Q
 |i::r,none::fs,env,st,Q=>vcOps P [i] env st (seqPost (fun e s=>vcR P r fs e s Q) Q)
 |[],_::_,env,st,Q=>Q .normal env st
 |l,[],env,st,Q=>vcOps P l env st Q
theorem opsR_sound {ops:Array Oper}{Q:Post}{w0:World}{A0:Abs}:∀(fs:List (Option Bool)) (os:List Oper) (l:List Ins) (k:Nat) (env:Env) (st:St) (w:World) (A:Abs) (a:Act),compAll P N.n ops os=some l→guardsOk N.n l=true→(∀(j:Nat),os[j]?=ops[k+j]?) →
  Sim w A st→EnvSim w A a env→a.tmps.size=N.n→a.defers=N.D→Ext w0 A0 w A→vcR P l fs env st Q→wpOps P ops (lift N w0 A0 Q) (List.range' k os.length) a w
 |[],os,l,k,env,st,w,A,a,hc,hg,hk,hs,he,hN,hd,hx,h=>ops_sound os l k env st w A a hc hg hk hs he hN hd hx (by cases l<;>exact h)
 |f::fs,[],l,k,env,st,w,A,a,hc,_,_,hs,he,hN,hd,hx,h=>by
  simp[compAll]at hc;subst hc
  simp only[vcR]at h
  exact⟨A,env,st,h,hs,he,hN,hd,hx⟩
 |f::fs,o::os,l,k,env,st,w,A,a,hc,hg,hk,hs,he,hN,hd,hx,h=>by
  simp only[compAll]at hc
  split at hc
  ·rename_i i l' hi hl
   cases hc
   obtain⟨g1,g2⟩:=guardsOk_cons hg
   rw[List.length_cons,List.range'_succ,wpOps_cons]
   cases f with
   |some wr =>
    obtain⟨hw,d,st',hst,h⟩:=h
    refine insR_sound (by have:=hk 0;simpa using this.symm) hi g1 hs he hN hd hw hst (fun a' w' hG=>?_)
    obtain⟨A',env',st2,⟨rfl,rfl⟩,q2,q3,q4,q5,q6⟩:=hG
    exact opsR_sound fs os l' (k+1) _ _ w' A' a' hl g2 (fun j=>by have:=hk (j+1);simp at this;rw[this];congr 1;omega) q2 q3 q4 q5 (hx.trans q6) h
   |none =>
    refine ins_sound (by have:=hk 0;simpa using this.symm) hi g1 hs he hN hd h (fun a' w' hG=>?_) (fun ch a' w' hP=>?_)
    ·obtain⟨A',env',st',q1,q2,q3,q4,q5,q6⟩:=hG
     exact opsR_sound fs os l' (k+1) env' st' w' A' a' hl g2 (fun j=>by have:=hk (j+1);simp at this;rw[this];congr 1;omega) q2 q3 q4 q5 (hx.trans q6) q1
    ·exact PanGood.mono hx hP (fun _ _ _ h=>h)
  ·cases hc
theorem WD.regR {l:List Ins}{env:Env}{st:St}{Q:Post}(fs:List (Option Bool))(h:vcR P l fs env st Q):WD P N (.reg l) env st Q:=fun c hc=>by
 cases c<;>simp only[compC,gregO,gregC,Cd.bare]at hc<;>(repeat' split at hc)<;>first
  |(cases hc;done)
  |(obtain⟨y,hy,e⟩:=Option.map_eq_some_iff.1 hc;cases e;done)
  |skip
 cases hc
 rename_i _ d _ hd hl hg
 cases d with
 |true=>exact absurd rfl hd
 |false =>
  intro w A a hs he hN hd
  refine wp_region ?_
  have:=opsR_sound (w0:=w) (A0:=A) fs _ l 0 env st w A a hl hg (by simp) hs he hN hd (Ext.refl w A) h
  simpa [List.range_eq_range'] using this
theorem WD.sub {c:Cd}{env env':Env}{st:St}{Q:Post}(he:∀i v,look env' i=some v→look env i=some v)(k:WD P N c env' st Q):WD P N c env st Q:=fun cc hc w A a hs he' hN hd=>k cc hc w A a hs (fun i v hv=>he' i v (he i v hv)) hN hd
def SOp.plain:SOp→Bool
 | .call _ _ | .panic _ | .nilk _ _ | .nxt _=>false
 |_=>true
theorem vcR_op {d:Option Nat}{op:SOp}{r:List Ins}{fs:List (Option Bool)}{env:Env}{st st':St}{v:V}{Q:Post}(hp:op.plain=true)(h:stv op env st=some (v,st'))(k:vcR P r fs (setD env d v) st' Q):vcR P (⟨d,op,none⟩::r) (none::fs) env st Q:=by
 show vcOps P [⟨d,op,none⟩] env st _
 unfold vcOps
 refine upon_intro (x:=true) rfl ?_
 rw[fork_true]
 split<;>first|(simp[SOp.plain]at hp;done)|skip
 all_goals first
  |(rename_i h1;dsimp only at h1;subst h1;simp[SOp.plain]at hp;done)
  |(refine upon_intro (x:=(v,st')) h ?_;exact k)
theorem vcR_raw {d:Option Nat}{op:SOp}{r:List Ins}{fs:List (Option Bool)}{env:Env}{st st':St}{v:V}{Q:Post}(wr:Bool)(h:stR wr op env st=some (v,st'))(k:vcR P r fs (setD env d v) st' Q):vcR P (⟨d,op,none⟩::r) (some wr::fs) env st Q:=⟨rfl,v,st',h,k⟩
theorem WD.cond {o:Opd}{a b:Cd}{env:Env}{st:St}{Q:Post}{t:Bool}(hc:o.get env=.bool t)(h1:t=true→WD P N a env st Q)(h2:t=false→WD P N b env st Q):WD P N (.cond o a b) env st Q:=fun c hcc=>by
 cases c<;>simp only[compC,gregO,gregC,Cd.bare]at hcc<;>(repeat' split at hcc)<;>first
  |(cases hcc;done)
  |(obtain⟨y,hy,e⟩:=Option.map_eq_some_iff.1 hcc;cases e;done)
  |skip
 cases hcc
 exact W_cond (by assumption) hc (fun t=>h1 t _ (by assumption)) (fun t=>h2 t _ (by assumption))
end
end Go.Sha
namespace Go.Sha
section
variable {P:Program}{N:Fr}{H:EvF}
def cloneC (e es b:Nat):Cd:=.g [.s 2 (.mv (.c .nils))] (.join [0] (.g [.m 3 0,.s 4 (.nilk false (.t 3))] (.i 4 (.g [.s 2 (.mv (.c .nils))] (.ret [2])) .skip)) (.g [.s 5 (.bslice e es []),.m 6 0,.s 7 (.append e es b (.t 5) (.t 6)),.m 2 7] (.ret [2])))
theorem vcOps_nil {env:Env}{st:St}{Q:Post}(h:Q .normal env st):vcOps P [] env st Q:=by
 unfold vcOps;exact h
theorem vcR_nilk {d:Option Nat}{ne:Bool}{x:Opd}{r:List Ins}{fs:List (Option Bool)}{env:Env}{st:St}{Q:Post}(h:nilK st (fun b=>vcR P r fs (setD env d (.bool (b != ne))) st Q) (x.get env)):vcR P (⟨d,.nilk ne x,none⟩::r) (none::fs) env st Q:=by
 show vcOps P [⟨d,.nilk ne x,none⟩] env st _
 unfold vcOps
 refine upon_intro (x:=true) rfl ?_
 rw[fork_true]
 exact h
theorem WD.skip {env:Env}{st:St}{Q:Post}(h:Q .normal env st):WD P N .skip env st Q:=fun c hc=>by
 cases c<;>simp only[compC,gregO,gregC,Cd.bare]at hc<;>(repeat' split at hc)<;>first
  |(cases hc;done)
  |(obtain⟨y,hy,e⟩:=Option.map_eq_some_iff.1 hc;cases e;done)
  |skip
 exact W_skip h
theorem WD.ret {lv:List Nat}{env:Env}{st:St}{Q:Post}(h:Q .ret env st):WD P N (.ret lv) env st Q:=fun c hc=>by
 cases c<;>simp only[compC,gregO,gregC,Cd.bare]at hc<;>(repeat' split at hc)<;>first
  |(cases hc;done)
  |(obtain⟨y,hy,e⟩:=Option.map_eq_some_iff.1 hc;cases e;done)
  |skip
 exact W_ret h
theorem clone_W {e es b:Nat}{xs:List V}{st:St}(hd:∀s,mapO (snapA s) xs=some xs)(hc:xs.all (fun y=>y.cells.length == es)=true)(hr:roomV xs.length b=true){Q:Post}
  (h0:xs=[]→∀env,look env 2=some .nils→Q .ret env st)
  (h1:∀env,look env 2=some (.osl st.nx xs.length)→Q .ret env ⟨st.nx+1,st.mem,(st.nx,⟨e,es,xs,true,false⟩)::st.arr,st.x⟩):WD P N (cloneC e es b) [(0,.sl xs)] st Q:=by
 have hF:WD P N (.g [.s 5 (.bslice e es []),.m 6 0,.s 7 (.append e es b (.t 5) (.t 6)),.m 2 7] (.ret [2])) [(0,.sl xs)] st Q:=by
  refine WD.seq (WD.regR [some true,none,none,none] (vcR_raw true (v:=.osl st.nx 0) (st':=⟨st.nx+1,st.mem,(st.nx,⟨e,es,[],true,false⟩)::st.arr,st.x⟩) rfl (vcR_op rfl (v:=.sl xs) (st':=⟨st.nx+1,st.mem,(st.nx,⟨e,es,[],true,false⟩)::st.arr,st.x⟩) rfl
   (vcR_op rfl (v:=.osl st.nx xs.length) (st':=⟨st.nx+1,st.mem,(st.nx,⟨e,es,xs,true,false⟩)::st.arr,st.x⟩) ?_ (vcR_op rfl (v:=.osl st.nx xs.length) (st':=⟨st.nx+1,st.mem,(st.nx,⟨e,es,xs,true,false⟩)::st.arr,st.x⟩) rfl (vcOps_nil ?_))))))
  ·show appendV _ _ _ _ (.osl st.nx 0) (.sl xs)=_
   simp[appendV,elemsV,hd,hc,appG,appA,look,hr,updA]
  ·refine WD.ret (h1 _ rfl)
 unfold cloneC
 refine WD.seq (WD.regR [none] (vcR_op rfl (v:=.nils) (st':=st) rfl (vcOps_nil ?_)))
 show WD P N _ _ _ _
 refine WD.join (WD.seq (WD.regR [none,none] (vcR_op rfl (v:=.sl xs) (st':=st) rfl (vcR_nilk ?_))))
 have kf:WD P N (.i 4 (.g [.s 2 (.mv (.c .nils))] (.ret [2])) .skip) [(4,.bool false),(3,.sl xs),(2,.nils),(0,.sl xs)] st (seqPost (fun e1 s=>WD P N (.g [.s 5 (.bslice e es []),.m 6 0,.s 7 (.append e es b (.t 5) (.t 6)),.m 2 7] (.ret [2])) (restr [0] e1) s Q) Q) :=
  WD.cond (t:=false) rfl (fun h=>by cases h) fun _=>WD.skip hF
 show nilK st _ (.sl xs)
 cases xs with
 |nil =>
  refine⟨vcOps_nil ?_,vcOps_nil kf⟩
  refine WD.cond (t:=true) rfl (fun _=>?_) (fun h=>by cases h)
  refine WD.seq (WD.regR [none] (vcR_op rfl (v:=.nils) (st':=st) rfl (vcOps_nil ?_)))
  exact WD.ret (h0 rfl _ rfl)
 |cons x r =>
  simp only[nilK]
  exact vcOps_nil kf
def fast1:V→Bool
 | .osl _ _ | .nils | .clip _=>false
 |_=>true
def fastA:V→Bool
 | .agg cs=>cs.all fast1
 |v=>fast1 v
theorem fast1_snap {v:V}(h:fast1 v=true)(s:St):snap1 s v=some v:=by
 cases v<;>first|rfl|cases h
theorem mapO_id {f:V→Option V}:∀{l:List V},(∀v∈l,f v=some v)→mapO f l=some l
 |[],_=>rfl
 |v::r,h=>by
  simp only[mapO,h v (List.mem_cons_self ..),mapO_id (l:=r) fun x hx=>h x (List.mem_cons_of_mem _ hx)]
theorem fastA_snap {v:V}(h:fastA v=true)(s:St):snapA s v=some v:=by
 cases v<;>first|rfl|(cases h;done)|skip
 rename_i cs
 simp only[fastA,List.all_eq_true]at h
 simp only[snapA,mapO_id fun v hv=>fast1_snap (h v hv) s,Option.map_some]
theorem fast_all {xs:List V}(h:xs.all fastA=true)(s:St):mapO (snapA s) xs=some xs:=mapO_id fun v hv=>fastA_snap (List.all_eq_true.1 h v hv) s
end
end Go.Sha
