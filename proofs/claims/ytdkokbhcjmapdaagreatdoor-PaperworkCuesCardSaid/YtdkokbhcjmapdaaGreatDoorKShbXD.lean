/- Code with a step that has several answers: by rules. -/
import Derived.Test.YtdkokbhcjmapdaaGreatDoorKShbYB
set_option linter.unusedSimpArgs false
set_option linter.unusedVariables false
namespace Go.Sha
section
variable {P:Program}{N:Fr}{H:EvF}
def WD (P:Program)(N:Fr)(cd:Cd)(env:Env)(st:St)(Q:Post):Prop:=∀c,compC P N.n c=some cd.bare→W P N c env st Q
theorem WD.mono {cd:Cd}{env:Env}{st:St}{Q Q':Post}(h:WD P N cd env st Q)(hq:∀x e s,Q x e s→Q' x e s):WD P N cd env st Q':=fun c hc=>W_mono (h c hc) hq
theorem WD.ev (hm:P.follows .mixedOrders=true)(hH:ESound P H){cd:Cd}{env:Env}{st:St}{Q:Post}{x:VX}{e:Env}{s:St}(h:runC P H cd env st=some (x,e,s))(hq:Q x e s):WD P N cd env st Q:=fun c hc=>by
 obtain⟨n,hn⟩:=lub_some h
 exact evC_sound hm (run_sound hm hH) n hc ⟨_,_,_,hn,hq⟩
theorem bare_seq {n:Nat}{c:Code}{a b:Cd}(hc:compC P n c=some (.seq a b)):∃ca cb,c=.seq ca cb∧compC P n ca=some a∧compC P n cb=some b:=by
 cases c<;>simp only[compC]at hc<;>(repeat' split at hc)<;>first
  |(cases hc;done)
  |(obtain⟨y,hy,e⟩:=Option.map_eq_some_iff.1 hc;cases e;done)
  |skip
 cases hc
 exact⟨_,_,rfl,by assumption,by assumption⟩
theorem WD.seq {a b:Cd}{env:Env}{st:St}{Q:Post}(h:WD P N a env st (seqPost (fun e s=>WD P N b e s Q) Q)):WD P N (.seq a b) env st Q:=fun c hc=>by
 obtain⟨ca,cb,rfl,h1,h2⟩:=bare_seq hc
 refine W_seq (W_mono (h ca h1) fun x e s hq=>?_)
 cases x<;>first|exact hq cb h2|exact hq
theorem WD.join {lv:List Nat}{a b:Cd}{env:Env}{st:St}{Q:Post}(h:WD P N a env st (seqPost (fun e s=>WD P N b (restr lv e) s Q) Q)):WD P N (.join lv a b) env st Q:=fun c hc=>by
 obtain⟨ca,cb,rfl,h1,h2⟩:=bare_seq hc
 refine W_seq (W_mono (h ca h1) fun x e s hq=>?_)
 cases x<;>first|exact W_restr (hq cb h2)|exact hq
theorem WD.block {id:Nat}{a:Cd}{env:Env}{st:St}{Q:Post}(h:WD P N a env st (blockPost id Q)):WD P N (.block id a) env st Q:=fun c hc=>by
 cases c<;>simp only[compC,Cd.bare]at hc<;>(repeat' split at hc)<;>first
  |(cases hc;done)
  |(obtain⟨y,hy,e⟩:=Option.map_eq_some_iff.1 hc;cases e;done)
  |skip
 obtain⟨y,hy,e⟩:=Option.map_eq_some_iff.1 hc
 cases e
 exact W_block (h _ hy)
theorem WD.reg {l:List Ins}{env:Env}{st:St}{Q:Post}(h:vcOps P l env st Q):WD P N (.reg l) env st Q:=fun c hc=>by
 cases c<;>simp only[compC,Cd.bare]at hc<;>(repeat' split at hc)<;>first
  |(cases hc;done)
  |(obtain⟨y,hy,e⟩:=Option.map_eq_some_iff.1 hc;cases e;done)
  |skip
 cases hc
 rename_i _ d _ hd hl hg
 cases d with
 |true=>exact absurd rfl hd
 |false=>exact W_region hl hg h
theorem WD.own {lv:List Nat}{t e es:Nat}{r:List (Nat×Nat×Nat)}{a:Cd}{env:Env}{st:St}{Q:Post}(hl:look env t=some .nils)
  (k:WD P N (.loop lv r a) ((t,.osl st.nx 0)::env) ⟨st.nx+1,st.mem,(st.nx,⟨e,es,[],false,false⟩)::st.arr,st.x⟩ Q):WD P N (.loop lv ((t,e,es)::r) a) env st Q:=fun c hc=>W_own e es hl (k c hc)
theorem WD.loop {lv:List Nat}{r:List (Nat×Nat×Nat)}{a:Cd}{env:Env}{st:St}{Q:Post}(I:Nat→Env→St→Prop)(nx:Nat)(hnx:st.nx≤nx)(hI:∀n e s,I n e s→s.nx=nx)(h0:∃n env' st',I n env' st'∧WeakEnv nx env env'∧Weak nx st st')
  (round:∀n e s,I n e s→WD P N a e s (seqPost (Again nx I n) Q)):WD P N (.loop lv r a) env st Q:=fun c hc=>by
 cases c<;>simp only[compC,Cd.bare]at hc<;>(repeat' split at hc)<;>first
  |(cases hc;done)
  |(obtain⟨y,hy,e⟩:=Option.map_eq_some_iff.1 hc;cases e;done)
  |skip
 obtain⟨y,hy,e⟩:=Option.map_eq_some_iff.1 hc
 cases e
 exact W_loop I nx hnx hI h0 fun n e s hi=>round n e s hi _ hy
theorem frzR_W2 {c:Code}{Q1 Q:Post}{k:Env→St→Rc}(hk:∀env st,Has Q1 (k env st)→W P N c env st Q):∀{l:List Nat}{env:Env}{st:St},Has Q1 (frzR k l env st)→W P N c env st Q
 |[],env,st,h=>hk _ _ h
 |t::r,env,st,h=>by
  unfold frzR at h
  split at h
  ·rename_i hl
   split at h
   ·rename_i hm;exact W_frzM hl hm (frzR_W2 hk h)
   ·exact frzR_W2 hk h
  ·exact frzR_W2 hk h
def Cd.put:Cd→Cd→Cd
 | .seq a b,k=>.seq a (b.put k)
 | .join lv a b,k=>.join lv a (b.put k)
 | .frz l a,k=>.frz l (a.put k)
 | .skip,k=>k
 |c,k=>.seq c k
theorem WD.put (hm:P.follows .mixedOrders=true){E:EvF}(hE:ESound P E){k:Cd}{Q:Post}:∀(n:Nat) {cd:Cd}{env:Env}{st:St},Has (seqPost (fun e s=>WD P N k e s Q) Q) (evC E n cd env st)→WD P N (cd.put k) env st Q
 |0,cd,env,st,⟨_,_,_,h,_⟩=>by cases h
 |n+1,cd,env,st,h=>by
  cases cd with
  |seq a b =>
   simp only[evC]at h
   obtain⟨x,e,s,h,hq⟩:=h
   refine WD.seq ?_
   cases hz:evC E n a env st with
   |none=>rw[hz]at h;cases h
   |some z =>
    obtain⟨x2,e2,s2⟩:=z
    rw[hz]at h
    intro c hc
    refine evC_sound hm hE n hc ⟨x2,e2,s2,hz,?_⟩
    cases x2 with
    |normal=>exact WD.put hm hE n ⟨x,e,s,h,hq⟩
    |_=>simp only[seqR]at h;cases h;exact hq
  |join lv a b =>
   simp only[evC]at h
   obtain⟨x,e,s,h,hq⟩:=h
   refine WD.join ?_
   cases hz:evC E n a env st with
   |none=>rw[hz]at h;cases h
   |some z =>
    obtain⟨x2,e2,s2⟩:=z
    rw[hz]at h
    intro c hc
    refine evC_sound hm hE n hc ⟨x2,e2,s2,hz,?_⟩
    cases x2 with
    |normal=>exact WD.put hm hE n ⟨x,e,s,h,hq⟩
    |_=>simp only[restR,seqR]at h;cases h;exact hq
  |frz l a =>
   simp only[evC]at h
   exact fun c hc=>frzR_W2 (k:=evC E n a) (fun env st h=>WD.put hm hE n h c hc) h
  |skip =>
   simp only[evC]at h
   obtain⟨x,e,s,h,hq⟩:=h
   cases h
   exact hq
  |_ =>
   refine WD.seq fun c hc=>evC_sound hm hE (n+1) hc h
theorem WD.run (hm:P.follows .mixedOrders=true)(hH:ESound P H){k cd:Cd}{env:Env}{st:St}{Q:Post}{x:VX}{e:Env}{s:St}(h:runC P H cd env st=some (x,e,s))(hq:seqPost (fun e s=>WD P N k e s Q) Q x e s):WD P N (cd.put k) env st Q:=by
 obtain⟨n,hn⟩:=lub_some h
 exact WD.put hm (run_sound hm hH) n ⟨_,_,_,hn,hq⟩
theorem VCalls_WD {f:FuncId}{F:Fx}(hF:compF P f=some F){args:List V}(ha:args.length≤F.N){st:St}{R:VRes→St→Prop}
  (h:∀N,WD P ⟨N,[]⟩ F.c (argEnv 0 args) st (fun x e s=>∃r s',rawE F.res (some (x,e,s))=some (r,s')∧R r s')):VCalls P f args st R:=by
 unfold compF at hF
 split at hF
 ·rename_i fn hf
  split at hF
  ·rename_i c hb
   split at hF
   ·rename_i res T hres hT
    split at hF
    ·rename_i hname
     generalize hcd:Cd.fz _ (T.ann [] (res.map (·.slot)) (res.map (·.slot)))=cd at hF
     have hcb:cd.bare=T:=by rw[←hcd,Cd.fz_bare,Cd.ann_bare,compC_bare hT]
     cases hF
     have hW:=h fn.ntmps c (by rw[hcb];exact hT)
     refine .inl ⟨⟨fn,hf,hname,by simp[hb]⟩,fun w A vs hs hr=>?_⟩
     have hvl:vs.length≤fn.ntmps:=by rw[hr.1];exact ha
     have hend:∀{w':World}{A':Abs}{a':Act}{x:VX}{e:Env}{s1:St},x=.normal∨x=.ret→Sim w' A' s1→EnvSim w' A' a' e→a'.defers=[]→Ext w A w' A'→(∃r s',rawE res (some (x,e,s1))=some (r,s')∧R r s') →
       a'.defers=[]∧∃v,(results fn a'.tmps).run P w'=.ok v w'∧∃r' A' st',R r' st'∧EndRel w' A' (.returned v) r'∧Sim w' A' st'∧Ext w A w' A':=fun {w' A' a' x e s1} hx hs' he' hd' hx' ⟨r,s,h,hR⟩=>by
      have hds:∃ds,resV e s1 res=some ds∧r=.ret (resOne ds)∧s=s1:=by
       rcases hx with rfl|rfl<;>(simp only[rawE]at h;cases hd:resV e s1 res<;>rw[hd]at h<;>simp only[rawO]at h<;>cases h;exact⟨_,rfl,rfl,rfl⟩)
      obtain⟨ds,h1,rfl,rfl⟩:=hds
      obtain⟨v,hrun,hv⟩:=run_results (fn:=fn) hs' he' hres h1
      exact⟨hd',v,hrun,_,A',_,hR,hv,hs',hx'⟩
     refine calls_of_wp hf hb (Code.wp_mono (fun ex a' w' hq=>?_) (hW w A { tmps:=vs.toArray++Array.replicate (fn.ntmps-vs.toArray.size) undef,defers:=[] } hs ?_ (by simp;omega) rfl))
     ·cases ex with
      |normal =>
       obtain⟨A',env',st1,hR,q2,q3,_,q5,q6⟩:=hq
       exact hend (.inl rfl) q2 q3 q5 q6 hR
      |ret =>
       obtain⟨A',env',st1,hR,q2,q3,_,q5,q6⟩:=hq
       exact hend (.inr rfl) q2 q3 q5 q6 hR
      |panic ch =>
       obtain⟨A',env',st1,v,d,e1,e2,⟨r,s,h,hR⟩,q2,q3,_,q5,q6⟩:=hq
       simp only[rawE]at h
       cases h
       exact⟨q5,.pan d,A',_,hR,⟨v,e1,e2⟩,q2,q6⟩
      |exit id =>
       obtain⟨A',env',st1,⟨r,s,h,hR⟩,_⟩:=hq
       simp only[rawE]at h;cases h
      |goto l=>exact hq.elim
      |outgrown=>exact hq.elim
     ·intro i v hv
      obtain⟨_,hv⟩:=look_argEnv args 0 i v hv
      simp only[Nat.sub_zero]at hv
      have hlt:i<vs.length:=by have:=(List.getElem?_eq_some_iff.1 hv).1;have:=hr.1;omega
      have:(vs.toArray++Array.replicate (fn.ntmps-vs.toArray.size) undef).getD i undef=vs[i]:=by
       rw[Array.getD_eq_getD_getElem?,Array.getElem?_append_left (by simpa using hlt)];simp[hlt]
      rw[this]
      exact hr.2 i vs[i] v (List.getElem?_eq_getElem hlt) hv
    ·cases hF
   ·cases hF
  ·cases hF
 ·cases hF
theorem VCalls_shutW {f:FuncId}{args:List V}{st:St}(hb:V.bdL 0 args=true){r':VRes}{s':St}(h:VCalls P f args (stG st.x.gl) (fun r s=>shutR st (some (r,s))=some (r',s'))) :
  VCalls P f args st (fun x y=>x=r'∧y=s'):=by
 have key:∀{w:World}{A:Abs}{w':World}{A':Abs}{u:Value}{d:V}{s:St},Sim w A st→Rep w' A' u d→Sim w' A' s→Ext w (A.cut 0) w' A'→(shutV s d).bd 0=true→∃A3,Rep w' A3 u (shutV s d)∧Sim w' A3 st∧Ext w A w' A3:=fun {w A w' A' u d s} hs hu hs' hx hbd=>by
  have hC:∀b o,A'.shut.C b o→b<w'.heap.size:=fun b o h=>h.elim (hs'.Clt b o) fun⟨id,h⟩=>(hs'.ownlt b id h).1
  obtain⟨k1,k2,k3⟩:=shut_world hs (hx.trans (Ext.shut w' A')) hC
  exact⟨_,(shutV_rep hs' hu).data k3 hbd,k1,k2⟩
 have hargs:∀{w:World}{A:Abs}{vs:List Value},Reps w A vs args→Reps w (A.cut 0) vs args:=fun h=>h.data (fun _ _ h=>h) hb
 have kr:∀{r:VRes}{s:St}{d:V},shutR st (some (r,s))=some (r',s')→r=.ret d→(shutV s d).bd 0=true∧r'=.ret (shutV s d)∧s'=st:=fun {r s d} hr e=>by
  subst e
  simp only[shutR]at hr
  cases hz:(shutV s d).bd 0<;>rw[hz]at hr<;>simp only[guardT]at hr<;>cases hr
  exact⟨rfl,rfl,rfl⟩
 have kp:∀{r:VRes}{s:St}{d:V},shutR st (some (r,s))=some (r',s')→r=.pan d→(shutV s d).bd 0=true∧r'=.pan (shutV s d)∧s'=st:=fun {r s d} hr e=>by
  subst e
  simp only[shutR]at hr
  cases hz:(shutV s d).bd 0<;>rw[hz]at hr<;>simp only[guardT]at hr<;>cases hr
  exact⟨rfl,rfl,rfl⟩
 rcases h with h|h
 ·refine .inl ⟨h.1,fun w A vs hs ha=>(h.2 w (A.cut 0) vs (stG_weak hs) (hargs ha)).mono fun e w' ⟨r0,A',s0,hr,hend,hs',hx⟩=>?_⟩
  cases e with
  |returned u =>
   cases r0 with
   |ret d =>
    obtain⟨k1,rfl,rfl⟩:=kr hr rfl
    obtain⟨A3,g1,g2,g3⟩:=key hs hend hs' hx k1
    exact⟨_,A3,_,⟨rfl,rfl⟩,g1,g2,g3⟩
   |pan d=>exact hend.elim
  |panicked ch =>
   cases r0 with
   |ret d=>exact hend.elim
   |pan d =>
    obtain⟨u,c1,c2⟩:=hend
    obtain⟨k1,rfl,rfl⟩:=kp hr rfl
    obtain⟨A3,g1,g2,g3⟩:=key hs c2 hs' hx k1
    exact⟨_,A3,_,⟨rfl,rfl⟩,⟨u,c1,g1⟩,g2,g3⟩
  |outgrown=>cases r0<;>exact hend.elim
 ·refine .inr fun w A vs hs ha=>?_
  obtain⟨v,w',hrun,r0,A',s0,hr,hend,hs',hx⟩:=h w (A.cut 0) vs (stG_weak hs) (hargs ha)
  cases r0 with
  |ret d =>
   obtain⟨k1,rfl,rfl⟩:=kr hr rfl
   obtain⟨A3,g1,g2,g3⟩:=key hs hend hs' hx k1
   exact⟨v,w',hrun,_,A3,_,⟨rfl,rfl⟩,g1,g2,g3⟩
  |pan d=>exact hend.elim
end
end Go.Sha
