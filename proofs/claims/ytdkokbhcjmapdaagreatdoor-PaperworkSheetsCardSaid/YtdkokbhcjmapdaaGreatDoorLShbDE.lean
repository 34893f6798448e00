/- Equality of shadow values and states is . -/
import Derived.Test.YtdkokbhcjmapdaaGreatDoorLShbS
import Derived.Test.YtdkokbhcjmapdaaGreatDoorLShbB
set_option linter.unusedSimpArgs false
set_option linter.unusedVariables false
namespace Go.Sha
section
variable {P:Program}{N:Fr}
theorem W_own {c:Code}{env:Env}{st:St}{Q:Post}{t:Nat}(e es:Nat)(hl:look env t=some .nils)(k:W P N c ((t,.osl st.nx 0)::env) ⟨st.nx+1,st.mem,(st.nx,⟨e,es,[],false,false⟩)::st.arr,st.x⟩ Q):W P N c env st Q:=by
 intro w A a hs he hN hd
 have hx:=Ext.newNil' w A
 refine Code.wp_mono (lift_mono hx (fun _ _ _ h=>h)) (k w A.newNil a (hs.newNil e es false) (fun i v hv=>?_) hN hd)
 simp only[look]at hv
 split at hv
 ·rename_i e';cases hv;subst e'
  have h0:=he t _ hl
  generalize a.tmps.getD t undef=u at h0 ⊢
  cases h0
  exact .osl _ _ _ (by simp[Abs.newNil,hs.nx]) (Nat.zero_le _) (fun _=>by simp[Abs.newNil,hs.nx])
 ·exact(he i v hv).mono hx
theorem W_ownW {c:Code}{env:Env}{st:St}{Q:Post}{t:Nat}(e es:Nat)(hl:look env t=some .nils)(k:W P N c ((t,.osl st.nx 0)::env) ⟨st.nx+1,st.mem,(st.nx,⟨e,es,[],true,false⟩)::st.arr,st.x⟩ Q):W P N c env st Q:=by
 intro w A a hs he hN hd
 have hx:=Ext.newNil' w A
 refine Code.wp_mono (lift_mono hx (fun _ _ _ h=>h)) (k w A.newNil a (hs.newNil e es true) (fun i v hv=>?_) hN hd)
 simp only[look]at hv
 split at hv
 ·rename_i e';cases hv;subst e'
  have h0:=he t _ hl
  generalize a.tmps.getD t undef=u at h0 ⊢
  cases h0
  exact .osl _ _ _ (by simp[Abs.newNil,hs.nx]) (Nat.zero_le _) (fun _=>by simp[Abs.newNil,hs.nx])
 ·exact(he i v hv).mono hx
def Abs.frz (A:Abs)(id n:Nat):Abs :=
 { A with C:=fun b o=>A.C b o∨∃cap m,A.sv id=.slice (some ⟨b,0,none⟩) m cap∧o<n }
theorem Sim.blk {w:World}{A:Abs}{st:St}(hs:Sim w A st){id:Nat}{ar:Arr}(hl:look st.arr id=some ar)(g m cap:Nat)(hsv:A.sv id=.slice (some ⟨g,0,none⟩) m cap):A.own g=some id:=by
 rcases(hs.arr id ar hl).row with r|⟨g',cap',cur,r1,r2,r3,r4,r5,r6,r7,r8,r10⟩
 ·rw[r.1]at hsv;cases hsv
 ·rw[r1]at hsv;cases hsv;exact r6
theorem Ext.frz (w:World)(A:Abs)(id n:Nat)(hblk:∀g m cap,A.sv id=.slice (some ⟨g,0,none⟩) m cap→A.own g=some id):Ext w A w (A.frz id n) where
 nx:=Nat.le_refl _
 loc _ _:=rfl
 ln _ _:=Nat.le_refl _
 sv _ _ _:=rfl
 C _ _ h:=⟨.inl h,rfl⟩
 own _ _ h:=h
 size:=Nat.le_refl _
 os:=rfl
 tape:=rfl
 output:=rfl
 fr _ _ _:=rfl
 cold b o _ ho hc:=hc.elim (fun h=>h) fun⟨cap,m,h,_⟩=>by rw[hblk b m cap h]at ho;cases ho
 mc _ _ _ _ h:=h
theorem Sim.frz {w:World}{A:Abs}{st:St}(hs:Sim w A st){id:Nat}{ar:Arr}(hl:look st.arr id=some ar) :
  Sim w (A.frz id (ar.xs.length*ar.es)) ⟨st.nx,st.mem,updA st.arr id ⟨ar.e,ar.es,ar.xs,false,ar.fz⟩,st.x⟩:=by
 have hx:=Ext.frz w A id (ar.xs.length*ar.es) (hs.blk hl)
 have hk:=hs.arr id ar hl
 have hblk:∀g m cap,A.sv id=.slice (some ⟨g,0,none⟩) m cap→A.own g=some id:=by
  intro g m cap hsv
  rcases hk.row with r|⟨g',cap',cur,r1,r2,r3,r4,r5,r6,r7,r8,r10⟩
  ·rw[r.1]at hsv;cases hsv
  ·rw[r1]at hsv;cases hsv;exact r6
 refine⟨hs.nx,fun i cs h=>?_,fun i a h=>?_,fun b o h=>?_,fun b i h=>hs.ownlt b i h,fun i cs a h1 h2=>?_,
  hs.x.of hx rfl (fun i o ho=>⟨fun g hg=>⟨hg,rfl⟩,fun g hg k hc=>by
   rcases hc with hc|⟨cap,m,hsv,_⟩
   ·exact(hs.x.obj i o ho).1.noC g hg k hc
   ·have e1:=hblk _ _ _ hsv
    rw[show A.own g=some i from hg]at e1
    cases e1
    have:=(hs.x.obj _ o ho).2.2
    rw[hl]at this;cases this⟩) (fun i o ho=>by
   obtain⟨_,m1,m2⟩:=hs.x.obj i o ho
   refine⟨m1,?_⟩
   rw[look_updA]
   split
   ·rename_i e;subst e;rw[hl]at m2;cases m2
   ·exact m2) (fun b i h=>(hs.ownlt b i h).1) (fun i T _ hn=>by
   refine⟨?_,fun vs fz h=>⟨vs,fz,h⟩⟩
   rw[look_updA]
   split
   ·rename_i e;subst e;rw[hl]at hn;cases hn
   ·exact hn)⟩
 ·have hm:=hs.mem i cs h
  refine hm.of_heap hx hm.own rfl (fun o hC=>?_)
  rcases hC with hC|⟨cap,m,hsv,_⟩
  ·exact hm.noC o hC
  ·have e1:=hblk _ _ _ hsv
   have e2:=hm.own
   rw[e1]at e2
   cases e2
   exact hs.disj _ _ _ h hl
 ·rw[look_updA]at h
  split at h
  ·rename_i e';subst e'
   rw[hl]at h;cases h
   refine⟨hk.lt,hk.ln,hk.es,?_⟩
   rcases hk.row with r|⟨g,cap,cur,r1,r2,r3,r4,r5,r6,r7,r8,r10⟩
   ·exact .inl r
   ·refine .inr ⟨g,cap,cur,r1,r2,r3,r4,r5,r6,fun o ho hC=>?_,fun o ho=>⟨fun _=>rfl,fun _=>.inr ⟨cap,_,r1,ho⟩⟩,fun i j x c hi hj=>?_⟩
    ·rcases hC with hC|⟨cap',m,hsv,hlt⟩
     ·exact r7 o ho hC
     ·simp only at ho;omega
    ·obtain⟨v,q1,q2,q3⟩:=r10 i j x c hi hj
     exact⟨v,q1,q2,q3.mono hx⟩
  ·rename_i hne
   have hk2:=hs.arr i a h
   refine⟨hk2.lt,hk2.ln,hk2.es,?_⟩
   rcases hk2.row with r|⟨g,cap,cur,r1,r2,r3,r4,r5,r6,r7,r8,r10⟩
   ·exact .inl r
   ·have hC:∀o,(A.frz id (ar.xs.length*ar.es)).C g o↔A.C g o:=fun o=>⟨fun h=>by
     rcases h with h|⟨cap',m,hsv,_⟩
     ·exact h
     ·have e1:=hblk _ _ _ hsv
      rw[r6]at e1;cases e1;exact absurd rfl hne,.inl⟩
    refine .inr ⟨g,cap,cur,r1,r2,r3,r4,r5,r6,fun o ho=>by rw[hC];exact r7 o ho,fun o ho=>by rw[hC];exact r8 o ho,fun i j x c hi hj=>?_⟩
    obtain⟨v,q1,q2,q3⟩:=r10 i j x c hi hj
    exact⟨v,q1,q2,q3.mono hx⟩
 ·rcases h with h|⟨cap,m,hsv,_⟩
  ·exact hs.Clt b o h
  ·exact(hs.ownlt _ _ (hblk _ _ _ hsv)).1
 ·rw[look_updA]at h2
  split at h2
  ·rename_i e';subst e';exact hs.disj _ _ _ h1 hl
  ·exact hs.disj _ _ _ h1 h2
theorem W_freeze {c:Code}{env:Env}{st:St}{Q:Post}{id:Nat}{ar:Arr}(hl:look st.arr id=some ar)(k:W P N c env ⟨st.nx,st.mem,updA st.arr id ⟨ar.e,ar.es,ar.xs,false,ar.fz⟩,st.x⟩ Q):W P N c env st Q:=by
 intro w A a hs he hN hd
 have hx:=Ext.frz w A id (ar.xs.length*ar.es) (hs.blk hl)
 exact Code.wp_mono (lift_mono hx (fun _ _ _ h=>h)) (k w _ a (hs.frz hl) (fun i v hv=>(he i v hv).mono hx) hN hd)
def dropM (id:Nat)(m:List (Nat×List V)):List (Nat×List V):=m.filter fun p=>!(p.1 == id)
theorem look_dropM {id i:Nat}:∀{m:List (Nat×List V)},look (dropM id m) i=if i=id then none else look m i
 |[]=>by simp[dropM,look]
 |(k,x)::r=>by
  have ih:=look_dropM (id:=id) (i:=i) (m:=r)
  unfold dropM at ih ⊢
  by_cases hk:k=id
  ·subst hk
   simp only[List.filter_cons,beq_self_eq_true,Bool.not_true,Bool.false_eq_true,if_false,look]
   rw[ih]
   by_cases hi:i=k
   ·simp[hi]
   ·rw[if_neg hi,if_neg hi,if_neg (fun e=>hi e.symm)]
  ·simp only[List.filter_cons,beq_iff_eq,hk,beq_eq_false_iff_ne.2 hk,Bool.not_false,if_true,look]
   by_cases hi:k=i
   ·subst hi;simp[hk]
   ·rw[if_neg hi,if_neg hi];exact ih
def Abs.frzM (A:Abs)(id:Nat):Abs:={ A with C:=fun b o=>A.C b o∨b=A.loc id }
theorem Ext.frzM (w:World)(A:Abs)(id:Nat)(ho:A.own (A.loc id)=some id):Ext w A w (A.frzM id) where
 nx:=Nat.le_refl _
 loc _ _:=rfl
 ln _ _:=Nat.le_refl _
 sv _ _ _:=rfl
 C _ _ h:=⟨.inl h,rfl⟩
 own _ _ h:=h
 size:=Nat.le_refl _
 os:=rfl
 tape:=rfl
 output:=rfl
 fr _ _ _:=rfl
 cold b o _ hn hc:=hc.elim (fun h=>h) fun h=>by rw[h,ho]at hn;cases hn
 mc _ _ _ _ h:=h
theorem Sim.frzM {w:World}{A:Abs}{st:St}(hs:Sim w A st){id:Nat}{cs:List V}(hl:look st.mem id=some cs) :
  Sim w (A.frzM id) ⟨st.nx,dropM id st.mem,st.arr,st.x⟩:=by
 have hk:=hs.mem id cs hl
 have hx:=Ext.frzM w A id hk.own
 have hne:∀{i:Nat}{g:Nat},A.own g=some i→i≠id→g≠A.loc id:=fun h1 h2 e=>by rw[e,hk.own]at h1;cases h1;exact h2 rfl
 refine⟨hs.nx,fun i c h=>?_,fun i a h=>?_,fun b o h=>?_,fun b i h=>hs.ownlt b i h,fun i c a h1 h2=>?_,
  hs.x.of hx rfl (fun i o ho=>⟨fun g hg=>⟨hg,rfl⟩,fun g hg k hc=>by
   rcases hc with hc|hc
   ·exact(hs.x.obj i o ho).1.noC g hg k hc
   ·refine hne hg (fun e=>?_) hc
    subst e
    have:=(hs.x.obj _ o ho).2.1
    rw[hl]at this;cases this⟩) (fun i o ho=>by
   obtain⟨_,m1,m2⟩:=hs.x.obj i o ho
   refine⟨?_,m2⟩
   rw[look_dropM];split
   ·rfl
   ·exact m1) (fun b i h=>(hs.ownlt b i h).1) (fun i T _ hn=>⟨hn,fun vs fz h=>⟨vs,fz,h⟩⟩)⟩
 ·rw[look_dropM]at h
  split at h
  ·cases h
  ·rename_i hi
   have hm:=hs.mem i c h
   refine hm.of_heap hx hm.own rfl (fun o hC=>?_)
   rcases hC with hC|hC
   ·exact hm.noC o hC
   ·exact hne hm.own hi hC
 ·have hk2:=hs.arr i a h
  have hi:i≠id:=fun e=>by subst e;exact hs.disj _ _ _ hl h
  refine⟨hk2.lt,hk2.ln,hk2.es,?_⟩
  rcases hk2.row with r|⟨g,cap,cur,r1,r2,r3,r4,r5,r6,r7,r8,r10⟩
  ·exact .inl r
  ·have hC:∀o,(A.frzM id).C g o↔A.C g o:=fun o=>⟨fun h=>h.elim (fun h=>h) fun e=>absurd e (hne r6 hi),.inl⟩
   refine .inr ⟨g,cap,cur,r1,r2,r3,r4,r5,r6,fun o ho=>by rw[hC];exact r7 o ho,fun o ho=>by rw[hC];exact r8 o ho,fun i j x c hi hj=>?_⟩
   obtain⟨v,q1,q2,q3⟩:=r10 i j x c hi hj
   exact⟨v,q1,q2,q3.mono hx⟩
 ·rcases h with h|h
  ·exact hs.Clt b o h
  ·rw[h];exact(hs.ownlt _ _ hk.own).1
 ·rw[look_dropM]at h1
  split at h1
  ·cases h1
  ·exact hs.disj _ _ _ h1 h2
theorem W_frzM {c:Code}{env:Env}{st:St}{Q:Post}{t id:Nat}{cs:List V}(ht:look env t=some (.ptr id 0))(hl:look st.mem id=some cs)
  (k:W P N c ((t,.ep (.agg cs) 0)::env) ⟨st.nx,dropM id st.mem,st.arr,st.x⟩ Q):W P N c env st Q:=by
 intro w A a hs he hN hd
 have hk:=hs.mem id cs hl
 have hx:=Ext.frzM w A id hk.own
 refine Code.wp_mono (lift_mono hx (fun _ _ _ h=>h)) (k w _ a (hs.frzM hl) (fun i v hv=>?_) hN hd)
 simp only[look]at hv
 split at hv
 ·rename_i e';cases hv;subst e'
  have h0:=he t _ ht
  generalize a.tmps.getD t undef=u at h0 ⊢
  cases h0
  obtain⟨vs,T,h1,h2,h3,h4⟩:=hk.row
  refine .ep (.agg cs) 0 (A.loc id) 0 (fun j=>vs.getD j undef) (fun j c hc=>?_) (fun j c hc=>?_)
  ·have hj:cs[j]?=some c:=hc
   have hlt:j<vs.size:=by rw[h2];exact(List.getElem?_eq_some_iff.1 hj).1
   have hv:vs[j]?=some (vs.getD j undef):=by simp[Array.getD,hlt]
   refine⟨.inr rfl,?_,h3 _ (by simp[Array.getD,hlt])⟩
   simp only[World.cell?,h1,Nat.zero_add]
   exact hv
  ·have hj:cs[j]?=some c:=hc
   have hlt:j<vs.size:=by rw[h2];exact(List.getElem?_eq_some_iff.1 hj).1
   exact(h4 j _ c (by simp[Array.getD,hlt]) hj).mono hx
 ·exact(he i v hv).mono hx
theorem Reps.snap {w:World}{A:Abs}{st:St}{vs:List Value}{ds ds':List V}(hs:Sim w A st)(h:Reps w A vs ds)(hd:mapO (snapA st) ds=some ds'):Reps w A vs ds':=by
 obtain⟨h1,h2⟩:=mapO_spec hd
 refine⟨by rw[h.1,h1],fun i v c hv hc=>?_⟩
 have hlt:i<ds.length:=by have:=(List.getElem?_eq_some_iff.1 hc).1;omega
 exact snapA_rep hs (h.2 i v ds[i] hv (List.getElem?_eq_getElem hlt)) (h2 i _ _ (List.getElem?_eq_getElem hlt) hc)
theorem VRet.snap {f:FuncId}{args args':List V}{st st':St}{r:V}(h:VRet P f args' st r st')(hd:mapO (snapA st) args=some args'):VRet P f args st r st':=by
 rcases h with h|h
 ·exact .inl ⟨h.1,fun w A vs hs ha=>h.2 w A vs hs (ha.snap hs hd)⟩
 ·exact .inr fun w A vs hs ha=>h w A vs hs (ha.snap hs hd)
def LessEnv (env env':Env):Prop:=∀i v,look env' i=some v→look env i=some v
theorem LessEnv.nil {env:Env}:LessEnv env []:=fun i v h=>by simp[look]at h
theorem LessEnv.cons {k:Nat}{v:V}{env env':Env}(hl:look env k=some v)(h:LessEnv env env'):LessEnv env ((k,v)::env'):=fun i u hi=>by
 simp only[look]at hi
 split at hi
 ·rename_i e;subst e;cases hi;exact hl
 ·exact h i u hi
end
end Go.Sha
namespace Go.Sha
mutual
def V.beq:V→V→Bool
 | .und,.und=>true
 | .bool a,.bool b=>decide (a=b)
 | .int k n,.int l m=>decide (k=l)&&decide (n=m)
 | .str s,.str t=>decide (s=t)
 | .nilp,.nilp=>true
 | .ptr a b,.ptr c d=>decide (a=c)&&decide (b=d)
 | .nils,.nils=>true
 | .sl a,.sl b=>V.beqL a b
 | .clip a,.clip b=>V.beqL a b
 | .osl a b,.osl c d=>decide (a=c)&&decide (b=d)
 | .ep x a,.ep y b=>V.beq x y&&decide (a=b)
 | .op a b c d e,.op a' b' c' d' e'=>decide (a=a')&&(decide (b=b')&&(decide (c=c')&&(decide (d=d')&&decide (e=e'))))
 | .agg a,.agg b=>V.beqL a b
 | .tup a,.tup b=>V.beqL a b
 | .fn f a b,.fn g c d=>decide (f=g)&&(V.beqL a c&&V.beqL b d)
 | .nilf,.nilf=>true
 | .iface t v,.iface u w=>decide (t=u)&&V.beq v w
 | .nili,.nili=>true
 | .mp a,.mp b=>decide (a=b)
 | .nilm,.nilm=>true
 | .mpc a b,.mpc c d=>V.beqL a c&&V.beqL b d
 |_,_=>false
def V.beqL:List V→List V→Bool
 |[],[]=>true
 |x::a,y::b=>V.beq x y&&V.beqL a b
 |_,_=>false
end
mutual
theorem V.beq_eq:∀(a b:V),V.beq a b=true→a=b
 | .und,b,h=>by cases b<;>simp[V.beq]at h ⊢
 | .bool _,b,h=>by cases b<;>simp[V.beq]at h ⊢;exact h
 | .int _ _,b,h=>by cases b<;>simp[V.beq]at h ⊢;exact h
 | .str _,b,h=>by cases b<;>simp[V.beq]at h ⊢;exact h
 | .nilp,b,h=>by cases b<;>simp[V.beq]at h ⊢
 | .ptr _ _,b,h=>by cases b<;>simp[V.beq]at h ⊢;exact h
 | .nils,b,h=>by cases b<;>simp[V.beq]at h ⊢
 | .sl x,b,h=>by cases b<;>simp[V.beq]at h ⊢;exact V.beqL_eq _ _ h
 | .clip x,b,h=>by cases b<;>simp[V.beq]at h ⊢;exact V.beqL_eq _ _ h
 | .osl _ _,b,h=>by cases b<;>simp[V.beq]at h ⊢;exact h
 | .ep x _,b,h=>by cases b<;>simp[V.beq]at h ⊢;exact⟨V.beq_eq _ _ h.1,h.2⟩
 | .op _ _ _ _ _,b,h=>by cases b<;>simp[V.beq]at h ⊢;exact h
 | .agg x,b,h=>by cases b<;>simp[V.beq]at h ⊢;exact V.beqL_eq _ _ h
 | .tup x,b,h=>by cases b<;>simp[V.beq]at h ⊢;exact V.beqL_eq _ _ h
 | .fn _ x y,b,h=>by cases b<;>simp[V.beq]at h ⊢;exact⟨h.1,V.beqL_eq _ _ h.2.1,V.beqL_eq _ _ h.2.2⟩
 | .nilf,b,h=>by cases b<;>simp[V.beq]at h ⊢
 | .iface _ x,b,h=>by cases b<;>simp[V.beq]at h ⊢;exact⟨h.1,V.beq_eq _ _ h.2⟩
 | .nili,b,h=>by cases b<;>simp[V.beq]at h ⊢
 | .mp _,b,h=>by cases b<;>simp[V.beq]at h ⊢;exact h
 | .nilm,b,h=>by cases b<;>simp[V.beq]at h ⊢
 | .mpc x y,b,h=>by cases b<;>simp[V.beq]at h ⊢;exact⟨V.beqL_eq _ _ h.1,V.beqL_eq _ _ h.2⟩
theorem V.beqL_eq:∀(a b:List V),V.beqL a b=true→a=b
 |[],b,h=>by cases b<;>simp[V.beqL]at h ⊢
 |x::a,b,h=>by cases b<;>simp[V.beqL]at h ⊢;exact⟨V.beq_eq _ _ h.1,V.beqL_eq _ _ h.2⟩
end
mutual
theorem V.beq_refl:∀(a:V),V.beq a a=true
 | .und=>rfl
 | .bool _=>by simp[V.beq]
 | .int _ _=>by simp[V.beq]
 | .str _=>by simp[V.beq]
 | .nilp=>rfl
 | .ptr _ _=>by simp[V.beq]
 | .nils=>rfl
 | .sl x=>by simp[V.beq,V.beqL_refl x]
 | .clip x=>by simp[V.beq,V.beqL_refl x]
 | .osl _ _=>by simp[V.beq]
 | .ep x _=>by simp[V.beq,V.beq_refl x]
 | .op _ _ _ _ _=>by simp[V.beq]
 | .agg x=>by simp[V.beq,V.beqL_refl x]
 | .tup x=>by simp[V.beq,V.beqL_refl x]
 | .fn _ x y=>by simp[V.beq,V.beqL_refl x,V.beqL_refl y]
 | .nilf=>rfl
 | .iface _ x=>by simp[V.beq,V.beq_refl x]
 | .nili=>rfl
 | .mp _=>by simp[V.beq]
 | .nilm=>rfl
 | .mpc x y=>by simp[V.beq,V.beqL_refl x,V.beqL_refl y]
theorem V.beqL_refl:∀(a:List V),V.beqL a a=true
 |[]=>rfl
 |x::a=>by simp[V.beqL,V.beq_refl x,V.beqL_refl a]
end
instance:DecidableEq V:=fun a b=>decidable_of_iff (V.beq a b=true) ⟨V.beq_eq a b,fun e=>e▸V.beq_refl a⟩
instance:DecidableEq Arr:=fun a b=>decidable_of_iff (a.e=b.e∧a.es=b.es∧a.xs=b.xs∧a.wr=b.wr∧a.fz=b.fz) ⟨fun⟨h1,h2,h3,h4,h5⟩=>by cases a;cases b;simp only at h1 h2 h3 h4 h5;subst h1 h2 h3 h4 h5;rfl,fun h=>by subst h;simp⟩
def Ob.dec:(a b:Ob)→Decidable (a=b)
 | .map x,.map y=>decidable_of_iff (x=y) ⟨fun h=>by rw[h],fun h=>by cases h;rfl⟩
 | .iter a b c,.iter d e f=>decidable_of_iff (a=d∧b=e∧c=f) ⟨fun h=>by rw[h.1,h.2.1,h.2.2],fun h=>by cases h;simp⟩
 | .map _,.iter _ _ _=>isFalse (fun h=>by cases h)
 | .iter _ _ _,.map _=>isFalse (fun h=>by cases h)
instance:DecidableEq Ob:=Ob.dec
def St.eqv (s t:St):Prop:=s.nx=t.nx∧s.mem=t.mem∧s.arr=t.arr∧s.x.obj=t.x.obj∧s.x.ty=t.x.ty
instance {s t:St}:Decidable (s.eqv t):=by unfold St.eqv;infer_instance
theorem St.eqv.refl (s:St):s.eqv s:=⟨rfl,rfl,rfl,rfl,rfl⟩
theorem Sim.eqv {w w':World}{A A':Abs}{s st:St}(h:s.eqv st)(hs:Sim w A st)(hx:Ext w A w' A')(hs':Sim w' A' s):Sim w' A' st:=by
 obtain⟨a,b,c,⟨d,e,f⟩⟩:=s
 obtain⟨a',b',c',⟨d',e',f'⟩⟩:=st
 obtain⟨h1,h2,h3,h4,h5⟩:=h
 simp only at h1 h2 h3 h4 h5
 subst h1 h2 h3 h4 h5
 exact⟨hs'.nx,hs'.mem,hs'.arr,hs'.Clt,hs'.ownlt,hs'.disj,⟨hs'.x.obj,fun p hp=>hx.gl (hs.x.gl p hp),hs'.x.ty⟩⟩
theorem VCalls.eqv {P:Program}{f:FuncId}{args:List V}{st s:St}{r:VRes}(he:s.eqv st)(h:VCalls P f args st (fun r' s'=>r'=r∧s'=s)):VCalls P f args st (fun r' s'=>r'=r∧s'=st):=by
 rcases h with h|h
 ·exact .inl ⟨h.1,fun w A vs hs ha=>(h.2 w A vs hs ha).mono fun e w' ⟨r',A',s',⟨e1,e2⟩,h1,h2,h3⟩=>by subst e2;exact⟨r',A',st,⟨e1,rfl⟩,h1,Sim.eqv he hs h3 h2,h3⟩⟩
 ·exact .inr fun w A vs hs ha=>by
   obtain⟨v,w',h0,r',A',s',⟨e1,e2⟩,h1,h2,h3⟩:=h w A vs hs ha
   subst e2
   exact⟨v,w',h0,r',A',st,⟨e1,rfl⟩,h1,Sim.eqv he hs h3 h2,h3⟩
end Go.Sha
