/- Two steps that the program does not make. -/
import Derived.Test.YtmjkgajnpmiomaaGreatDoorLShbS
set_option linter.unusedSimpArgs false
set_option linter.unusedVariables false
namespace Go.Sha
section
variable {P:Program}{N:Fr}
theorem W_own {c:Code}{env:Env}{st:St}{Q:Post}{t:Nat}(e es:Nat)(hl:look env t=some .nils)(k:W P N c ((t,.osl st.nx 0)::env) ⟨st.nx+1,st.mem,(st.nx,⟨e,es,[],false,false⟩)::st.arr,st.x⟩ Q):W P N c env st Q:=by
 intro w A a hs he hN hd
 have hx:=Ext.newNil' w A
 refine Code.wp_mono (lift_mono hx (fun _ _ _ h=>h)) (k w A.newNil a (hs.newNil e es false) (fun i v hv=>?_) hN hd)
 simp only[look]at hv
 split at hv
 ·rename_i e';cases hv;subst e'
  have h0:=he t _ hl
  generalize a.tmps.getD t undef=u at h0 ⊢
  cases h0
  exact .osl _ _ _ (by simp[Abs.newNil,hs.nx]) (Nat.zero_le _) (fun _=>by simp[Abs.newNil,hs.nx])
 ·exact(he i v hv).mono hx
theorem W_ownW {c:Code}{env:Env}{st:St}{Q:Post}{t:Nat}(e es:Nat)(hl:look env t=some .nils)(k:W P N c ((t,.osl st.nx 0)::env) ⟨st.nx+1,st.mem,(st.nx,⟨e,es,[],true,false⟩)::st.arr,st.x⟩ Q):W P N c env st Q:=by
 intro w A a hs he hN hd
 have hx:=Ext.newNil' w A
 refine Code.wp_mono (lift_mono hx (fun _ _ _ h=>h)) (k w A.newNil a (hs.newNil e es true) (fun i v hv=>?_) hN hd)
 simp only[look]at hv
 split at hv
 ·rename_i e';cases hv;subst e'
  have h0:=he t _ hl
  generalize a.tmps.getD t undef=u at h0 ⊢
  cases h0
  exact .osl _ _ _ (by simp[Abs.newNil,hs.nx]) (Nat.zero_le _) (fun _=>by simp[Abs.newNil,hs.nx])
 ·exact(he i v hv).mono hx
def Abs.frz (A:Abs)(id n:Nat):Abs :=
 { A with C:=fun b o=>A.C b o∨∃cap m,A.sv id=.slice (some ⟨b,0,none⟩) m cap∧o<n }
theorem Sim.blk {w:World}{A:Abs}{st:St}(hs:Sim w A st){id:Nat}{ar:Arr}(hl:look st.arr id=some ar)(g m cap:Nat)(hsv:A.sv id=.slice (some ⟨g,0,none⟩) m cap):A.own g=some id:=by
 rcases(hs.arr id ar hl).row with r|⟨g',cap',cur,r1,r2,r3,r4,r5,r6,r7,r8,r10⟩
 ·rw[r.1]at hsv;cases hsv
 ·rw[r1]at hsv;cases hsv;exact r6
theorem Ext.frz (w:World)(A:Abs)(id n:Nat)(hblk:∀g m cap,A.sv id=.slice (some ⟨g,0,none⟩) m cap→A.own g=some id):Ext w A w (A.frz id n) where
 nx:=Nat.le_refl _
 loc _ _:=rfl
 ln _ _:=Nat.le_refl _
 sv _ _ _:=rfl
 C _ _ h:=⟨.inl h,rfl⟩
 own _ _ h:=h
 size:=Nat.le_refl _
 os:=rfl
 tape:=rfl
 output:=rfl
 fr _ _ _:=rfl
 cold b o _ ho hc:=hc.elim (fun h=>h) fun⟨cap,m,h,_⟩=>by rw[hblk b m cap h]at ho;cases ho
 mc _ _ _ _ h:=h
theorem Sim.frz {w:World}{A:Abs}{st:St}(hs:Sim w A st){id:Nat}{ar:Arr}(hl:look st.arr id=some ar) :
  Sim w (A.frz id (ar.xs.length*ar.es)) ⟨st.nx,st.mem,updA st.arr id ⟨ar.e,ar.es,ar.xs,false,ar.fz⟩,st.x⟩:=by
 have hx:=Ext.frz w A id (ar.xs.length*ar.es) (hs.blk hl)
 have hk:=hs.arr id ar hl
 have hblk:∀g m cap,A.sv id=.slice (some ⟨g,0,none⟩) m cap→A.own g=some id:=by
  intro g m cap hsv
  rcases hk.row with r|⟨g',cap',cur,r1,r2,r3,r4,r5,r6,r7,r8,r10⟩
  ·rw[r.1]at hsv;cases hsv
  ·rw[r1]at hsv;cases hsv;exact r6
 refine⟨hs.nx,fun i cs h=>?_,fun i a h=>?_,fun b o h=>?_,fun b i h=>hs.ownlt b i h,fun i cs a h1 h2=>?_,
  hs.x.of hx rfl (fun i o ho=>⟨fun g hg=>⟨hg,rfl⟩,fun g hg k hc=>by
   rcases hc with hc|⟨cap,m,hsv,_⟩
   ·exact(hs.x.obj i o ho).1.noC g hg k hc
   ·have e1:=hblk _ _ _ hsv
    rw[show A.own g=some i from hg]at e1
    cases e1
    have:=(hs.x.obj _ o ho).2.2
    rw[hl]at this;cases this⟩) (fun i o ho=>by
   obtain⟨_,m1,m2⟩:=hs.x.obj i o ho
   refine⟨m1,?_⟩
   rw[look_updA]
   split
   ·rename_i e;subst e;rw[hl]at m2;cases m2
   ·exact m2) (fun b i h=>(hs.ownlt b i h).1) (fun i T _ hn=>by
   refine⟨?_,fun vs fz h=>⟨vs,fz,h⟩⟩
   rw[look_updA]
   split
   ·rename_i e;subst e;rw[hl]at hn;cases hn
   ·exact hn)⟩
 ·have hm:=hs.mem i cs h
  refine hm.of_heap hx hm.own rfl (fun o hC=>?_)
  rcases hC with hC|⟨cap,m,hsv,_⟩
  ·exact hm.noC o hC
  ·have e1:=hblk _ _ _ hsv
   have e2:=hm.own
   rw[e1]at e2
   cases e2
   exact hs.disj _ _ _ h hl
 ·rw[look_updA]at h
  split at h
  ·rename_i e';subst e'
   rw[hl]at h;cases h
   refine⟨hk.lt,hk.ln,hk.es,?_⟩
   rcases hk.row with r|⟨g,cap,cur,r1,r2,r3,r4,r5,r6,r7,r8,r10⟩
   ·exact .inl r
   ·refine .inr ⟨g,cap,cur,r1,r2,r3,r4,r5,r6,fun o ho hC=>?_,fun o ho=>⟨fun _=>rfl,fun _=>.inr ⟨cap,_,r1,ho⟩⟩,fun i j x c hi hj=>?_⟩
    ·rcases hC with hC|⟨cap',m,hsv,hlt⟩
     ·exact r7 o ho hC
     ·simp only at ho;omega
    ·obtain⟨v,q1,q2,q3⟩:=r10 i j x c hi hj
     exact⟨v,q1,q2,q3.mono hx⟩
  ·rename_i hne
   have hk2:=hs.arr i a h
   refine⟨hk2.lt,hk2.ln,hk2.es,?_⟩
   rcases hk2.row with r|⟨g,cap,cur,r1,r2,r3,r4,r5,r6,r7,r8,r10⟩
   ·exact .inl r
   ·have hC:∀o,(A.frz id (ar.xs.length*ar.es)).C g o↔A.C g o:=fun o=>⟨fun h=>by
     rcases h with h|⟨cap',m,hsv,_⟩
     ·exact h
     ·have e1:=hblk _ _ _ hsv
      rw[r6]at e1;cases e1;exact absurd rfl hne,.inl⟩
    refine .inr ⟨g,cap,cur,r1,r2,r3,r4,r5,r6,fun o ho=>by rw[hC];exact r7 o ho,fun o ho=>by rw[hC];exact r8 o ho,fun i j x c hi hj=>?_⟩
    obtain⟨v,q1,q2,q3⟩:=r10 i j x c hi hj
    exact⟨v,q1,q2,q3.mono hx⟩
 ·rcases h with h|⟨cap,m,hsv,_⟩
  ·exact hs.Clt b o h
  ·exact(hs.ownlt _ _ (hblk _ _ _ hsv)).1
 ·rw[look_updA]at h2
  split at h2
  ·rename_i e';subst e';exact hs.disj _ _ _ h1 hl
  ·exact hs.disj _ _ _ h1 h2
def dropM (id:Nat)(m:List (Nat×List V)):List (Nat×List V):=m.filter fun p=>!(p.1 == id)
theorem look_dropM {id i:Nat}:∀{m:List (Nat×List V)},look (dropM id m) i=if i=id then none else look m i
 |[]=>by simp[dropM,look]
 |(k,x)::r=>by
  have ih:=look_dropM (id:=id) (i:=i) (m:=r)
  unfold dropM at ih ⊢
  by_cases hk:k=id
  ·subst hk
   simp only[List.filter_cons,beq_self_eq_true,Bool.not_true,Bool.false_eq_true,if_false,look]
   rw[ih]
   by_cases hi:i=k
   ·simp[hi]
   ·rw[if_neg hi,if_neg hi,if_neg (fun e=>hi e.symm)]
  ·simp only[List.filter_cons,beq_iff_eq,hk,beq_eq_false_iff_ne.2 hk,Bool.not_false,if_true,look]
   by_cases hi:k=i
   ·subst hi;simp[hk]
   ·rw[if_neg hi,if_neg hi];exact ih
def Abs.frzM (A:Abs)(id:Nat):Abs:={ A with C:=fun b o=>A.C b o∨b=A.loc id }
theorem Ext.frzM (w:World)(A:Abs)(id:Nat)(ho:A.own (A.loc id)=some id):Ext w A w (A.frzM id) where
 nx:=Nat.le_refl _
 loc _ _:=rfl
 ln _ _:=Nat.le_refl _
 sv _ _ _:=rfl
 C _ _ h:=⟨.inl h,rfl⟩
 own _ _ h:=h
 size:=Nat.le_refl _
 os:=rfl
 tape:=rfl
 output:=rfl
 fr _ _ _:=rfl
 cold b o _ hn hc:=hc.elim (fun h=>h) fun h=>by rw[h,ho]at hn;cases hn
 mc _ _ _ _ h:=h
theorem Sim.frzM {w:World}{A:Abs}{st:St}(hs:Sim w A st){id:Nat}{cs:List V}(hl:look st.mem id=some cs) :
  Sim w (A.frzM id) ⟨st.nx,dropM id st.mem,st.arr,st.x⟩:=by
 have hk:=hs.mem id cs hl
 have hx:=Ext.frzM w A id hk.own
 have hne:∀{i:Nat}{g:Nat},A.own g=some i→i≠id→g≠A.loc id:=fun h1 h2 e=>by rw[e,hk.own]at h1;cases h1;exact h2 rfl
 refine⟨hs.nx,fun i c h=>?_,fun i a h=>?_,fun b o h=>?_,fun b i h=>hs.ownlt b i h,fun i c a h1 h2=>?_,
  hs.x.of hx rfl (fun i o ho=>⟨fun g hg=>⟨hg,rfl⟩,fun g hg k hc=>by
   rcases hc with hc|hc
   ·exact(hs.x.obj i o ho).1.noC g hg k hc
   ·refine hne hg (fun e=>?_) hc
    subst e
    have:=(hs.x.obj _ o ho).2.1
    rw[hl]at this;cases this⟩) (fun i o ho=>by
   obtain⟨_,m1,m2⟩:=hs.x.obj i o ho
   refine⟨?_,m2⟩
   rw[look_dropM];split
   ·rfl
   ·exact m1) (fun b i h=>(hs.ownlt b i h).1) (fun i T _ hn=>⟨hn,fun vs fz h=>⟨vs,fz,h⟩⟩)⟩
 ·rw[look_dropM]at h
  split at h
  ·cases h
  ·rename_i hi
   have hm:=hs.mem i c h
   refine hm.of_heap hx hm.own rfl (fun o hC=>?_)
   rcases hC with hC|hC
   ·exact hm.noC o hC
   ·exact hne hm.own hi hC
 ·have hk2:=hs.arr i a h
  have hi:i≠id:=fun e=>by subst e;exact hs.disj _ _ _ hl h
  refine⟨hk2.lt,hk2.ln,hk2.es,?_⟩
  rcases hk2.row with r|⟨g,cap,cur,r1,r2,r3,r4,r5,r6,r7,r8,r10⟩
  ·exact .inl r
  ·have hC:∀o,(A.frzM id).C g o↔A.C g o:=fun o=>⟨fun h=>h.elim (fun h=>h) fun e=>absurd e (hne r6 hi),.inl⟩
   refine .inr ⟨g,cap,cur,r1,r2,r3,r4,r5,r6,fun o ho=>by rw[hC];exact r7 o ho,fun o ho=>by rw[hC];exact r8 o ho,fun i j x c hi hj=>?_⟩
   obtain⟨v,q1,q2,q3⟩:=r10 i j x c hi hj
   exact⟨v,q1,q2,q3.mono hx⟩
 ·rcases h with h|h
  ·exact hs.Clt b o h
  ·rw[h];exact(hs.ownlt _ _ hk.own).1
 ·rw[look_dropM]at h1
  split at h1
  ·cases h1
  ·exact hs.disj _ _ _ h1 h2
theorem W_frzM {c:Code}{env:Env}{st:St}{Q:Post}{t id:Nat}{cs:List V}(ht:look env t=some (.ptr id 0))(hl:look st.mem id=some cs)
  (k:W P N c ((t,.ep (.agg cs) 0)::env) ⟨st.nx,dropM id st.mem,st.arr,st.x⟩ Q):W P N c env st Q:=by
 intro w A a hs he hN hd
 have hk:=hs.mem id cs hl
 have hx:=Ext.frzM w A id hk.own
 refine Code.wp_mono (lift_mono hx (fun _ _ _ h=>h)) (k w _ a (hs.frzM hl) (fun i v hv=>?_) hN hd)
 simp only[look]at hv
 split at hv
 ·rename_i e';cases hv;subst e'
  have h0:=he t _ ht
  generalize a.tmps.getD t undef=u at h0 ⊢
  cases h0
  obtain⟨vs,T,h1,h2,h3,h4⟩:=hk.row
  refine .ep (.agg cs) 0 (A.loc id) 0 (fun j=>vs.getD j undef) (fun j c hc=>?_) (fun j c hc=>?_)
  ·have hj:cs[j]?=some c:=hc
   have hlt:j<vs.size:=by rw[h2];exact(List.getElem?_eq_some_iff.1 hj).1
   have hv:vs[j]?=some (vs.getD j undef):=by simp[Array.getD,hlt]
   refine⟨.inr rfl,?_,h3 _ (by simp[Array.getD,hlt])⟩
   simp only[World.cell?,h1,Nat.zero_add]
   exact hv
  ·have hj:cs[j]?=some c:=hc
   have hlt:j<vs.size:=by rw[h2];exact(List.getElem?_eq_some_iff.1 hj).1
   exact(h4 j _ c (by simp[Array.getD,hlt]) hj).mono hx
 ·exact(he i v hv).mono hx
theorem Reps.snap {w:World}{A:Abs}{st:St}{vs:List Value}{ds ds':List V}(hs:Sim w A st)(h:Reps w A vs ds)(hd:mapO (snapA st) ds=some ds'):Reps w A vs ds':=by
 obtain⟨h1,h2⟩:=mapO_spec hd
 refine⟨by rw[h.1,h1],fun i v c hv hc=>?_⟩
 have hlt:i<ds.length:=by have:=(List.getElem?_eq_some_iff.1 hc).1;omega
 exact snapA_rep hs (h.2 i v ds[i] hv (List.getElem?_eq_getElem hlt)) (h2 i _ _ (List.getElem?_eq_getElem hlt) hc)
theorem VRet.snap {f:FuncId}{args args':List V}{st st':St}{r:V}(h:VRet P f args' st r st')(hd:mapO (snapA st) args=some args'):VRet P f args st r st':=by
 rcases h with h|h
 ·exact .inl ⟨h.1,fun w A vs hs ha=>h.2 w A vs hs (ha.snap hs hd)⟩
 ·exact .inr fun w A vs hs ha=>h w A vs hs (ha.snap hs hd)
def LessEnv (env env':Env):Prop:=∀i v,look env' i=some v→look env i=some v
theorem LessEnv.nil {env:Env}:LessEnv env []:=fun i v h=>by simp[look]at h
end
end Go.Sha
