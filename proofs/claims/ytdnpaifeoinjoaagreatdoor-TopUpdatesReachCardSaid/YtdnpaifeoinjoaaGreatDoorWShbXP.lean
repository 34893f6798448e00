/- An owned slice is given away as plain da. -/
import Derived.Test.YtdnpaifeoinjoaaGreatDoorWShbXO
set_option linter.unusedSimpArgs false
set_option linter.unusedVariables false
namespace Go.Sha
open Go.Shelf Go.RowKit Go.Lib Go.Sort Go.Proofs
section
variable {P:Program}{w:World}{A:Abs}{st:St}
def frzS (st:St)(id:Nat)(r:Arr):St:={ st with arr:=updA st.arr id { r with wr:=false } }
def Abs.frzR (A:Abs)(id m:Nat):Abs:={ A with C:=fun b o=>A.C b o∨(A.own b=some id∧o<m) }
theorem Ext.frzR (w:World)(A:Abs)(id m:Nat):Ext w A w (A.frzR id m) :=
 ⟨Nat.le_refl _,fun _ _=>rfl,fun _ _=>Nat.le_refl _,fun _ _ _=>rfl,fun _ _ h=>⟨.inl h,rfl⟩,fun _ _ h=>h,Nat.le_refl _,rfl,rfl,rfl,fun _ _ _=>rfl,
  fun b o _ ho hc=>hc.elim (fun h=>h) fun h=>(by rw[ho]at h;cases h.1),fun _ _ _ _ h=>h⟩
theorem Sim.freeze (hs:Sim w A st){id:Nat}{r:Arr}(hid:look st.arr id=some r):Sim w (A.frzR id (r.xs.length*r.es)) (frzS st id r):=by
 have hx:=Ext.frzR w A id (r.xs.length*r.es)
 refine⟨hs.nx,fun i cs h=>?_,fun i ar h=>?_,fun b o h=>?_,hs.ownlt,fun i cs ar h1 h2=>?_,?_⟩
 ·have hk:=hs.mem i cs h
  exact hk.of_heap hx hk.own rfl fun o hc=>hc.elim (hk.noC o) fun e=>by rw[hk.own]at e;cases e.1;exact hs.disj _ _ _ h hid
 ·simp only[frzS]at h
  rw[look_updA]at h
  split at h
  ·rename_i e1;subst e1
   rw[hid]at h;cases h
   have hk:=hs.arr i r hid
   refine⟨hk.lt,hk.ln,hk.es,?_⟩
   rcases hk.row with q|⟨g,cap,cur,q1,q2,q3,q4,q5,q6,q7,q8,q9⟩
   ·exact .inl q
   ·exact .inr ⟨g,cap,cur,q1,q2,q3,q4,q5,q6,fun o h hc=>hc.elim (q7 o h) fun e=>Nat.lt_irrefl _ (Nat.lt_of_lt_of_le e.2 h),fun o h=>⟨fun _=>rfl,fun _=>.inr ⟨q6,h⟩⟩,fun i j x c h1 h2=>by
     obtain⟨v,v1,v2,v3⟩:=q9 i j x c h1 h2
     exact⟨v,v1,v2,v3.mono hx⟩⟩
  ·rename_i e1
   have hk:=hs.arr i ar h
   refine hk.of_heap hx rfl fun g hg=>⟨hg,rfl,fun o=>⟨fun hc=>hc.elim (fun h=>h) fun e=>?_,.inl⟩⟩
   rw[hg]at e;exact absurd (Option.some.inj e.1) e1
 ·exact h.elim (hs.Clt _ _) fun e=>(hs.ownlt _ _ e.1).1
 ·simp only[frzS]at h1 h2
  rw[look_updA]at h2
  split at h2
  ·rename_i e1;subst e1;exact hs.disj _ _ _ h1 hid
  ·exact hs.disj _ _ _ h1 h2
 ·refine hs.x.of hx rfl (fun i o h=>⟨fun g hg=>⟨hg,rfl⟩,fun g hg k hc=>hc.elim ((hs.x.obj i o h).1.noC g hg k) fun e=>?_⟩) (fun i o h=>⟨(hs.x.obj i o h).2.1,?_⟩) (fun b i h=>(hs.ownlt b i h).1) (fun i T h hn=>⟨?_,fun vs fz h=>⟨vs,fz,h⟩⟩)
  ·have e1:A.own g=some i:=hg
   rw[e1]at e;cases e.1
   have:=(hs.x.obj _ o h).2.2;rw[hid]at this;cases this
  ·simp only[frzS]
   rw[look_updA];split
   ·rename_i e;subst e;have:=(hs.x.obj _ o h).2.2;rw[hid]at this;cases this
   ·exact(hs.x.obj i o h).2.2
  ·simp only[frzS]
   rw[look_updA];split
   ·rename_i e;subst e;rw[hid]at hn;cases hn
   ·exact hn
theorem VCalls_freeze {f:FuncId}{args:List V}{R:VRes→St→Prop}{id:Nat}{r:Arr}(hid:look st.arr id=some r)(h:VCalls P f (args.map fun a=>(snapA (frzS st id r) a).getD a) (frzS st id r) R):VCalls P f args st R:=by
 have key:∀{w:World}{A:Abs}{vs:List Value},Sim w A st→Reps w A vs args→Reps w (A.frzR id (r.xs.length*r.es)) vs (args.map fun a=>(snapA (frzS st id r) a).getD a):=fun {w A vs} hs ha=>by
  refine⟨by rw[List.length_map];exact ha.1,fun i v c hv hc=>?_⟩
  rw[List.getElem?_map]at hc
  obtain⟨d,hd,e⟩:=Option.map_eq_some_iff.1 hc
  have hd':=(ha.2 i v d hv hd).mono (Ext.frzR w A id (r.xs.length*r.es))
  cases e2:snapA (frzS st id r) d with
  |none=>rw[e2]at e;subst e;exact hd'
  |some d'=>rw[e2]at e;subst e;exact snapA_rep (hs.freeze hid) hd' e2
 rcases h with⟨hc,h⟩|h
 ·refine .inl ⟨hc,fun w A vs hs ha=>(h w _ vs (hs.freeze hid) (key hs ha)).mono ?_⟩
  rintro e w' ⟨x,A',s,h1,hE,hsim,hx⟩
  exact⟨x,A',s,h1,hE,hsim,(Ext.frzR w A _ _).trans hx⟩
 ·refine .inr fun w A vs hs ha=>?_
  obtain⟨v,w',hr,x,A',s,h1,hE,hsim,hx⟩:=h w _ vs (hs.freeze hid) (key hs ha)
  exact⟨v,w',hr,x,A',s,h1,hE,hsim,(Ext.frzR w A _ _).trans hx⟩
end
end Go.Sha
