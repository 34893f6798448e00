/- An open call that leaves an owned slice . -/
import Derived.Test.YtmjkgajnpmiomaaGreatDoorLShbXO
set_option linter.unusedSimpArgs false
set_option linter.unusedVariables false
namespace Go.Sha
open Go.Shelf Go.RowKit Go.Lib Go.Sort Go.Proofs
section
variable {P:Program}{w:World}{A:Abs}{st:St}
def frzS (st:St)(id:Nat)(r:Arr):St:={ st with arr:=updA st.arr id { r with wr:=false } }
def Abs.frzR (A:Abs)(id m:Nat):Abs:={ A with C:=fun b o=>A.C b o∨(A.own b=some id∧o<m) }
theorem Ext.frzR (w:World)(A:Abs)(id m:Nat):Ext w A w (A.frzR id m) :=
 ⟨Nat.le_refl _,fun _ _=>rfl,fun _ _=>Nat.le_refl _,fun _ _ _=>rfl,fun _ _ h=>⟨.inl h,rfl⟩,fun _ _ h=>h,Nat.le_refl _,rfl,rfl,rfl,fun _ _ _=>rfl,
  fun b o _ ho hc=>hc.elim (fun h=>h) fun h=>(by rw[ho]at h;cases h.1),fun _ _ _ _ h=>h⟩
theorem Sim.freeze (hs:Sim w A st){id:Nat}{r:Arr}(hid:look st.arr id=some r):Sim w (A.frzR id (r.xs.length*r.es)) (frzS st id r):=by
 have hx:=Ext.frzR w A id (r.xs.length*r.es)
 refine⟨hs.nx,fun i cs h=>?_,fun i ar h=>?_,fun b o h=>?_,hs.ownlt,fun i cs ar h1 h2=>?_,?_⟩
 ·have hk:=hs.mem i cs h
  exact hk.of_heap hx hk.own rfl fun o hc=>hc.elim (hk.noC o) fun e=>by rw[hk.own]at e;cases e.1;exact hs.disj _ _ _ h hid
 ·simp only[frzS]at h
  rw[look_updA]at h
  split at h
  ·rename_i e1;subst e1
   rw[hid]at h;cases h
   have hk:=hs.arr i r hid
   refine⟨hk.lt,hk.ln,hk.es,?_⟩
   rcases hk.row with q|⟨g,cap,cur,q1,q2,q3,q4,q5,q6,q7,q8,q9⟩
   ·exact .inl q
   ·exact .inr ⟨g,cap,cur,q1,q2,q3,q4,q5,q6,fun o h hc=>hc.elim (q7 o h) fun e=>Nat.lt_irrefl _ (Nat.lt_of_lt_of_le e.2 h),fun o h=>⟨fun _=>rfl,fun _=>.inr ⟨q6,h⟩⟩,fun i j x c h1 h2=>by
     obtain⟨v,v1,v2,v3⟩:=q9 i j x c h1 h2
     exact⟨v,v1,v2,v3.mono hx⟩⟩
  ·rename_i e1
   have hk:=hs.arr i ar h
   refine hk.of_heap hx rfl fun g hg=>⟨hg,rfl,fun o=>⟨fun hc=>hc.elim (fun h=>h) fun e=>?_,.inl⟩⟩
   rw[hg]at e;exact absurd (Option.some.inj e.1) e1
 ·exact h.elim (hs.Clt _ _) fun e=>(hs.ownlt _ _ e.1).1
 ·simp only[frzS]at h1 h2
  rw[look_updA]at h2
  split at h2
  ·rename_i e1;subst e1;exact hs.disj _ _ _ h1 hid
  ·exact hs.disj _ _ _ h1 h2
 ·refine hs.x.of hx rfl (fun i o h=>⟨fun g hg=>⟨hg,rfl⟩,fun g hg k hc=>hc.elim ((hs.x.obj i o h).1.noC g hg k) fun e=>?_⟩) (fun i o h=>⟨(hs.x.obj i o h).2.1,?_⟩) (fun b i h=>(hs.ownlt b i h).1) (fun i T h hn=>⟨?_,fun vs fz h=>⟨vs,fz,h⟩⟩)
  ·have e1:A.own g=some i:=hg
   rw[e1]at e;cases e.1
   have:=(hs.x.obj _ o h).2.2;rw[hid]at this;cases this
  ·simp only[frzS]
   rw[look_updA];split
   ·rename_i e;subst e;have:=(hs.x.obj _ o h).2.2;rw[hid]at this;cases this
   ·exact(hs.x.obj i o h).2.2
  ·simp only[frzS]
   rw[look_updA];split
   ·rename_i e;subst e;rw[hid]at hn;cases hn
   ·exact hn
theorem VCalls_freeze {f:FuncId}{args:List V}{R:VRes→St→Prop}{id:Nat}{r:Arr}(hid:look st.arr id=some r)(h:VCalls P f (args.map fun a=>(snapA (frzS st id r) a).getD a) (frzS st id r) R):VCalls P f args st R:=by
 have key:∀{w:World}{A:Abs}{vs:List Value},Sim w A st→Reps w A vs args→Reps w (A.frzR id (r.xs.length*r.es)) vs (args.map fun a=>(snapA (frzS st id r) a).getD a):=fun {w A vs} hs ha=>by
  refine⟨by rw[List.length_map];exact ha.1,fun i v c hv hc=>?_⟩
  rw[List.getElem?_map]at hc
  obtain⟨d,hd,e⟩:=Option.map_eq_some_iff.1 hc
  have hd':=(ha.2 i v d hv hd).mono (Ext.frzR w A id (r.xs.length*r.es))
  cases e2:snapA (frzS st id r) d with
  |none=>rw[e2]at e;subst e;exact hd'
  |some d'=>rw[e2]at e;subst e;exact snapA_rep (hs.freeze hid) hd' e2
 rcases h with⟨hc,h⟩|h
 ·refine .inl ⟨hc,fun w A vs hs ha=>(h w _ vs (hs.freeze hid) (key hs ha)).mono ?_⟩
  rintro e w' ⟨x,A',s,h1,hE,hsim,hx⟩
  exact⟨x,A',s,h1,hE,hsim,(Ext.frzR w A _ _).trans hx⟩
 ·refine .inr fun w A vs hs ha=>?_
  obtain⟨v,w',hr,x,A',s,h1,hE,hsim,hx⟩:=h w _ vs (hs.freeze hid) (key hs ha)
  exact⟨v,w',hr,x,A',s,h1,hE,hsim,(Ext.frzR w A _ _).trans hx⟩
end
end Go.Sha
namespace Go.Sha
open Go.Shelf Go.RowKit Go.Lib Go.Sort Go.Proofs
section
variable {P:Program}{w:World}{A:Abs}{st:St}
def frzK (n:Nat):List (Nat×Arr)→List (Nat×Arr)
 |[]=>[]
 |(i,r)::l=>(i,if n≤i then⟨r.e,r.es,r.xs,false,r.fz⟩ else r)::frzK n l
theorem look_frzK {n id:Nat}:∀{l:List (Nat×Arr)},look (frzK n l) id=(look l id).map fun r=>if n≤id then⟨r.e,r.es,r.xs,false,r.fz⟩ else r
 |[]=>rfl
 |(i,r)::l=>by
  simp only[frzK,look]
  split
  ·rename_i e;subst e;rfl
  ·exact look_frzK
def frzA (n:Nat)(st:St):St:=⟨st.nx,st.mem,frzK n st.arr,st.x⟩
def Abs.frzN (A:Abs)(n:Nat)(st:St):Abs:={ A with C:=fun b o=>A.C b o∨∃id r,n≤id∧look st.arr id=some r∧A.own b=some id∧o<r.xs.length*r.es }
theorem Ext.frzN (w:World)(A:Abs)(n:Nat)(st:St)(h:∀id,n≤id→∀b,A.own b=some id→True):Ext w A w (A.frzN n st) :=
 ⟨Nat.le_refl _,fun _ _=>rfl,fun _ _=>Nat.le_refl _,fun _ _ _=>rfl,fun _ _ h=>⟨.inl h,rfl⟩,fun _ _ h=>h,Nat.le_refl _,rfl,rfl,rfl,fun _ _ _=>rfl,
  fun b o _ ho hc=>hc.elim (fun h=>h) fun⟨_,_,_,_,h,_⟩=>(by rw[ho]at h;cases h),fun _ _ _ _ h=>h⟩
theorem Sim.frzN (hs:Sim w A st)(n:Nat):Sim w (A.frzN n st) (frzA n st):=by
 have hx:=Ext.frzN w A n st (fun _ _ _ _=>trivial)
 refine⟨hs.nx,fun i cs h=>?_,fun i ar h=>?_,fun b o h=>?_,hs.ownlt,fun i cs ar h1 h2=>?_,?_⟩
 ·have hk:=hs.mem i cs h
  exact hk.of_heap hx hk.own rfl fun o hc=>hc.elim (hk.noC o) fun⟨id,r,_,e1,e2,_⟩=>by rw[hk.own]at e2;cases e2;exact hs.disj _ _ _ h e1
 ·simp only[frzA]at h
  rw[look_frzK]at h
  obtain⟨r,hr,rfl⟩:=Option.map_eq_some_iff.1 h
  have hk:=hs.arr i r hr
  by_cases hn:n≤i
  ·rw[if_pos hn]
   refine⟨hk.lt,hk.ln,hk.es,?_⟩
   rcases hk.row with q|⟨g,cap,cur,q1,q2,q3,q4,q5,q6,q7,q8,q9⟩
   ·exact .inl q
   ·exact .inr ⟨g,cap,cur,q1,q2,q3,q4,q5,q6,fun o h hc=>hc.elim (q7 o h) fun⟨id,r',_,e1,e2,e3⟩=>by
     rw[q6]at e2;cases e2;rw[hr]at e1;cases e1;exact Nat.lt_irrefl _ (Nat.lt_of_lt_of_le e3 h),fun o h=>⟨fun _=>rfl,fun _=>.inr ⟨i,r,hn,hr,q6,h⟩⟩,fun i j x c h1 h2=>by
     obtain⟨v,v1,v2,v3⟩:=q9 i j x c h1 h2
     exact⟨v,v1,v2,v3.mono hx⟩⟩
  ·rw[if_neg hn]
   refine hk.of_heap hx rfl fun g hg=>⟨hg,rfl,fun o=>⟨fun hc=>hc.elim (fun h=>h) fun⟨id,r',hid,e1,e2,_⟩=>?_,.inl⟩⟩
   rw[hg]at e2;cases e2;exact absurd hid hn
 ·exact h.elim (hs.Clt _ _) fun⟨_,_,_,_,e,_⟩=>(hs.ownlt _ _ e).1
 ·simp only[frzA]at h1 h2
  rw[look_frzK]at h2
  obtain⟨r,hr,_⟩:=Option.map_eq_some_iff.1 h2
  exact hs.disj _ _ _ h1 hr
 ·refine hs.x.of hx rfl (fun i o h=>⟨fun g hg=>⟨hg,rfl⟩,fun g hg k hc=>hc.elim ((hs.x.obj i o h).1.noC g hg k) fun⟨id,r,_,e1,e2,_⟩=>?_⟩) (fun i o h=>⟨(hs.x.obj i o h).2.1,?_⟩) (fun b i h=>(hs.ownlt b i h).1) (fun i T h hn=>⟨?_,fun vs fz h=>⟨vs,fz,h⟩⟩)
  ·have e3:A.own g=some i:=hg
   rw[e3]at e2;cases e2
   have:=(hs.x.obj _ o h).2.2;rw[e1]at this;cases this
  ·simp only[frzA]
   rw[look_frzK,(hs.x.obj i o h).2.2];rfl
  ·simp only[frzA]
   rw[look_frzK,hn];rfl
def clsV (st:St):V→V
 | .osl id k=>(snap1 st (.osl id k)).getD (.osl id k)
 |v=>v
def clsK (st:St):List (Nat×List V)→List (Nat×List V)
 |[]=>[]
 |(i,cs)::l=>(i,cs.map (clsV st))::clsK st l
theorem look_clsK {id:Nat}:∀{l:List (Nat×List V)},look (clsK st l) id=(look l id).map (List.map (clsV st))
 |[]=>rfl
 |(i,r)::l=>by
  simp only[clsK,look]
  split
  ·rfl
  ·exact look_clsK
theorem clsV_rep (hs:Sim w A st){v:Value}{c:V}(h:Rep w A v c):Rep w A v (clsV st c):=by
 cases c with
 |osl id k =>
  simp only[clsV]
  cases e:snap1 st (.osl id k) with
  |none=>exact h
  |some d=>exact snap1_rep hs h e
 |_=>exact h
theorem Sim.clsM (hs:Sim w A st):Sim w A ⟨st.nx,clsK st st.mem,st.arr,st.x⟩:=by
 refine⟨hs.nx,fun i cs h=>?_,hs.arr,hs.Clt,hs.ownlt,fun i cs ar h1 h2=>?_,⟨fun i o h=>?_,hs.x.gl,hs.x.ty⟩⟩
 ·rw[look_clsK]at h
  obtain⟨c0,h0,rfl⟩:=Option.map_eq_some_iff.1 h
  have hk:=hs.mem i c0 h0
  obtain⟨vs,T,r1,r2,r3,r4⟩:=hk.row
  refine⟨hk.lt,⟨vs,T,r1,by rw[List.length_map];exact r2,r3,fun j v c hv hc=>?_⟩,hk.own,hk.noC⟩
  rw[List.getElem?_map]at hc
  obtain⟨d,hd,rfl⟩:=Option.map_eq_some_iff.1 hc
  exact clsV_rep hs (r4 j v d hv hd)
 ·rw[look_clsK]at h1
  obtain⟨c0,h0,rfl⟩:=Option.map_eq_some_iff.1 h1
  exact hs.disj _ _ _ h0 h2
 ·obtain⟨k1,k2,k3⟩:=hs.x.obj i o h
  refine⟨k1,?_,k3⟩
  rw[look_clsK,k2];rfl
def clsS (n:Nat)(st:St):St:=⟨st.nx,clsK (frzA n st) st.mem,frzK n st.arr,st.x⟩
theorem Sim.cls (hs:Sim w A st)(n:Nat):Sim w (A.frzN n st) (clsS n st):=(hs.frzN n).clsM
theorem VCalls_cls {f:FuncId}{args:List V}{r:VRes}{s:St}(n:Nat)(h:VCalls P f args st (fun r' s'=>r'=r∧s'=s)):VCalls P f args st (fun x y=>x=r∧y=clsS n s):=by
 rcases h with⟨hc,h⟩|h
 ·refine .inl ⟨hc,fun w A vs hs ha=>(h w A vs hs ha).mono ?_⟩
  rintro e w' ⟨x,A',s',⟨rfl,rfl⟩,hE,hsim,hx⟩
  have hz:=Ext.frzN w' A' n s' (fun _ _ _ _=>trivial)
  refine⟨x,_,_,⟨rfl,rfl⟩,?_,hsim.cls n,hx.trans hz⟩
  cases e with
  |returned v=>cases x with
   |ret d=>exact Rep.mono hz hE
   |pan d=>exact hE.elim
  |panicked ch=>cases x with
   |ret d=>exact hE.elim
   |pan d=>obtain⟨u,e1,e2⟩:=hE;exact⟨u,e1,e2.mono hz⟩
  |outgrown=>cases x<;>exact hE.elim
 ·refine .inr fun w A vs hs ha=>?_
  obtain⟨v,w',hr,x,A',s',⟨rfl,rfl⟩,hE,hsim,hx⟩:=h w A vs hs ha
  have hz:=Ext.frzN w' A' n s' (fun _ _ _ _=>trivial)
  refine⟨v,w',hr,x,_,_,⟨rfl,rfl⟩,?_,hsim.cls n,hx.trans hz⟩
  cases x with
  |ret d=>exact Rep.mono hz hE
  |pan d=>exact hE.elim
noncomputable def hCls (E:EvF)(f:FuncId)(args:List V)(st:St):Rt:=match E f args st with
 |some (r,s)=>openR st.nx (some (r,clsS st.nx s))
 |none=>none
theorem cls_ok {E:EvF}(hE:ESound P E){f:FuncId}{args:List V}{r:VRes}{s:St}(h:hCls E f args st=some (r,s)):VCalls P f args st (fun x y=>x=r∧y=s):=by
 unfold hCls at h
 split at h
 ·rename_i r0 s0 he
  exact VCalls_open (VCalls_cls st.nx (hE _ _ _ _ _ he)) h
 ·cases h
def oslI:List V→Option Nat
 |[]=>none
 | .osl id _::_=>some id
 |_::r=>oslI r
noncomputable def hFzE (E:EvF)(f:FuncId)(args:List V)(st:St):Rt:=match oslI args with
 |some id=>match look st.arr id with
  |some r=>E f (args.map fun a=>(snapA (frzS st id r) a).getD a) (frzS st id r)
  |none=>none
 |none=>none
theorem fz_ok {E:EvF}(hE:ESound P E){f:FuncId}{args:List V}{r:VRes}{s:St}(h:hFzE E f args st=some (r,s)):VCalls P f args st (fun x y=>x=r∧y=s):=by
 unfold hFzE at h
 split at h
 ·split at h
  ·rename_i hl
   exact VCalls_freeze hl (hE _ _ _ _ _ h)
  ·cases h
 ·cases h
end
end Go.Sha
