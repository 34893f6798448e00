/- slices. -/
import Derived.Test.YtmjkgajnpmiomaaGreatDoorLShbXL
import Derived.Test.YtmjkgajnpmiomaaGreatDoorLShbT
import Derived.Shelf.Spec.SlicesGrow
set_option linter.unusedSimpArgs false
set_option linter.unusedVariables false
namespace Go.Sha
open Go.Shelf Go.RowKit Go.Lib Go.Sort Go.Proofs
section
variable {P:Program}{w:World}{A:Abs}{st:St}
theorem Sim.transfer (hs:Sim w A st){id:Nat}{r:Arr}(hid:look st.arr id=some r)(hw:r.wr=true)(hfz:r.fz=false){g cap:Nat}(hg:A.sv id=.slice (some ⟨g,0,none⟩) r.xs.length cap)(ho:A.own g=some id){cur:Array Value}(hrow:w.heap[g]?=some (.cells cur r.e (0,0)))
  {new:Array Value} (hsz:new.size=cap*r.es) (hm:cap≤maxLen) {ys:List V} (hlen:ys.length≤cap) (hes:∀y∈ys,y.cells.length=r.es)
  (hcell:∀(i j:Nat) (y c:V),ys[i]?=some y→y.cells[j]?=some c→∃v,new[i*r.es+j]?=some v∧v.oneCell'=true∧Rep w A v c) :
  ∃A',Ext w A (w.setRow g new) A'∧Sim (w.setRow g new) A' ⟨st.nx+1,st.mem,(st.nx,{ r with xs:=ys })::delA st.arr id,st.x⟩∧Rep (w.setRow g new) A' (.slice (some ⟨g,0,none⟩) ys.length cap) (.osl st.nx ys.length):=by
 have hk:=hs.arr id r hid
 have hno:∀o,¬A.C g o:=fun o hC=>by
  rcases hk.row with⟨r1,_⟩|⟨g',cap',cur',r1,r2,r3,r4,r5,r6,r7,r8,r10⟩
  ·rw[hg]at r1;cases r1
  ·rw[hg]at r1;cases r1
   rcases Nat.lt_or_ge o (r.xs.length*r.es) with h|h
   ·have:=(r8 o h).1 hC;rw[hw]at this;cases this
   ·exact r7 o h hC
 have hglt:g<w.heap.size:=(hs.ownlt _ _ ho).1
 have hnx:=hs.nx
 have hidlt:=hk.lt
 have hx:Ext w A (w.setRow g new) (A.newArr g ys.length (.slice (some ⟨g,0,none⟩) ys.length cap) false 0):={
  nx:=Nat.le_succ _
  loc:=fun _ _=>rfl
  ln:=fun i h=>by simp only[Abs.newArr];rw[if_neg (by omega)];exact Nat.le_refl _
  sv:=fun i h _=>by simp only[Abs.newArr];rw[if_neg (by omega)]
  C:=fun b o h=>⟨.inl h,by
   have hb:b≠g:=fun e=>hno o (e▸h)
   unfold World.cell?;rw[setRow_other w g b new hb]⟩
  own:=fun b hb h=>by
   have:b≠g:=fun e=>by rw[e,ho]at h;cases h
   simp only[Abs.newArr];rw[if_neg this];exact h
  size:=by simp
  os:=rfl
  tape:=rfl
  output:=rfl
  fr:=fun b hb h=>setRow_other w g b new (fun e=>by rw[e,ho]at h;cases h)
  cold:=fun b o _ _ hc=>hc.elim (fun h=>h) fun h=>by cases h.1
  mc:=fun b ms c hc h=>by rw[setRow_other w g b new (fun e=>hno 0 (e▸hc))];exact h }
 have oldC:∀b o,(A.newArr g ys.length (.slice (some ⟨g,0,none⟩) ys.length cap) false 0).C b o↔A.C b o:=fun b o=>⟨fun h=>h.elim (fun h=>h) (fun h=>by cases h.1),.inl⟩
 have ne:∀b i,A.own b=some i→i≠id→b≠g:=fun b i h hi e=>by rw[e,ho]at h;cases h;exact hi rfl
 have oldown:∀b i,A.own b=some i→i≠id→(A.newArr g ys.length (.slice (some ⟨g,0,none⟩) ys.length cap) false 0).own b=some i:=fun b i h hi=>by
  simp only[Abs.newArr];rw[if_neg (ne b i h hi)];exact h
 refine⟨_,hx,⟨by simp[Abs.newArr,hnx],fun i cs' h=>?_,fun i ar h=>?_,fun b o h=>?_,fun b i h=>?_,fun i cs' ar h1 h2=>?_,?_⟩,?_⟩
 ·have hk':=hs.mem i cs' h
  have hi:i≠id:=fun e=>hs.disj _ _ _ h (e▸hid)
  exact hk'.of_heap hx (oldown _ _ hk'.own hi) (setRow_other w _ _ _ (ne _ _ hk'.own hi)) (fun o h=>hk'.noC o ((oldC _ _).1 h))
 ·simp only[look]at h
  split at h
  ·rename_i e;cases h;subst e
   refine⟨by simp[Abs.newArr,hnx],by simp[Abs.newArr,hnx],hes,.inr ⟨g,cap,new,by simp[Abs.newArr,hnx],?_,hlen,hm,hsz,by simp[Abs.newArr,hnx],fun o _ h=>hno o ((oldC _ _).1 h),fun o _=>⟨fun h=>absurd ((oldC _ _).1 h) (hno o),fun h=>by rw[hw]at h;cases h⟩,fun i j x c hi hj=>?_⟩⟩
   ·unfold rowAt;simp only[hfz];exact setRow_heap w g cur new _ _ hrow
   ·obtain⟨v,v1,v2,v3⟩:=hcell i j x c hi hj
    exact⟨v,v1,v2,v3.mono hx⟩
  ·rw[look_delA]at h
   split at h
   ·cases h
   ·rename_i hi
    have hk':=hs.arr i ar h
    exact hk'.of_heap hx (by have:=hk'.lt;simp only[Abs.newArr];rw[if_neg (by omega)]) (fun b hb=>⟨oldown b i hb hi,setRow_other w _ _ _ (ne b i hb hi),fun o=>oldC b o⟩)
 ·have:=hs.Clt b o ((oldC b o).1 h);simpa using this
 ·simp only[Abs.newArr]at h ⊢
  split at h
  ·rename_i e;cases h;subst e;exact⟨by simpa using hglt,by omega⟩
  ·have:=hs.ownlt b i h;exact⟨by simpa using this.1,by omega⟩
 ·simp only[look]at h2
  split at h2
  ·rename_i e;subst e;have:=(hs.mem _ cs' h1).lt;omega
  ·rw[look_delA]at h2
   split at h2
   ·cases h2
   ·exact hs.disj i cs' ar h1 h2
 ·refine hs.x.of hx rfl (fun i o hobj=>?_) (fun i o hobj=>?_) (fun b i h=>(hs.ownlt b i h).1) (fun i T hi hn=>?_) (fun b i h hn=>oldown b i h fun e=>by rw[e,hid]at hn;cases hn)
  ·have hi:i≠id:=fun e=>by have:=(hs.x.obj i o hobj).2.2;rw[e,hid]at this;cases this
   refine⟨fun b hb=>⟨oldown b i hb hi,setRow_other w _ _ _ (ne b i hb hi)⟩,fun b hb k hc=>?_⟩
   have hlt:=(hs.x.obj i o hobj).1.lt
   simp only[Abs.newArr]at hb
   split at hb
   ·cases hb;omega
   ·exact(hs.x.obj i o hobj).1.noC b hb k ((oldC b k).1 hc)
  ·obtain⟨h0,m1,m2⟩:=hs.x.obj i o hobj
   have:=h0.lt
   refine⟨m1,?_⟩
   simp only[look];rw[if_neg (by omega),look_delA]
   split
   ·rfl
   ·exact m2
  ·have hk':=(hs.x.ty i T hi).1
   have:=hk'.lt
   refine⟨?_,fun vs fz h=>setRow_typed h⟩
   simp only[look];rw[if_neg (by omega),look_delA]
   split
   ·rfl
   ·exact hn
 ·exact .osl _ _ _ (by simp[Abs.newArr,hnx]) (by simp[Abs.newArr,hnx]) (fun _=>by simp[Abs.newArr,hnx])
theorem Rep.oslE {v:Value}{id n:Nat}(h:Rep w A v (.osl id n))(hn:A.ln id=n):v=A.sv id:=by
 cases h with
 |osl _ _ _ _ _ h=>exact h hn.symm
theorem Rep.intE {v:Value}{k:IntKind}{n:Int}(h:Rep w A v (.int k n)):v=.int k n:=by
 cases h;rfl
theorem bears_callable {f:FuncId}{B:Func}(h:Bears P f B)(hb:B.body.isNone=false):Callable P f:=by
 obtain⟨nm,h1,h2⟩:=h
 exact⟨_,h2,h1,hb⟩
theorem row_one {xs:List V}{k:Nat}{cur:Array Value}(hk0:0<k)(hes:∀x∈xs,x.cells.length=k)(hr:∀(i j:Nat) (x c:V),xs[i]?=some x→x.cells[j]?=some c→∃v,cur[i*k+j]?=some v∧v.oneCell'=true∧Rep w A v c) :
  ∀(t:Nat) v,t<xs.length*k→cur[t]?=some v→v.oneCell'=true:=fun t v ht hv=>by
 have hi:t / k<xs.length:=Nat.div_lt_of_lt_mul (by rwa [Nat.mul_comm]at ht)
 have hj:t % k<k:=Nat.mod_lt _ hk0
 have hx:xs[t / k]?=some xs[t / k]:=List.getElem?_eq_getElem hi
 have hl:=hes _ (List.getElem_mem hi)
 obtain⟨u,u1,u2,_⟩:=hr _ (t % k) _ _ hx (List.getElem?_eq_getElem (by omega))
 rw[show t / k*k+t % k=t by rw[Nat.mul_comm];exact Nat.div_add_mod t k,hv]at u1
 cases u1;exact u2
theorem below_drewN (w:World)(q b:Nat)(new:Array Value):Below (w.setRow b new).heap.size (w.setRow b new) ((w.drewN q).setRow b new):=⟨rfl,rfl,rfl,Nat.le_refl _,fun _ _=>rfl⟩
theorem delete_ok {k:Nat}{i0:TypeInfo}{z:Value}{ρ:Ren}(L:SlT P 22 23 k i0 z ρ){f:FuncId}(FG:Bears P f (SlBodyN.n45 ρ))(hk0:0<k){st:St}{id n i j:Nat}{r:Arr}(hid:look st.arr id=some r)(hn:r.xs.length=n)(hw:r.wr=true)(hfz:r.fz=false)
  (he:r.e=ρ.t 23) (hes:r.es=k) (hij:i<j) (hj:j≤n) :
  VCalls P f [.osl id n,.int .i64 i,.int .i64 j] st fun x s=>x=.ret (.osl st.nx (n-(j-i)))∧s=⟨st.nx+1,st.mem,(st.nx,{ r with xs:=r.xs.take i++r.xs.drop j })::delA st.arr id,st.x⟩:=by
 refine .inl ⟨bears_callable FG rfl,fun w A vs hs ha=>?_⟩
 obtain⟨hl,ha⟩:=ha
 match vs,hl with
 |[v0,v1,v2],_ =>
 have hk:=hs.arr id r hid
 have e0:=(ha 0 v0 _ rfl rfl).oslE (hk.ln.trans hn)
 have e1:=(ha 1 v1 _ rfl rfl).intE
 have e2:=(ha 2 v2 _ rfl rfl).intE
 rcases hk.row with⟨_,q2,_⟩|⟨g,cap,cur,q1,q2,q3,q4,q5,q6,q7,q8,q9⟩
 ·rw[q2]at hn;simp at hn;omega
 have hrow:=q2
 unfold rowAt at hrow
 rw[hfz,he]at hrow
 rw[hes]at q5 q9
 have hxes:∀x∈r.xs,x.cells.length=k:=fun x hx=>(hk.es x hx).trans hes
 have h1:=row_one hk0 hxes q9
 rw[hn]at h1 q3
 rw[e0,e1,e2,q1,hn]
 refine(delete_row L FG hrow q5 q3 (by unfold maxLen at q4;omega) hij hj h1).mono ?_
 rintro e w' ⟨rfl,q,new,rfl,hs1,hget⟩
 have hlen:(r.xs.take i++r.xs.drop j).length=n-(j-i):=by simp;omega
 obtain⟨A',hx,hsim,hrep⟩:=Sim.transfer hs hid hw hfz q1 q6 (by unfold rowAt at q2;rw[hfz]at q2;exact q2) (new:=new) (by rw[hs1,q5,hes]) q4 (ys:=r.xs.take i++r.xs.drop j) (by omega) (fun y hy=>by
  rcases List.mem_append.1 hy with hy|hy
  ·exact hk.es y (List.mem_of_mem_take hy)
  ·exact hk.es y (List.mem_of_mem_drop hy)) (fun i' j' y c hy hc=>by
  have hj':j'<k:=by rw[←hxes y (by
   rcases List.mem_append.1 (List.mem_of_getElem? hy) with hy|hy
   ·exact List.mem_of_mem_take hy
   ·exact List.mem_of_mem_drop hy)];exact(List.getElem?_eq_some_iff.1 hc).1
  have hi':i'<n-(j-i):=by rw[←hlen];exact(List.getElem?_eq_some_iff.1 hy).1
  have hb:i'*k+j'<(n-(j-i))*k:=by
   have:=Nat.mul_le_mul_right k (show i'+1≤n-(j-i) from hi');rw[Nat.add_mul,Nat.one_mul]at this;omega
  rw[hes,hget _ hb]
  by_cases h:i'<i
  ·rw[List.getElem?_append_left (by simp;omega),List.getElem?_take_of_lt h]at hy
   have:i'*k+j'<i*k:=by
    have:=Nat.mul_le_mul_right k (show i'+1≤i from h);rw[Nat.add_mul,Nat.one_mul]at this;omega
   rw[if_pos this]
   exact q9 i' j' y c hy hc
  ·rw[List.getElem?_append_right (by simp;omega),List.getElem?_drop,List.length_take,show j+(i'-min i r.xs.length)=i'+(j-i) by omega]at hy
   have:¬i'*k+j'<i*k:=by
    have:=Nat.mul_le_mul_right k (show i≤i' by omega);omega
   rw[if_neg this,show i'*k+j'+(j-i)*k=(i'+(j-i))*k+j' by rw[Nat.add_mul];omega]
   exact q9 _ j' y c hy hc)
 rw[hlen]at hrep
 have hb:=below_drewN w q g new
 refine⟨.ret (.osl st.nx (n-(j-i))),A',_,⟨rfl,rfl⟩,hrep.mono (Ext.below hsim hb),hsim.below hb,hx.trans (Ext.below hsim hb)⟩
theorem insP_reads {xs ys:List V}{k i n m:Nat}{cur new:Array Value}{vs:List Value}(hk0:0<k)(hn:xs.length=n)(hm:ys.length=m)(hi:i≤n)(hx:∀x∈xs,x.cells.length=k)(hy:∀y∈ys,y.cells.length=k)
  (hr:∀(i j:Nat) (x c:V),xs[i]?=some x→x.cells[j]?=some c→∃v,cur[i*k+j]?=some v∧v.oneCell'=true∧Rep w A v c)
  (hv:∀(i j:Nat) (x c:V),ys[i]?=some x→x.cells[j]?=some c→∃v,vs[i*k+j]?=some v∧v.oneCell'=true∧Rep w A v c) (h:InsP cur new vs (i*k) (n*k) (m*k)) :
  (∀y∈xs.take i++ys++xs.drop i,y.cells.length=k)∧(xs.take i++ys++xs.drop i).length=n+m ∧
  ∀(t j:Nat) (y c:V),(xs.take i++ys++xs.drop i)[t]?=some y→y.cells[j]?=some c→∃v,new[t*k+j]?=some v∧v.oneCell'=true∧Rep w A v c:=by
 have hall:∀y∈xs.take i++ys++xs.drop i,y.cells.length=k:=fun y h=>by
  rcases List.mem_append.1 h with h|h
  ·rcases List.mem_append.1 h with h|h
   ·exact hx y (List.mem_of_mem_take h)
   ·exact hy y h
  ·exact hx y (List.mem_of_mem_drop h)
 have hlen:(xs.take i++ys++xs.drop i).length=n+m:=by simp;omega
 refine⟨hall,hlen,fun t j y c ht hc=>?_⟩
 have hj:j<k:=by rw[←hall y (List.mem_of_getElem? ht)];exact(List.getElem?_eq_some_iff.1 hc).1
 have hlt:t<n+m:=by rw[←hlen];exact(List.getElem?_eq_some_iff.1 ht).1
 have le:∀a b:Nat,a<b→a*k+j<b*k:=fun a b hab=>by
  have:=Nat.mul_le_mul_right k (show a+1≤b from hab);rw[Nat.add_mul,Nat.one_mul]at this;omega
 have ge:∀a b:Nat,b≤a→¬a*k+j<b*k:=fun a b hab=>by
  have:=Nat.mul_le_mul_right k hab;omega
 rw[h _ (by rw[←Nat.add_mul];exact le t _ hlt)]
 rw[List.append_assoc]at ht
 by_cases h1:t<i
 ·rw[List.getElem?_append_left (by simp;omega),List.getElem?_take_of_lt h1]at ht
  rw[if_pos (le t i h1)]
  exact hr t j y c ht hc
 ·rw[List.getElem?_append_right (by simp;omega),List.length_take,show t-min i xs.length=t-i by omega]at ht
  rw[if_neg (ge t i (by omega)),←Nat.add_mul]
  by_cases h2:t<i+m
  ·rw[List.getElem?_append_left (by omega)]at ht
   rw[if_pos (le t _ h2),show t*k+j-i*k=(t-i)*k+j by rw[Nat.sub_mul];have:=Nat.mul_le_mul_right k (show i≤t by omega);omega]
   exact hv _ j y c ht hc
  ·rw[List.getElem?_append_right (by omega),List.getElem?_drop,hm,show i+(t-i-m)=t-m by omega]at ht
   rw[if_neg (ge t _ (by omega)),show t*k+j-m*k=(t-m)*k+j by rw[Nat.sub_mul];have:=Nat.mul_le_mul_right k (show m≤t by omega);omega]
   exact hr _ j y c ht hc
set_option maxHeartbeats 4000000 in
set_option maxRecDepth 1000000 in
theorem insert_end {k:Nat}{i0:TypeInfo}{z:Value}{ρ:Ren}(L:SlT P 24 9 k i0 z ρ){f:FuncId}(FG:Bears P f (Body2.n22 ρ)){w w1:World}{base x:Option Addr}{u:Value}{n c m vc:Nat}(hm:0<m)(hnc:n≤c)(hn0:base=none→n=0∧c=0)
  (hrun:(Builtin.append_ #[ρ.t 24,ρ.t 24] (ρ.t 24) #[.slice base n c,.slice x m vc]).run P w=.ok u w1) (u2:∃a b d,u=.slice a b d) :
  Calls P f #[.slice base n c,.int .i64 n,.slice x m vc] w fun e w'=>e=.returned u∧w'=w1:=by
 have t0:=L.t0;have a0:=L.a0;have z0:=L.z0;have v0:=L.v0;have t3:=L.t3;have a3:=L.a3;have z3:=L.z3;have v3:=L.v3;have t4:=L.t4;have a4:=L.a4;have z4:=L.z4;have v4:=L.v4;have t9:=L.ae;have z9:=L.ze;have t24:=L.ts;have a24:=L.aS;have z24:=L.zs;have v24:=L.vs
 have mixed:=L.mixed
 have hz1:¬((m:Int)=0):=by omega
 obtain⟨_,_,FG⟩:=FG
 obtain⟨q1,q2,q3,rfl⟩:=u2
 go_enter FG,Body2.n22_ntmps ρ
 cases base with
 |none =>
  obtain⟨rfl,rfl⟩:=hn0 rfl
  go_wp2_with (at_builtin;refine Lib.wpList_append_run _ rfl _ _ _ _ rfl _ _ rfl rfl _ _ hrun ?_)
  go_ret
  exact⟨rfl,rfl⟩
 |some a =>
  obtain⟨ab,ao,asp⟩:=a
  go_wp2_with (at_builtin;refine Lib.wpList_append_run _ rfl _ _ _ _ rfl _ _ rfl rfl _ _ hrun ?_)
  all_goals (go_ret;exact⟨rfl,rfl⟩)
theorem insert_ok {k:Nat}{i0:TypeInfo}{z:Value}{ρ:Ren}(L:SlT P 24 9 k i0 z ρ){f:FuncId}(FG:Bears P f (Body2.n22 ρ))(FO:OvL P (ρ.f 29) (ρ.t 24) (ρ.t 4))(hk0:0<k){st:St}{id n i id' m:Nat}{r r':Arr}{ys:List V}
  (hid:look st.arr id=some r) (hn:r.xs.length=n) (hw:r.wr=true) (hfz:r.fz=false) (he:r.e=ρ.t 9) (hes:r.es=k) (hid':look st.arr id'=some r') (hn':r'.xs.length=m) (hfz':r'.fz=false) (hes':r'.es=k) (hne:id'≠id)
  (hm:0<m) (hi:i≤n) (hsn:mapO (snapA st) r'.xs=some ys) (hroom:roomV (n+m) i0.bytes=true) :
  VCalls P f [.osl id n,.int .i64 i,.osl id' m] st fun x s=>x=.ret (.osl id (n+m))∧s={ st with arr:=updA st.arr id { r with xs:=r.xs.take i++ys++r.xs.drop i } }:=by
 refine .inl ⟨bears_callable FG rfl,fun w A vs hs ha=>?_⟩
 obtain⟨hl,ha⟩:=ha
 match vs,hl with
 |[v0,v1,v2],_ =>
 have hk:=hs.arr id r hid
 have hk':=hs.arr id' r' hid'
 have r0:=ha 0 v0 _ rfl rfl
 have r2:=ha 2 v2 _ rfl rfl
 have e0:=r0.oslE (hk.ln.trans hn)
 have e1:=(ha 1 v1 _ rfl rfl).intE
 have e2:=r2.oslE (hk'.ln.trans hn')
 simp only[roomV,Bool.and_eq_true,decide_eq_true_eq]at hroom
 have hxes:∀x∈r.xs,x.cells.length=k:=fun x hx=>(hk.es x hx).trans hes
 obtain⟨l1,l2⟩:=mapO_spec hsn
 have hyes:∀y∈ys,y.cells.length=k:=fun y hy=>by
  obtain⟨t,ht⟩:=List.mem_iff_getElem?.1 hy
  have hlt:t<r'.xs.length:=by have:=(List.getElem?_eq_some_iff.1 ht).1;omega
  rw[(snapA_cells (l2 t r'.xs[t] y (List.getElem?_eq_getElem hlt) ht)).1]
  exact(hk'.es _ (List.getElem_mem hlt)).trans hes'
 have hel:elemsV st (.osl id' m)=some r'.xs:=by simp[elemsV,hid',hn']
 have hyl:ys.length=m:=by omega
 rcases Nat.eq_or_lt_of_le hi with hin|hin
 ·-- at the end
  subst hin
  have hap:appendV st r.e i0.size i0.bytes (.osl id i) (.osl id' m)=some (.osl id (i+m),{ st with arr:=updA st.arr id { r with xs:=r.xs++ys } }):=by
   have h3:ys.all (fun y=>y.cells.length == i0.size)=true:=by rw[List.all_eq_true];intro y hy;rw[L.hk];simpa using hyes y hy
   simp only[appendV,hel,hsn,h3,if_true,appG,hid,appA]
   rw[if_pos ⟨hn,trivial,by rw[hes,L.hk],hfz,by simp[roomV,hyl,hroom]⟩,hyl]
  obtain⟨u,w',A',g1,g2,g3,g4⟩:=append_sound (P:=P) (t:=ρ.t 24) (ty:=ρ.t 24) L.ts L.hi L.hz (by rw[L.hk];exact hk0) (by rw[L.zc,L.hk]) hs r0 r2 (by rw[he]at hap;exact hap)
  have hu:∃a b d,u=.slice a b d:=by
   have:=g2.oslE (by have:=(g3.arr id _ (by simp only[look_updA,hid,if_true];rfl)).ln;rw[this];simp[hn,hyl])
   rw[this]
   rcases(g3.arr id _ (by simp only[look_updA,hid,if_true];rfl)).row with⟨q,_⟩|⟨_,_,_,q,_⟩<;>exact⟨_,_,_,q⟩
  have hcap:∃base c,A.sv id=.slice base i c∧i≤c∧(base=none→i=0∧c=0):=by
   rcases hk.row with⟨q1,q2,_⟩|⟨g,cap,cur,q1,q2,q3,_⟩
   ·rw[q2]at hn;simp at hn;subst hn;exact⟨none,0,q1,Nat.le_refl _,fun _=>⟨rfl,rfl⟩⟩
   ·rw[hn]at q1 q3;exact⟨_,cap,q1,q3,fun h=>by cases h⟩
  have hx2:∃x vc,A.sv id'=.slice x m vc:=by
   rcases hk'.row with⟨q1,q2,_⟩|⟨g,cap,cur,q1,_⟩
   ·rw[q2]at hn';simp at hn';omega
   ·rw[hn']at q1;exact⟨_,cap,q1⟩
  obtain⟨base,c,b1,b2,b3⟩:=hcap
  obtain⟨x,vc,b4⟩:=hx2
  rw[e0,b1,e2,b4]at g1
  rw[e0,e1,e2,b1,b4]
  refine(insert_end L FG hm b2 b3 g1 hu).mono ?_
  rintro e w'' ⟨rfl,rfl⟩
  refine⟨.ret (.osl id (i+m)),A',_,⟨rfl,?_⟩,g2,g3,g4⟩
  rw[List.take_of_length_le (by omega),List.drop_of_length_le (by omega),List.append_nil,←he]
 ·rcases hk.row with⟨_,q2,_⟩|⟨g,cap,cur,q1,q2,q3,q4,q5,q6,q7,q8,q9⟩
  ·rw[q2]at hn;simp at hn;omega
  rcases hk'.row with⟨_,p2,_⟩|⟨g',cap',cur',p1,p2,p3,p4,p5,p6,p7,p8,p9⟩
  ·rw[p2]at hn';simp at hn';omega
  have hrow:=q2
  unfold rowAt at hrow
  rw[hfz,he]at hrow
  have hrow':=p2
  unfold rowAt at hrow'
  rw[hfz']at hrow'
  have hgg:g'≠g:=fun e=>by rw[e,q6]at p6;cases p6;exact hne rfl
  rw[hes]at q5 q9
  have h1:=row_one hk0 hxes q9
  obtain⟨b,cp,hv2,s1,s2⟩:=append_source hs r2 hel hsn hyes
  have e3:v2=.slice (some ⟨g',0,none⟩) m cap':=by rw[e2,p1,hn']
  rw[e3,hyl]at hv2
  cases hv2
  obtain⟨vs,c1,c2,c3,c4⟩:=s2 _ rfl
  have hvs:∀(j:Nat) v,vs[j]?=some v→cur'[j]?=some v:=fun j v h=>by
   have:=c2 j v h
   rw[Addr.add_lit]at this
   simp only[World.cell?,hrow']at this
   simpa using this
  have hvr:∀(i j:Nat) (x c:V),ys[i]?=some x→x.cells[j]?=some c→∃v,vs[i*k+j]?=some v∧v.oneCell'=true∧Rep w A v c:=fun i j x c hi hj=>by
   obtain⟨v,v1,v2⟩:=c4 i j x c hi hj
   exact⟨v,v1,c3 v (List.mem_of_getElem? v1),v2⟩
  rw[hyl]at c1
  have hnlen:=q3
  rw[hn]at h1 q3 q1
  rw[e0,e1,e3,q1]
  by_cases hr:n+m≤cap
  ·refine(insert_shift L FG FO hrow hrow' hgg hk0 q5 (by unfold maxLen at q4;omega) hin hm hr c1 hvs h1 c3).mono ?_
   rintro e w' ⟨rfl,q,new,rfl,hs1,hP⟩
   obtain⟨a1,a2,a3⟩:=insP_reads hk0 hn hyl (Nat.le_of_lt hin) hxes hyes q9 hvr hP
   have hno:∀o,¬A.C g o:=fun o hC=>by
    rcases Nat.lt_or_ge o (r.xs.length*r.es) with h|h
    ·have:=(q8 o h).1 hC;rw[hw]at this;cases this
    ·exact q7 o h hC
   have hx:Ext w A (w.setRow g new) (A.regrow id g (r.xs.take i++ys++r.xs.drop i).length (.slice (some ⟨g,0,none⟩) (r.xs.take i++ys++r.xs.drop i).length cap) (!r.wr) ((r.xs.take i++ys++r.xs.drop i).length*r.es)) :=
    Ext.regrow hs hk.lt (by rw[hk.ln,a2];omega) (fun e=>by rw[hk.ln,a2]at e;omega) (fun b o h=>by
     have hb:b≠g:=fun e=>hno o (e▸h)
     unfold World.cell?;rw[setRow_other w g b new hb]) (.inl q6) (by simp) ⟨rfl,rfl,rfl⟩ (fun b _ h=>setRow_other w g b new (fun e=>by rw[e,q6]at h;cases h))
     (fun b ms c h=>by rw[setRow_other w g b new (fun e=>by rw[e,hrow]at h;cases h)];exact h)
   have hsim:=Sim.regrow hs hid hfz hx (.inl q6) (by rw[he];exact setRow_heap w g cur new _ _ hrow) (fun b _ h=>setRow_other w g b new h) (fun _=>hno) (fun o h=>absurd h (hno o)) (fun y hy=>(a1 y hy).trans hes.symm) (by rw[a2];exact hr) q4 (by rw[hs1,q5,hes]) (by rw[hes];exact a3)
   have hb:=below_drewN w q g new
   refine⟨.ret (.osl id (n+m)),_,_,⟨rfl,rfl⟩,?_,hsim.below hb,hx.trans (Ext.below hsim hb)⟩
   exact .osl _ _ _ hk.lt (by simp only[Abs.regrow,if_true,a2];exact Nat.le_refl _) (fun _=>by simp only[Abs.regrow,if_true,a2])
  ·refine(insert_grow L FG hrow hrow' hk0 q5 q3 hin hm (by omega) hroom.2 hroom.1 c1 hvs h1 c3).mono ?_
   rintro e w' ⟨c',rfl,hc1,hc2,q,new,rfl,hs1,hP⟩
   obtain⟨a1,a2,a3⟩:=insP_reads hk0 hn hyl (Nat.le_of_lt hin) hxes hyes q9 hvr hP
   obtain⟨A',b1,b2,b3⟩:=regrow_new hs hid hfz (xs:=r.xs.take i++ys++r.xs.drop i) (by rw[a2];omega) (q:=new) (cap:=c') (by rw[hs1,hes]) (by rw[a2];exact hc1) hc2 (fun y hy=>(a1 y hy).trans hes.symm) (by rw[hes];exact a3)
   rw[a2,he]at b1
   rw[he]at b2 b3
   have hb:Below (w.drew.alloc (.cells new (ρ.t 9))).heap.size (w.drew.alloc (.cells new (ρ.t 9))) ((w.drewN q).alloc (.cells new (ρ.t 9))):=⟨rfl,rfl,rfl,Nat.le_refl _,fun _ _=>rfl⟩
   refine⟨.ret (.osl id (n+m)),A',_,⟨rfl,?_⟩,b1.mono (Ext.below b2 hb),b2.below hb,b3.trans (Ext.below b2 hb)⟩
   rw[←he]
end
end Go.Sha
namespace Go.Sha
open Go.Shelf Go.RowKit Go.Lib Go.Sort Go.Proofs
section
variable {P:Program}{w:World}{A:Abs}{st:St}
theorem Sim.transfer0 (hs:Sim w A st){id:Nat}{r:Arr}(hid:look st.arr id=some r)(hfz:r.fz=false)(hg:A.sv id=.slice none 0 0) :
  ∃A',Ext w A w A'∧Sim w A' ⟨st.nx+1,st.mem,(st.nx,{ r with xs:=[] })::delA st.arr id,st.x⟩∧Rep w A' (.slice none 0 0) (.osl st.nx 0):=by
 have hx:=Ext.newNil' w A
 have hnx:=hs.nx
 refine⟨A.newNil,hx,⟨by simp[Abs.newNil,hs.nx],fun i cs' h=>?_,fun i ar h=>?_,hs.Clt,fun b i h=>?_,fun i cs' ar h1 h2=>?_,
  hs.x.same hx rfl hs.ownlt (fun _ _=>rfl) (fun _ _ h _=>h) (fun _ _ _ h=>h) (fun _ _ h=>h) (fun i hlt h=>by simp only[look];rw[if_neg (by omega),look_delA];split;rfl;exact h)⟩,.osl _ _ _ (by simp[Abs.newNil,hs.nx]) (by simp[Abs.newNil,hs.nx]) (fun _=>by simp[Abs.newNil,hs.nx])⟩
 ·have hk:=hs.mem i cs' h
  exact hk.of_heap hx hk.own rfl hk.noC
 ·simp only[look]at h
  split at h
  ·rename_i e1;cases h;subst e1
   exact⟨by simp[Abs.newNil,hs.nx],by simp[Abs.newNil,hs.nx],by simp,.inl ⟨by simp[Abs.newNil,hs.nx],rfl,hfz⟩⟩
  ·rw[look_delA]at h
   split at h
   ·cases h
   ·have hk:=hs.arr i ar h
    exact hk.of_heap hx (by have:=hk.lt;simp only[Abs.newNil];rw[if_neg (by omega)]) (fun g hg=>⟨hg,rfl,fun _=>Iff.rfl⟩)
 ·have:=hs.ownlt b i h;simp only[Abs.newNil];omega
 ·simp only[look]at h2
  split at h2
  ·rename_i e1;subst e1
   have:=(hs.mem _ cs' h1).lt;omega
  ·rw[look_delA]at h2
   split at h2
   ·cases h2
   ·exact hs.disj i cs' ar h1 h2
inductive HeadV (id n i es:Nat):V→Prop
 |win:HeadV id n i es (.win id n 0 i es)
 |all:i=n→HeadV id n i es (.osl id n)
theorem Sim.head (hs:Sim w A st){id n i es:Nat}{r:Arr}(hid:look st.arr id=some r)(hn:r.xs.length=n)(hw:r.wr=true)(hfz:r.fz=false)(hes:r.es=es)(hi:i≤n){v:Value}{d:V}(hd:HeadV id n i es d)(hv:Rep w A v d) :
  ∃A',Ext w A w A'∧Sim w A' ⟨st.nx+1,st.mem,(st.nx,{ r with xs:=r.xs.take i })::delA st.arr id,st.x⟩∧Rep w A' v (.osl st.nx i):=by
 have hk:=hs.arr id r hid
 have hln:=hk.ln.trans hn
 rcases hk.row with⟨q1,q2,_⟩|⟨g,cap,cur,q1,q2,q3,q4,q5,q6,q7,q8,q9⟩
 ·have hn0:n=0:=by rw[←hn,q2];rfl
  have hi0:i=0:=by omega
  subst hn0;subst hi0
  have hv0:v=.slice none 0 0:=by
   cases hd with
   |win=>cases hv with|win _ _ _ _ _ _ _ _ h3=>exact(h3 hln.symm).2 q1
   |all=>rw[hv.oslE hln,q1]
  subst hv0
  obtain⟨A',a1,a2,a3⟩:=hs.transfer0 hid hfz q1
  exact⟨A',a1,by rw[q2];exact a2,a3⟩
 ·rw[hn]at q3
  have hv1:v=.slice (some ⟨g,0,none⟩) i cap:=by
   cases hd with
   |win =>
    cases hv with
    |win _ _ _ _ _ _ _ _ h3 =>
     have:=(h3 hln.symm).1 g cap (by rw[q1,hn])
     rw[this];simp
   |all h=>rw[hv.oslE hln,q1,hn,h]
  subst hv1
  have hrow:=q2
  unfold rowAt at hrow
  rw[hfz]at hrow
  have e:w.setRow g cur=w:=setRow_self w g cur _ _ hrow
  have hlen:(r.xs.take i).length=i:=by simp;omega
  obtain⟨A',a1,a2,a3⟩:=Sim.transfer hs hid hw hfz q1 q6 hrow (new:=cur) q5 q4 (ys:=r.xs.take i) (by omega) (fun y hy=>hk.es y (List.mem_of_mem_take hy)) (fun a j y c ha hc=>by
   have:a<i:=by have:=(List.getElem?_eq_some_iff.1 ha).1;omega
   rw[List.getElem?_take_of_lt this]at ha
   exact q9 a j y c ha hc)
  rw[e]at a1 a2 a3
  rw[hlen]at a3
  exact⟨A',a1,a2,a3⟩
theorem VCalls_head {f:FuncId}{args:List V}{R:VRes→St→Prop}(h:VCalls P f args st fun x s=>∃id n i es r d,x=.ret d∧HeadV id n i es d∧look s.arr id=some r∧r.xs.length=n∧r.wr=true∧r.fz=false∧r.es=es∧i≤n ∧
  R (.ret (.osl s.nx i)) ⟨s.nx+1,s.mem,(s.nx,{ r with xs:=r.xs.take i })::delA s.arr id,s.x⟩):VCalls P f args st R:=by
 rcases h with⟨hc,h⟩|h
 ·refine .inl ⟨hc,fun w A vs hs ha=>(h w A vs hs ha).mono ?_⟩
  rintro e w' ⟨x,A',s,⟨id,n,i,es,r,d,rfl,h1,h2,h3,h4,h5,h6,h7,h8⟩,hE,hsim,hx⟩
  cases e with
  |returned v =>
   obtain⟨A2,a1,a2,a3⟩:=hsim.head h2 h3 h4 h5 h6 h7 h1 hE
   exact⟨_,A2,_,h8,a3,a2,hx.trans a1⟩
  |panicked ch=>exact hE.elim
  |outgrown=>exact hE.elim
 ·refine .inr fun w A vs hs ha=>?_
  obtain⟨v,w',hr,x,A',s,⟨id,n,i,es,r,d,rfl,h1,h2,h3,h4,h5,h6,h7,h8⟩,hE,hsim,hx⟩:=h w A vs hs ha
  obtain⟨A2,a1,a2,a3⟩:=hsim.head h2 h3 h4 h5 h6 h7 h1 hE
  exact⟨v,w',hr,_,A2,_,h8,a3,a2,hx.trans a1⟩
end
end Go.Sha
namespace Go.Sha
open Go.Shelf Go.RowKit Go.Lib Go.Sort Go.Proofs
section
variable {P:Program}
structure BasT (P:Program):Prop where
 mixed:P.follows .mixedOrders=true
 t0:P.underlying 0=some (TypeDesc.tuple #[])
 a0:∀w,(isAgg 0).run P w=.ok false w
 z0:∀w,(Go.sizeOf 0).run P w=.ok 1 w
 v0:∀w,(zeroValue 0).run P w=.ok (Value.tuple #[]) w
 t3:P.underlying 3=some (TypeDesc.int IntKind.i64)
 a3:∀w,(isAgg 3).run P w=.ok false w
 z3:∀w,(Go.sizeOf 3).run P w=.ok 1 w
 v3:∀w,(zeroValue 3).run P w=.ok (Value.int IntKind.i64 0) w
 t4:P.underlying 4=some (TypeDesc.bool)
 a4:∀w,(isAgg 4).run P w=.ok false w
 z4:∀w,(Go.sizeOf 4).run P w=.ok 1 w
 v4:∀w,(zeroValue 4).run P w=.ok (Value.bool false) w
 t9:P.underlying 9=some (TypeDesc.string)
 a9:∀w,(isAgg 9).run P w=.ok false w
 z9:∀w,(Go.sizeOf 9).run P w=.ok 1 w
 v9:∀w,(zeroValue 9).run P w=.ok (Value.string { data:=#[] }) w
 t20:P.underlying 20=some (TypeDesc.interface #[])
 a20:∀w,(isAgg 20).run P w=.ok false w
 z20:∀w,(Go.sizeOf 20).run P w=.ok 1 w
 v20:∀w,(zeroValue 20).run P w=.ok (Value.nilIface) w
def SlB (P:Program)(s e k b:Nat)(ρ:Ren):Prop:=∃i z,i.bytes=b∧SlT P s e k i z ρ
theorem slT (B:BasT P){ρ:Ren}{s e k b:Nat}{z:Value}(h0:ρ.t 0=0)(h3:ρ.t 3=3)(h4:ρ.t 4=4)(ts:P.underlying (ρ.t s)=some (TypeDesc.slice (ρ.t e)))(aS:∀w,(isAgg (ρ.t s)).run P w=.ok false w)(zs:∀w,(Go.sizeOf (ρ.t s)).run P w=.ok 1 w)
  (vs:∀w,(zeroValue (ρ.t s)).run P w=.ok (Value.slice none 0 0) w) (ae:∀w,(isAgg (ρ.t e)).run P w=.ok true w) (ze:∀w,(Go.sizeOf (ρ.t e)).run P w=.ok k w) (ve:∀w,(zeroValue (ρ.t e)).run P w=.ok z w)
  (hi:(P.info? (ρ.t e)).map (fun i=>(i.zero,i.size,i.bytes))=some (some z,k,b)) (zc:z.cells.size=k) (z1:z.cells.toList.all (·.oneCell')=true):SlB P s e k b ρ:=by
 obtain⟨i,q1,q2,q3,q4⟩:=info_parts hi
 exact⟨i,z,q4,B.mixed,(by rw[h0];exact B.t0),(by rw[h0];exact B.a0),(by rw[h0];exact B.z0),(by rw[h0];exact B.v0),(by rw[h3];exact B.t3),(by rw[h3];exact B.a3),(by rw[h3];exact B.z3),(by rw[h3];exact B.v3),(by rw[h4];exact B.t4),(by rw[h4];exact B.a4),(by rw[h4];exact B.z4),(by rw[h4];exact B.v4),ts,aS,zs,vs,ae,ze,ve,q1,q2,q3,zc,fun v hv=>List.all_eq_true.1 z1 v hv⟩
def hCln (e es b:Nat):List V→St→Rt
 |[.sl xs],st=>if xs.all fastA=true∧xs.all (fun y=>y.cells.length == es)=true∧roomV xs.length b=true then some (.ret (.osl st.nx xs.length),⟨st.nx+1,st.mem,(st.nx,⟨e,es,xs,true,false⟩)::st.arr,st.x⟩) else none
 |_,_=>none
theorem VCalls_nil {f:FuncId}{args:List V}{R:VRes→St→Prop}{st:St}{e es:Nat}{wr:Bool}(h:VCalls P f args st fun x s=>(x=.ret .nils∧R (.ret (.osl s.nx 0)) ⟨s.nx+1,s.mem,(s.nx,⟨e,es,[],wr,false⟩)::s.arr,s.x⟩)∨R x s):VCalls P f args st R:=by
 have key:∀{w:World}{A:Abs}{s:St}{v:Value},Sim w A s→Rep w A v .nils→∃A',Sim w A' ⟨s.nx+1,s.mem,(s.nx,⟨e,es,[],wr,false⟩)::s.arr,s.x⟩∧Ext w A w A'∧Rep w A' v (.osl s.nx 0):=fun {w A s v} hs hv=>by
  cases hv
  exact⟨_,hs.newNil e es wr,Ext.newNil' w A,.osl _ _ _ (by simp[Abs.newNil,hs.nx]) (by simp[Abs.newNil,hs.nx]) (fun _=>by simp[Abs.newNil,hs.nx])⟩
 rcases h with⟨hc,h⟩|h
 ·refine .inl ⟨hc,fun w A vs hs ha=>(h w A vs hs ha).mono ?_⟩
  rintro x w' ⟨y,A',s,(⟨rfl,h1⟩|h1),hE,hsim,hx⟩
  ·cases x with
   |returned v =>
    obtain⟨A2,a1,a2,a3⟩:=key hsim hE
    exact⟨_,A2,_,h1,a3,a1,hx.trans a2⟩
   |panicked ch=>exact hE.elim
   |outgrown=>exact hE.elim
  ·exact⟨y,A',s,h1,hE,hsim,hx⟩
 ·refine .inr fun w A vs hs ha=>?_
  obtain⟨v,w',hr,y,A',s,(⟨rfl,h1⟩|h1),hE,hsim,hx⟩:=h w A vs hs ha
  ·obtain⟨A2,a1,a2,a3⟩:=key hsim hE
   exact⟨v,w',hr,_,A2,_,h1,a3,a1,hx.trans a2⟩
  ·exact⟨v,w',hr,y,A',s,h1,hE,hsim,hx⟩
theorem cln_ok {f:FuncId}{e es b:Nat}(hF:compF P f=some ⟨8,[.tmp 2],cloneC e es b⟩){args:List V}{st:St}{r:VRes}{s:St}(h:hCln e es b args st=some (r,s)):VCalls P f args st (fun r' s'=>r'=r∧s'=s):=by
 have hz:∀{env:Env}{s:St}{v:V},look env 2=some v→rawE [.tmp 2] (some (.ret,env,s))=some (.ret v,s):=fun h=>by
  simp[rawE,rawO,resV,h,resOne]
 unfold hCln at h
 split at h
 ·rename_i xs
  split at h
  ·rename_i hc
   cases h
   refine VCalls_nil (e:=e) (es:=es) (wr:=true) (VCalls_WD hF (Nat.le_of_ble_eq_true rfl) fun N=>clone_W (fast_all hc.1) hc.2.1 hc.2.2 (fun h0 env he=>⟨_,_,hz he,.inl ⟨rfl,?_⟩⟩) fun env he=>⟨_,_,hz he,.inr ⟨rfl,rfl⟩⟩)
   subst h0;exact⟨rfl,rfl⟩
  ·cases h
 ·cases h
def insH (e es b id n:Nat)(i:Int)(id' m:Nat)(st:St):Option Arr→Option Arr→Rt
 |some r,some r'=>if r.xs.length=n∧r.wr=true∧r.fz=false∧r.e=e∧r.es=es∧r'.xs.length=m∧r'.fz=false∧r'.es=es∧id'≠id∧0<m∧0≤i∧i.toNat≤n∧roomV (n+m) b=true then
   (mapO (snapA st) r'.xs).map fun ys=>(.ret (.osl id (n+m)),{ st with arr:=updA st.arr id { r with xs:=r.xs.take i.toNat++ys++r.xs.drop i.toNat } }) else none
 |_,_=>none
def hIns (e es b:Nat):List V→St→Rt
 |[.osl id n,.int .i64 i,.osl id' m],st=>insH e es b id n i id' m st (look st.arr id) (look st.arr id')
 |_,_=>none
theorem ins_ok {f:FuncId}{e es b:Nat}{ρ:Ren}(L:SlB P 24 9 es b ρ)(FG:Bears P f (Body2.n22 ρ))(FO:OvL P (ρ.f 29) (ρ.t 24) (ρ.t 4))(he:ρ.t 9=e)(hk0:0<es){args:List V}{st:St}{r:VRes}{s:St}(h:hIns e es b args st=some (r,s)):VCalls P f args st (fun r' s'=>r'=r∧s'=s):=by
 obtain⟨i0,z,rfl,L⟩:=L
 unfold hIns at h
 split at h
 ·rename_i id n i id' m
  cases h1:look st.arr id with
  |none=>rw[h1]at h;cases h
  |some a =>
   cases h2:look st.arr id' with
   |none=>rw[h1,h2]at h;cases h
   |some a' =>
    rw[h1,h2]at h
    simp only[insH]at h
    split at h
    ·rename_i hc
     obtain⟨c1,c2,c3,c4,c5,c6,c7,c8,c9,c10,c11,c12,c13⟩:=hc
     obtain⟨ys,hy,e1⟩:=Option.map_eq_some_iff.1 h
     cases e1
     obtain⟨k,rfl⟩:∃k:Nat,i=k:=⟨i.toNat,by omega⟩
     rw[Int.toNat_natCast]at c12 ⊢
     exact insert_ok L FG FO hk0 h1 c1 c2 c3 (c4.trans he.symm) c5 h2 c6 c7 c8 c9 c10 c12 hy c13
    ·cases h
 ·cases h
def delH (e es id n:Nat)(i j:Int)(st:St):Option Arr→Rt
 |some r=>if r.xs.length=n∧r.wr=true∧r.fz=false∧r.e=e∧r.es=es∧0≤i∧i<j∧j.toNat≤n then
   some (.ret (.osl st.nx (n-(j.toNat-i.toNat))),⟨st.nx+1,st.mem,(st.nx,{ r with xs:=r.xs.take i.toNat++r.xs.drop j.toNat })::delA st.arr id,st.x⟩) else none
 |none=>none
def hDel (e es:Nat):List V→St→Rt
 |[.osl id n,.int .i64 i,.int .i64 j],st=>delH e es id n i j st (look st.arr id)
 |_,_=>none
theorem del_ok {f:FuncId}{e es b:Nat}{ρ:Ren}(L:SlB P 22 23 es b ρ)(FG:Bears P f (SlBodyN.n45 ρ))(he:ρ.t 23=e)(hk0:0<es){args:List V}{st:St}{r:VRes}{s:St}(h:hDel e es args st=some (r,s)):VCalls P f args st (fun r' s'=>r'=r∧s'=s):=by
 obtain⟨i0,z,rfl,L⟩:=L
 unfold hDel at h
 split at h
 ·rename_i id n i j
  cases h1:look st.arr id with
  |none=>rw[h1]at h;cases h
  |some a =>
   rw[h1]at h
   simp only[delH]at h
   split at h
   ·rename_i hc
    obtain⟨c1,c2,c3,c4,c5,c6,c7,c8⟩:=hc
    cases h
    obtain⟨k,rfl⟩:∃k:Nat,i=k:=⟨i.toNat,by omega⟩
    obtain⟨l,rfl⟩:∃l:Nat,j=l:=⟨j.toNat,by omega⟩
    rw[Int.toNat_natCast]at c8 ⊢
    rw[Int.toNat_natCast]
    exact delete_ok L FG hk0 h1 c1 c2 c3 (c4.trans he.symm) c5 (by omega) c8
   ·cases h
 ·cases h
def hGrw (e es b:Nat):List V→St→Rt
 |[.nils,.int .i64 n],st=>if 0≤n∧n.toNat≤4611686018427387904∧roomV n.toNat b=true then some (.ret (.osl st.nx 0),⟨st.nx+1,st.mem,(st.nx,⟨e,es,[],true,false⟩)::st.arr,st.x⟩) else none
 |_,_=>none
theorem grw_ok (B:BasT P){f:FuncId}{e es b:Nat}{ρ:Ren}(hf:ρ.f 4=f)(h0:ρ.t 0=0)(h3:ρ.t 3=3)(h4:ρ.t 4=4)(h9:ρ.t 9=9)(h20:ρ.t 20=20)(FG:Bears P f (Body8.n4 ρ))(he:ρ.t 25=e)(hk0:0<es){z:Value}
  (ts:P.underlying (ρ.t 22)=some (TypeDesc.slice (ρ.t 25))) (aS:∀w,(isAgg (ρ.t 22)).run P w=.ok false w) (zs:∀w,(Go.sizeOf (ρ.t 22)).run P w=.ok 1 w) (vs:∀w,(zeroValue (ρ.t 22)).run P w=.ok (Value.slice none 0 0) w)
  (hi:(P.info? (ρ.t 25)).map (fun i=>(i.zero,i.size,i.bytes))=some (some z,es,b)) (zc:z.cells.size=es) {args:List V}{st:St}{r:VRes}{s:St} (h:hGrw e es b args st=some (r,s)):VCalls P f args st (fun r' s'=>r'=r∧s'=s):=by
 subst hf;subst he
 obtain⟨i0,q1,q2,q3,q4⟩:=info_parts hi
 have L:Lays8.n4 P ρ:=⟨B.mixed,FG,(by rw[h0];exact B.t0),(by rw[h0];exact B.a0),(by rw[h0];exact B.z0),(by rw[h0];exact B.v0),(by rw[h3];exact B.t3),(by rw[h3];exact B.a3),(by rw[h3];exact B.z3),(by rw[h3];exact B.v3),(by rw[h4];exact B.t4),(by rw[h4];exact B.a4),(by rw[h4];exact B.z4),(by rw[h4];exact B.v4),(by rw[h9];exact B.t9),(by rw[h9];exact B.a9),(by rw[h9];exact B.z9),(by rw[h9];exact B.v9),(by rw[h20];exact B.t20),(by rw[h20];exact B.a20),(by rw[h20];exact B.z20),(by rw[h20];exact B.v20),ts,aS,zs,vs⟩
 unfold hGrw at h
 split at h
 ·rename_i n
  split at h
  ·rename_i hc
   cases h
   obtain⟨k,rfl⟩:∃k:Nat,n=k:=⟨n.toNat,by omega⟩
   rw[Int.toNat_natCast]at hc
   obtain⟨_,c1,c2⟩:=hc
   simp only[roomV,Bool.and_eq_true,decide_eq_true_eq]at c2
   refine .inl ⟨bears_callable FG rfl,fun w A vs hs ha=>?_⟩
   obtain⟨hl,ha⟩:=ha
   match vs,hl with
   |[v0,v1],_ =>
   have e0:v0=.slice none 0 0:=by cases ha 0 v0 _ rfl rfl;rfl
   have e1:=(ha 1 v1 _ rfl rfl).intE
   rw[e0,e1]
   rcases Nat.eq_zero_or_pos k with h|h
   ·subst h
    refine(Any8.slices_Grow_room L none 0 0 0 w (by omega) (by omega) (by omega) (by omega)).mono ?_
    rintro e w' ⟨rfl,rfl⟩
    exact⟨_,_,_,⟨rfl,rfl⟩,.osl _ _ _ (by simp[Abs.newNil,hs.nx]) (by simp[Abs.newNil,hs.nx]) (fun _=>by simp[Abs.newNil,hs.nx]),hs.newNil _ es true,Ext.newNil' _ A⟩
   ·refine(Any8.slices_Grow_grow L i0 z q1 q2 (by rw[q3];exact hk0) none 0 0 k [] w (by omega) (by omega) (by rw[q4];simpa using c2.2) (by omega) (by simp) (fun _=>rfl) (fun a ha=>by cases ha)).mono ?_
    rintro e w' ⟨rfl,rfl⟩
    have hG:=grownCap_ge w (0+k) 0 (ρ.t 25)
    have hG2:=grownCap_le_maxLen w (0+k) 0 (ρ.t 25) (by simpa using c2.1)
    generalize grownCap w (0+k) 0 (ρ.t 25)=G at hG hG2 ⊢
    have hq:(([]:List Value).toArray++Builtin.zeroCells z.cells (0+k-0)++Builtin.zeroCells z.cells (G-(0+k))).size=G*es:=by
     simp only[Array.size_append,List.size_toArray,List.length_nil,size_zc zc]
     rw[Nat.zero_add,←Nat.add_mul,show 0+k-0+(G-(0+k))=G by omega]
    have hsim:=Sim.newArr (w0:=w.drew) hs ⟨rfl,rfl,rfl,rfl⟩ (cur:=([]:List Value).toArray++Builtin.zeroCells z.cells (0+k-0)++Builtin.zeroCells z.cells (G-(0+k))) (xs:=[]) (e:=ρ.t 25) (es:=es) (cap:=G) (wr:=true) (fz:=false) (by simp) (Nat.zero_le _) hG2 hq (fun i j x c hx=>by simp at hx)
    have hx:=Ext.newArr (w0:=w.drew) hs ⟨rfl,rfl,rfl,rfl⟩ (.cells (([]:List Value).toArray++Builtin.zeroCells z.cells (0+k-0)++Builtin.zeroCells z.cells (G-(0+k))) (ρ.t 25)) 0 (.slice (some ⟨w.heap.size,0,none⟩) 0 G) false 0
    refine⟨.ret (.osl st.nx 0),_,_,⟨rfl,rfl⟩,?_,(by simpa using hsim),(by simpa using hx)⟩
    rw[hs.nx]
    exact .osl _ _ _ (by simp[Abs.newArr]) (by simp[Abs.newArr]) (fun _=>by simp[Abs.newArr])
  ·cases h
 ·cases h
end
end Go.Sha
