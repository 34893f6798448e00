/- Stores. -/
import Derived.Test.YtmjkgajnpmiomaaGreatDoorLShbI
set_option linter.unusedSimpArgs false
set_option linter.unusedVariables false
namespace Go.Sha
theorem setRow_typed {w:World}{g b:Nat}{cs vs:Array Value}{T:TypeId}{fz:Nat×Nat}(h:w.heap[b]?=some (.cells vs T fz)):∃vs' fz',(w.setRow g cs).heap[b]?=some (.cells vs' T fz'):=by
 by_cases e:b=g
 ·subst e;exact⟨_,_,setRow_heap w b vs cs T fz h⟩
 ·exact⟨vs,fz,by rw[setRow_other w g b cs e];exact h⟩
section
variable {P:Program}{w:World}{A:Abs}{st:St}{a:Act}{env:Env}
theorem ArrOk.of_heap {w':World}{A':Abs}{id:Nat}{ar:Arr}(h:ArrOk w A id ar)(hx:Ext w A w' A')(hln:A'.ln id=A.ln id)
  (hblk:∀g,A.own g=some id→A'.own g=some id∧w'.heap[g]?=w.heap[g]?∧∀o,A'.C g o↔A.C g o):ArrOk w' A' id ar:=by
 have hsv:=hx.sv id h.lt hln
 refine⟨Nat.lt_of_lt_of_le h.lt hx.nx,hln.trans h.ln,h.es,?_⟩
 rcases h.row with r|⟨g,cap,cur,r1,r2,r3,r4,r5,r6,r7,r8,r10⟩
 ·exact .inl (by rw[hsv];exact r)
 ·obtain⟨b1,b2,b3⟩:=hblk g r6
  refine .inr ⟨g,cap,cur,by rw[hsv];exact r1,?_,r3,r4,r5,b1,fun o ho=>by rw[b3];exact r7 o ho,fun o ho=>by rw[b3];exact r8 o ho,fun i j x c hi hj=>?_⟩
  ·unfold rowAt at r2 ⊢;rw[b2];exact r2
  ·obtain⟨v,q1,q2,q3⟩:=r10 i j x c hi hj
   exact⟨v,q1,q2,q3.mono hx⟩
theorem run_storeCells_row (g o:Nat)(t:TypeId)(fr:Nat×Nat):∀(vs:List Value) (i:Nat) (cur:Array Value) (w:World),w.heap[g]?=some (.cells cur t fr)→(fr=(0,0)∨cur.size≤fr.1)→o+i+vs.length≤cur.size→(∀v∈vs,v.oneCell'=true) →
  (storeCells ⟨g,o,none⟩ vs i).run P w=.ok () (w.setRow g (cur.toList.take (o+i)++vs++cur.toList.drop (o+i+vs.length)).toArray)
 |[],i,cur,w,hg,_,_,_=>by
  simp only[storeCells,List.append_nil,List.length_nil,Nat.add_zero,List.take_append_drop,Array.toArray_toList]
  rw[setRow_self w g cur t fr hg]
  rfl
 |v::rest,i,cur,w,hg,hf,hl,h1=>by
  have hi:o+i<cur.size:=by simp at hl;omega
  have hadd:(⟨g,o,none⟩:Addr).add i=⟨g,o+i,none⟩:=addr_add g o i
  have hcell:w.cell? ⟨g,o+i,none⟩=some cur[o+i]:=by simp[World.cell?,hg,hi]
  have hfro:w.frozen? ⟨g,o+i,none⟩=false:=by
   simp only[World.frozen?,hg]
   rcases hf with hf|hf
   ·simp[hf]
   ·simp;omega
  have hst:(store ((⟨g,o,none⟩:Addr).add i) v).run P w=.ok () (w.setRow g (cur.setIfInBounds (o+i) v)):=by
   rw[hadd,run_store P w _ v _ (h1 v (by simp)),hcell]
   simp[hfro,setCell_eq_setRow w g (o+i) cur t fr v hg]
  have ih:=run_storeCells_row g o t fr rest (i+1) (cur.setIfInBounds (o+i) v) (w.setRow g (cur.setIfInBounds (o+i) v)) (setRow_heap w g cur _ t _ hg) (by simpa using hf) (by simp at hl ⊢;omega) (fun x hx=>h1 x (by simp[hx]))
  simp only[storeCells,Sem.run_bind,hst,Result.andThen_ok,ih,setRow_setRow]
  congr 3
  have e:=list_seg_step cur.toList (o+i) v rest (by simp at hl ⊢;omega)
  simpa [Array.toList_setIfInBounds,Nat.add_assoc] using e
theorem Ext.setRow {g:Nat}{cur new:Array Value}{T:TypeId}{fr:Nat×Nat}(hg:w.heap[g]?=some (.cells cur T fr)){id:Nat}(ho:A.own g=some id)(hC:∀o,A.C g o→new[o]?=cur[o]?):Ext w A (w.setRow g new) A where
 nx:=Nat.le_refl _
 loc _ _:=rfl
 ln _ _:=Nat.le_refl _
 sv _ _ _:=rfl
 C b o h:=by
  refine⟨h,?_⟩
  by_cases hb:b=g
  ·subst hb
   rw[cell_setRow_same w b o cur new T fr hg,cell_of_row w b o cur T fr hg,hC o h]
  ·exact cell_setRow_other w g new ⟨b,o,none⟩ hb
 own _ _ h:=h
 size:=by simp
 os:=rfl
 tape:=rfl
 output:=rfl
 fr b _ h:=setRow_other w g b new (fun e=>by rw[e,ho]at h;cases h)
 cold _ _ _ _ h:=h
 mc b ms c _ h:=by rw[setRow_other w g b new (fun e=>by rw[e,hg]at h;cases h)];exact h
theorem look_some_mem {id:Nat}{cs:List V}{l:List (Nat×List V)}{new:List V}(h:look l id=some cs)(i:Nat)(cs':List V)(hl:look (updM l id new) i=some cs'):(i=id∧cs'=new)∨(i≠id∧look l i=some cs'):=by
 rw[look_updM]at hl
 by_cases e:i=id
 ·subst e;simp[h]at hl;exact .inl ⟨rfl,hl.symm⟩
 ·rw[if_neg e]at hl;exact .inr ⟨e,hl⟩
theorem Sim.storeMem (hs:Sim w A st){id:Nat}{cs:List V}(hid:look st.mem id=some cs){us:List Value}{ds:List V}(hl:us.length=ds.length)(h1:∀v∈us,v.oneCell'=true)
  (hr:∀(i:Nat) (v:Value) (c:V),us[i]?=some v→ds[i]?=some c→Rep w A v c) {off:Nat} (hoff:off+ds.length≤cs.length) :
  ∃w',(storeCells ⟨A.loc id,off,none⟩ us).run P w=.ok () w'∧Ext w A w' A∧Sim w' A { st with mem:=updM st.mem id (cs.take off++ds++cs.drop (off+ds.length)) }:=by
 have hk:=hs.mem id cs hid
 obtain⟨vs,T,k1,k2,k3,k4⟩:=hk.row
 have hrun:=run_storeCells_row (P:=P) (A.loc id) off T (0,0) us 0 vs w k1 (.inl rfl) (by omega) h1
 simp only[Nat.add_zero]at hrun
 have hx:Ext w A (w.setRow (A.loc id) (vs.toList.take off++us++vs.toList.drop (off+us.length)).toArray) A:=Ext.setRow k1 hk.own (fun o ho=>absurd ho (hk.noC o))
 refine⟨_,hrun,hx,hs.nx,fun i cs' hi=>?_,fun i ar hi=>?_,fun b o h=>?_,fun b i h=>?_,fun i cs' ar h1 h2=>?_,
  hs.x.of hx rfl (fun i o ho=>⟨fun g hg=>⟨hg,setRow_other w _ _ _ (fun e=>by
   subst e;rw[hk.own]at hg;cases hg
   have:=(hs.x.obj _ o ho).2.1
   rw[hid]at this;cases this)⟩,(hs.x.obj i o ho).1.noC⟩) (fun i o ho=>by
   obtain⟨_,m1,m2⟩:=hs.x.obj i o ho
   refine⟨?_,m2⟩
   cases h:look (updM st.mem id (cs.take off++ds++cs.drop (off+ds.length))) i with
   |none=>rfl
   |some c =>
    rcases look_some_mem hid i c h with⟨rfl,_⟩|⟨_,h⟩
    ·rw[hid]at m1;cases m1
    ·rw[h]at m1;cases m1) (fun b i h=>(hs.ownlt b i h).1) (fun i T _ hn=>⟨hn,fun _ _=>setRow_typed⟩)⟩
 ·rcases look_some_mem hid i cs' hi with⟨rfl,rfl⟩|⟨hne,hi⟩
  ·refine⟨hk.lt,⟨_,T,setRow_heap w _ vs _ T _ k1,?_,?_,?_⟩,hk.own,hk.noC⟩
   ·simp;omega
   ·intro v hv
    simp only[List.toList_toArray,List.mem_append]at hv
    rcases hv with(hv|hv)|hv
    ·exact k3 v (List.mem_of_mem_take hv)
    ·exact h1 v hv
    ·exact k3 v (List.mem_of_mem_drop hv)
   ·intro j v c hv hc
    rw[List.getElem?_toArray]at hv
    refine Rep.mono hx ?_
    have k4':∀(i:Nat) (v:Value) (c:V),vs.toList[i]?=some v→cs[i]?=some c→Rep w A v c:=fun i v c hv hc=>k4 i v c (by simpa using hv) hc
    rcases Nat.lt_or_ge j off with hj|hj
    ·rw[List.append_assoc,List.getElem?_append_left (by simp;omega),List.getElem?_take_of_lt hj]at hv hc
     exact k4' j v c hv hc
    ·rcases Nat.lt_or_ge j (off+ds.length) with hj2|hj2
     ·rw[List.getElem?_append_left (by simp;omega),List.getElem?_append_right (by simp;omega)]at hv hc
      rw[show j-(vs.toList.take off).length=j-off by simp;omega]at hv
      rw[show j-(cs.take off).length=j-off by simp;omega]at hc
      exact hr _ v c hv hc
     ·rw[List.getElem?_append_right (by simp;omega),List.getElem?_drop]at hv hc
      rw[show off+us.length+(j-(vs.toList.take off++us).length)=j by simp;omega]at hv
      rw[show off+ds.length+(j-(cs.take off++ds).length)=j by simp;omega]at hc
      exact k4' j v c hv hc
  ·have hk':=hs.mem i cs' hi
   exact hk'.of_heap hx hk'.own (setRow_other w _ _ _ (fun e=>hne (by have:=hk'.own;rw[e,hk.own]at this;cases this;rfl))) hk'.noC
 ·exact(hs.arr i ar hi).of_heap hx rfl (fun g hg=>⟨hg,setRow_other w _ _ _ (fun e=>by
   subst e;rw[hk.own]at hg;cases hg
   exact hs.disj _ _ _ hid hi),fun _=>Iff.rfl⟩)
 ·have:=hs.Clt b o h;simpa using this
 ·have:=hs.ownlt b i h;simpa using this
 ·rcases look_some_mem hid i cs' h1 with⟨rfl,rfl⟩|⟨hne,h1⟩
  ·exact hs.disj _ _ _ hid h2
  ·exact hs.disj _ _ _ h1 h2
def Abs.addC (A:Abs)(b m:Nat):Abs:={ A with C:=fun k o=>A.C k o∨(k=b∧o<m) }
theorem Ext.addC {w0:World}(hs:Sim w A st)(h0:w0.heap=w.heap∧w0.os=w.os∧w0.tape=w.tape∧w0.output=w.output)(o:Obj)(m:Nat):Ext w A (w0.alloc o) (A.addC w.heap.size m) where
 nx:=Nat.le_refl _
 loc _ _:=rfl
 ln _ _:=Nat.le_refl _
 sv _ _ _:=rfl
 C b o' h:=⟨.inl h,by
  rw[World.cell?_alloc_lt _ _ _ (by rw[h0.1];exact hs.Clt b o' h)]
  simp[World.cell?,h0.1]⟩
 own _ _ ho:=ho
 size:=by simp[h0.1]
 os:=h0.2.1
 tape:=h0.2.2.1
 output:=h0.2.2.2
 fr b h _:=by rw[heap_alloc_old w0 o (by rw[h0.1];exact h),h0.1]
 cold b o hb _ hc:=hc.elim (fun h=>h) fun h=>by have:=h.1;omega
 mc b ms c _ h:=by rw[heap_alloc_old w0 o (by rw[h0.1];exact(Array.getElem?_eq_some_iff.1 h).1),h0.1];exact h
theorem Sim.addC {w0:World}(hs:Sim w A st)(h0:w0.heap=w.heap∧w0.os=w.os∧w0.tape=w.tape∧w0.output=w.output)(o:Obj)(m:Nat):Sim (w0.alloc o) (A.addC w.heap.size m) st:=by
 have hx:Ext w A (w0.alloc o) (A.addC w.heap.size m):=Ext.addC hs h0 _ _
 have oldheap:∀b,b<w.heap.size→(w0.alloc o).heap[b]?=w.heap[b]?:=fun b h=>by
  rw[heap_alloc_old w0 _ (by rw[h0.1];exact h),h0.1]
 have oldC:∀b k,b<w.heap.size→((A.addC w.heap.size m).C b k↔A.C b k):=fun b k h =>
  ⟨fun h'=>by rcases h' with h'|⟨h',_⟩;exact h';omega,.inl⟩
 refine⟨hs.nx,fun id cs' h=>?_,fun id ar h=>?_,fun b k h=>?_,fun b id h=>?_,hs.disj,
  hs.x.same hx rfl hs.ownlt oldheap (fun _ _ h _=>h) (fun b k hb h=>(oldC b k hb).1 h) (fun _ _ h=>h) (fun _ _ h=>h)⟩
 ·have hk:=hs.mem id cs' h
  have hb:=(hs.ownlt _ _ hk.own).1
  exact hk.of_heap hx hk.own (oldheap _ hb) (fun o h=>hk.noC o ((oldC _ _ hb).1 h))
 ·have hk:=hs.arr id ar h
  exact hk.of_heap hx rfl (fun g hg=>by
   have hb:=(hs.ownlt _ _ hg).1
   exact⟨hg,oldheap _ hb,fun o=>oldC _ _ hb⟩)
 ·rcases h with h|⟨h,_⟩
  ·have:=hs.Clt b k h;simp[h0.1];omega
  ·simp[h0.1,h]
 ·obtain⟨h1,h2⟩:=hs.ownlt b id h;exact⟨by simp[h0.1];omega,h2⟩
def Abs.newArr (A:Abs)(b n:Nat)(v:Value)(fix:Bool)(m:Nat):Abs :=
 { A with C:=fun k o=>A.C k o∨(fix=true∧k=b∧o<m),own:=fun k=>if k=b then some A.nx else A.own k,sv:=fun i=>if i=A.nx then v else A.sv i,ln:=fun i=>if i=A.nx then n else A.ln i,nx:=A.nx+1 }
theorem Ext.newArr {w0:World}(hs:Sim w A st)(h0:w0.heap=w.heap∧w0.os=w.os∧w0.tape=w.tape∧w0.output=w.output)(o:Obj)(n:Nat)(v:Value)(fix:Bool)(m:Nat):Ext w A (w0.alloc o) (A.newArr w.heap.size n v fix m) where
 nx:=Nat.le_succ _
 loc _ _:=rfl
 ln id h:=by simp only[Abs.newArr];rw[if_neg (by omega)];exact Nat.le_refl _
 sv id h _:=by simp only[Abs.newArr];rw[if_neg (by omega)]
 C b o' h:=⟨.inl h,by
  rw[World.cell?_alloc_lt _ _ _ (by rw[h0.1];exact hs.Clt b o' h)]
  simp[World.cell?,h0.1]⟩
 own b h ho:=by simp only[Abs.newArr];rw[if_neg (by omega)];exact ho
 size:=by simp[h0.1]
 os:=h0.2.1
 tape:=h0.2.2.1
 output:=h0.2.2.2
 fr b h _:=by rw[heap_alloc_old w0 o (by rw[h0.1];exact h),h0.1]
 cold b o hb _ hc:=hc.elim (fun h=>h) fun h=>by have:=h.2.1;omega
 mc b ms c _ h:=by rw[heap_alloc_old w0 o (by rw[h0.1];exact(Array.getElem?_eq_some_iff.1 h).1),h0.1];exact h
theorem Sim.newArr {w0:World}(hs:Sim w A st)(h0:w0.heap=w.heap∧w0.os=w.os∧w0.tape=w.tape∧w0.output=w.output){cur:Array Value}{xs:List V}{e es cap:Nat}{wr fz:Bool}(hes:∀x∈xs,x.cells.length=es)(hcap:xs.length≤cap)(hm:cap≤maxLen)(hsz:cur.size=cap*es)
  (hr:∀(i j:Nat) (x c:V),xs[i]?=some x→x.cells[j]?=some c→∃v,cur[i*es+j]?=some v∧v.oneCell'=true∧Rep w A v c) :
  Sim (w0.alloc (.cells cur e (if fz then(cur.size,cur.size+1) else(0,0)))) (A.newArr w.heap.size xs.length (.slice (some ⟨w.heap.size,0,none⟩) xs.length cap) (!wr) (xs.length*es))
   { st with nx:=st.nx+1,arr:=(st.nx,{ e:=e,es:=es,xs:=xs,wr:=wr,fz:=fz })::st.arr }:=by
 have hx:Ext w A (w0.alloc (.cells cur e (if fz then(cur.size,cur.size+1) else(0,0)))) (A.newArr w.heap.size xs.length (.slice (some ⟨w.heap.size,0,none⟩) xs.length cap) (!wr) (xs.length*es)):=Ext.newArr hs h0 _ _ _ _ _
 have oldown:∀b id,A.own b=some id→(A.newArr w.heap.size xs.length (.slice (some ⟨w.heap.size,0,none⟩) xs.length cap) (!wr) (xs.length*es)).own b=some id:=fun b id h=>by
  have:=(hs.ownlt b id h).1
  simp only[Abs.newArr];rw[if_neg (by omega)];exact h
 have oldheap:∀b,b<w.heap.size→(w0.alloc (.cells cur e (if fz then(cur.size,cur.size+1) else(0,0)))).heap[b]?=w.heap[b]?:=fun b h=>by
  rw[heap_alloc_old w0 _ (by rw[h0.1];exact h),h0.1]
 have oldC:∀b o,b<w.heap.size→((A.newArr w.heap.size xs.length (.slice (some ⟨w.heap.size,0,none⟩) xs.length cap) (!wr) (xs.length*es)).C b o↔A.C b o):=fun b o h =>
  ⟨fun h'=>by rcases h' with h'|⟨_,h',_⟩;exact h';omega,.inl⟩
 refine⟨by simp[Abs.newArr,hs.nx],fun id cs' h=>?_,fun id ar h=>?_,fun b o h=>?_,fun b id h=>?_,fun id cs' ar h1 h2=>?_,
  hs.x.same hx rfl hs.ownlt oldheap (fun b id h hlt=>by
   simp only[Abs.newArr]at h
   split at h
   ·cases h;omega
   ·exact h) (fun b k hb h=>(oldC b k hb).1 h) (fun _ _ h=>h) (fun id hlt h=>by simp only[look];rw[if_neg (by have:=hs.nx;omega)];exact h) oldown⟩
 ·have hk:=hs.mem id cs' h
  have hb:=(hs.ownlt _ _ hk.own).1
  exact hk.of_heap hx (oldown _ _ hk.own) (oldheap _ hb) (fun o h=>hk.noC o ((oldC _ _ hb).1 h))
 ·simp only[look]at h
  split at h
  ·rename_i e1;cases h;subst e1
   have e2:w0.heap.size=w.heap.size:=by rw[h0.1]
   refine⟨by simp[Abs.newArr,hs.nx],by simp[Abs.newArr,hs.nx],hes,.inr ⟨w.heap.size,cap,cur,by simp[Abs.newArr,hs.nx],?_,hcap,hm,hsz,by simp[Abs.newArr,hs.nx],fun o ho h=>?_,fun o ho=>?_,fun i j x c hi hj=>?_⟩⟩
   ·unfold rowAt;rw[←e2];exact heap_alloc_new w0 _
   ·rcases h with h|⟨_,_,h⟩
    ·exact Nat.lt_irrefl _ (hs.Clt _ _ h)
    ·simp at ho;omega
   ·simp at ho
    constructor
    ·intro h
     rcases h with h|⟨h,_⟩
     ·exact absurd (hs.Clt _ _ h) (Nat.lt_irrefl _)
     ·simpa using h
    ·intro h;exact .inr ⟨by simpa using h,rfl,ho⟩
   ·obtain⟨v,q1,q2,q3⟩:=hr i j x c hi hj
    exact⟨v,q1,q2,q3.mono hx⟩
  ·have hk:=hs.arr id ar h
   exact hk.of_heap hx (by have:=hk.lt;simp only[Abs.newArr];rw[if_neg (by omega)]) (fun g hg=>by
    have hb:=(hs.ownlt _ _ hg).1
    exact⟨oldown _ _ hg,oldheap _ hb,fun o=>oldC _ _ hb⟩)
 ·rcases h with h|⟨_,h,_⟩
  ·have:=hs.Clt b o h;simp[h0.1];omega
  ·simp[h0.1,h]
 ·simp only[Abs.newArr]at h ⊢
  split at h
  ·rename_i e1;cases h;subst e1;simp[h0.1]
  ·have:=hs.ownlt b id h;simp[h0.1];omega
 ·simp only[look]at h2
  split at h2
  ·rename_i e1;subst e1
   have:=(hs.mem _ cs' h1).lt;have:=hs.nx;omega
  ·exact hs.disj id cs' ar h1 h2
theorem Rep.newArr {w':World}{n:Nat}{v:Value}{fix:Bool}{m b:Nat}:Rep w' (A.newArr b n v fix m) v (.osl A.nx n) :=
 .osl _ _ _ (by simp[Abs.newArr]) (by simp[Abs.newArr]) (fun _=>by simp[Abs.newArr])
end
end Go.Sha
