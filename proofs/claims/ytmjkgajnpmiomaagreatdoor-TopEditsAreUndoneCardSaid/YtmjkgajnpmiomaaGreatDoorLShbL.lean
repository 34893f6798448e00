/- Operations that change the state. -/
import Derived.Test.YtmjkgajnpmiomaaGreatDoorLShbK
import Derived.Laws.IdiomStrings
import Derived.Great.BuildSlice
set_option linter.unusedSimpArgs false
set_option linter.unusedVariables false
namespace Go.Sha
section
variable {P:Program}{w:World}{A:Abs}{st:St}{a:Act}{env:Env}
def Does (P:Program)(w:World)(A:Abs)(s:Sem Next)(d:V)(st':St):Prop :=
 ∃nx w' A',s.run P w=.ok nx w'∧((∃u,nx=.value u∧Rep w' A' u d)∨(nx=.skip∧d=.und))∧Sim w' A' st'∧Ext w A w' A'
theorem GivesV.does {s:Sem Next}{d:V}(hs:Sim w A st)(h:GivesV P w A s d):Does P w A s d st:=by
 obtain⟨u,h1,h2⟩:=h
 exact⟨_,w,A,h1,.inl ⟨u,rfl,h2⟩,hs,Ext.refl w A⟩
theorem Does.of_value {s:Sem Value}{d:V}{st':St}(h:∃u w' A',s.run P w=.ok u w'∧Rep w' A' u d∧Sim w' A' st'∧Ext w A w' A'):Does P w A (do pure (.value (←s))) d st':=by
 obtain⟨u,w',A',h1,h2,h3,h4⟩:=h
 exact⟨.value u,w',A',by simp only[Sem.run_bind,h1,Result.andThen_ok,Sem.run_pure],.inl ⟨u,rfl,h2⟩,h3,h4⟩
theorem Does.of_unit {s:Sem Unit}{st':St}(h:∃w' A',s.run P w=.ok () w'∧Sim w' A' st'∧Ext w A w' A'):Does P w A (do s;pure .skip) .und st':=by
 obtain⟨w',A',h1,h3,h4⟩:=h
 refine⟨.skip,w',A',?_,.inr ⟨rfl,rfl⟩,h3,h4⟩
 show(Sem.bind s fun _=>Sem.pure Next.skip).run P w=_
 rw[Sem.run_bind']
 simp[h1]
theorem newVar_sound (hs:Sim w A st)(T:TypeId){v:Value}{cs:List V}(hl:v.cells.size=cs.length)(h1:∀u∈v.cells.toList,u.oneCell'=true)(hr:∀(i:Nat) (u:Value) (c:V),v.cells[i]?=some u→cs[i]?=some c→Rep w A u c) :
  ∃u w' A',(do let x ←newVar T v;pure (Value.pointer (some x)):Sem Value).run P w=.ok u w'∧Rep w' A' u (.ptr st.nx 0)∧Sim w' A' { st with nx:=st.nx+1,mem:=(st.nx,cs)::st.mem }∧Ext w A w' A':=by
 have hS:=Sim.newMem hs (vs:=v.cells.toList) (cs:=cs) T (by simpa using hl) h1 (fun i u c hu hc=>hr i u c (by simpa using hu) hc)
 refine⟨.pointer (some ⟨w.heap.size,0,none⟩),w.alloc (.cells v.cells T),A.newMem w.heap.size,?_,?_,by simpa using hS,Ext.newMem hs _⟩
 ·rfl
 ·have:(A.newMem w.heap.size).loc st.nx=w.heap.size:=by simp[Abs.newMem,hs.nx]
  have h:=Rep.ptr (w:=w.alloc (.cells v.cells T)) (A:=A.newMem w.heap.size) st.nx 0 (by show st.nx<A.nx+1;rw[hs.nx];omega)
  rw[this]at h
  exact h
theorem does_alloc (hs:Sim w A st){t:TypeId}{z:List V}(hz:zeroB P t=some z) :
  Does P w A (do pure (.value (←Instr.alloc t true (.tuple #[])))) (.ptr st.nx 0) { st with nx:=st.nx+1,mem:=(st.nx,z)::st.mem }:=by
 unfold zeroB at hz
 split at hz
 ·rename_i zv hzv
  obtain⟨k1,k2,k3⟩:=rep_constCells (w:=w) (A:=A) hz
  have hzr:(zeroValue t).run P w=.ok zv w:=by
   cases hi:P.info? t with
   |none=>simp[hi]at hzv
   |some i=>simp[hi]at hzv;simp[zeroValue,typeInfo,hi,hzv]
  obtain⟨u,w',A',h1,h2,h3,h4⟩:=newVar_sound (P:=P) hs t (v:=zv) (cs:=z) (by simpa using k1) k2 (fun i u c hu hc=>k3 i u c (by simpa using hu) hc)
  exact Does.of_value ⟨u,w',A',by simp only[Instr.alloc,Sem.run_bind,hzr,Result.andThen_ok];exact h1,h2,h3,h4⟩
 ·cases hz
theorem does_box (hs:Sim w A st){t:TypeId}{v:Value}{d:V}(hr:Rep w A v d)(hp:partOk st d=true) :
  Does P w A (do pure (.value (←Instr.box t v))) (.ptr st.nx 0) { st with nx:=st.nx+1,mem:=(st.nx,d.cells)::st.mem }:=by
 obtain⟨k1,k2,k3⟩:=hr.cells_inv hs hp
 exact Does.of_value (newVar_sound hs t k1 k2 k3)
theorem recell_cells {y y':V}{cs:List V}(h:y.recell cs=some y'):y'.cells=cs:=by
 unfold V.recell at h
 split at h
 ·cases h;rfl
 ·split at h
  ·rename_i c
   split at h
   ·cases h
   ·rename_i hc
    cases h
    cases y'<;>first|rfl|exact absurd rfl hc
  ·cases h
theorem store_elem (hs:Sim w A st){id:Nat}{r:Arr}(hid:look st.arr id=some r)(hw:r.wr=true){g cap:Nat}(hg:A.sv id=.slice (some ⟨g,0,none⟩) r.xs.length cap){i off:Nat}{y y':V}(hy:r.xs[i]?=some y)
  {us:List Value}{ds:List V} (hl:us.length=ds.length) (h1:∀v∈us,v.oneCell'=true) (hr:∀(i:Nat) (v:Value) (c:V),us[i]?=some v→ds[i]?=some c→Rep w A v c) (hoff:off+ds.length≤r.es)
  (hy':y'.cells=y.cells.take off++ds++y.cells.drop (off+ds.length)) :
  ∃w',(storeCells ⟨g,i*r.es+off,none⟩ us).run P w=.ok () w'∧Ext w A w' A∧Sim w' A { st with arr:=updA st.arr id { r with xs:=r.xs.set i y' } }:=by
 have hk:=hs.arr id r hid
 rcases hk.row with⟨r1,r2,_⟩|⟨g',cap',cur,r1,r2,r3,r4,r5,r6,r7,r8,r10⟩
 ·rw[r2]at hy;simp at hy
 ·rw[hg]at r1;cases r1
  have hil:=(List.getElem?_eq_some_iff.1 hy).1
  have hyl:y.cells.length=r.es:=hk.es y (List.mem_of_getElem? hy)
  have hrow:(i+1)*r.es≤cur.size:=by rw[r5];exact Nat.mul_le_mul_right _ (by omega)
  have hrow':i*r.es+r.es≤cur.size:=by rw[Nat.add_mul]at hrow;omega
  unfold rowAt at r2
  have hrun:=run_storeCells_row (P:=P) g (i*r.es+off) r.e _ us 0 cur w r2 (by split;exact .inr (Nat.le_refl _);exact .inl rfl) (by omega) h1
  simp only[Nat.add_zero]at hrun
  have hx:Ext w A (w.setRow g (cur.toList.take (i*r.es+off)++us++cur.toList.drop (i*r.es+off+us.length)).toArray) A:=Ext.setRow r2 r6 (fun o ho=>by
   rcases Nat.lt_or_ge o (r.xs.length*r.es) with h|h
   ·have:=(r8 o h).1 ho;rw[hw]at this;cases this
   ·exact absurd ho (r7 o h))
  have hsize:(cur.toList.take (i*r.es+off)++us++cur.toList.drop (i*r.es+off+us.length)).toArray.size=cur.size:=by simp;omega
  have hget:∀k,(cur.toList.take (i*r.es+off)++us++cur.toList.drop (i*r.es+off+us.length)).toArray[k]?=if k<i*r.es+off then cur[k]? else if k<i*r.es+off+us.length then us[k-(i*r.es+off)]? else cur[k]?:=by
   intro k
   rw[List.getElem?_toArray]
   split
   ·rename_i h
    rw[List.append_assoc,List.getElem?_append_left (by simp;omega),List.getElem?_take_of_lt h];simp
   ·rename_i h
    split
    ·rename_i h2
     rw[List.getElem?_append_left (by simp;omega),List.getElem?_append_right (by simp;omega)]
     congr 1;simp;omega
    ·rename_i h2
     rw[List.getElem?_append_right (by simp;omega),List.getElem?_drop]
     rw[show i*r.es+off+us.length+(k-(cur.toList.take (i*r.es+off)++us).length)=k by simp;omega]
     simp
  refine⟨_,hrun,hx,hs.nx,fun j cs' hj=>?_,fun j ar hj=>?_,fun b o h=>?_,fun b j h=>?_,fun j cs' ar h1 h2=>?_,
   hs.x.of hx rfl (fun j o ho=>⟨fun g' hg'=>⟨hg',setRow_other w _ _ _ (fun e=>by
    subst e;rw[r6]at hg';cases hg'
    have:=(hs.x.obj _ o ho).2.2
    rw[hid]at this;cases this)⟩,(hs.x.obj j o ho).1.noC⟩) (fun j o ho=>by
    obtain⟨_,m1,m2⟩:=hs.x.obj j o ho
    refine⟨m1,?_⟩
    cases h:look (updA st.arr id _) j with
    |none=>rfl
    |some c =>
     rcases look_some_arr hid j c h with⟨rfl,_⟩|⟨_,h⟩
     ·rw[hid]at m2;cases m2
     ·rw[h]at m2;cases m2) (fun b i h=>(hs.ownlt b i h).1) (fun i T hi hn=>by
    refine⟨?_,fun _ _=>setRow_typed⟩
    cases h:look (updA st.arr id _) i with
    |none=>rfl
    |some c =>
     rcases look_some_arr hid i c h with⟨rfl,_⟩|⟨_,h⟩
     ·rw[hid]at hn;cases hn
     ·rw[h]at hn;cases hn)⟩
  ·have hk':=hs.mem j cs' hj
   exact hk'.of_heap hx hk'.own (setRow_other w _ _ _ (fun e=>by
    have:=hk'.own;rw[e,r6]at this;cases this;exact hs.disj _ _ _ hj hid)) hk'.noC
  ·rcases look_some_arr hid j ar hj with⟨rfl,rfl⟩|⟨hne,hj⟩
   ·refine⟨hk.lt,by simpa using hk.ln,fun x hx'=>?_,.inr ⟨g,cap,(cur.toList.take (i*r.es+off)++us++cur.toList.drop (i*r.es+off+us.length)).toArray,by simpa using hg,?_,by simpa using r3,r4,?_,r6,by simpa using r7,by simpa using r8,fun i' j' x c hx' hc'=>?_⟩⟩
    ·rcases List.mem_or_eq_of_mem_set hx' with h|h
     ·exact hk.es x h
     ·subst h;rw[hy'];simp;omega
    ·unfold rowAt
     have:=setRow_heap w g cur (cur.toList.take (i*r.es+off)++us++cur.toList.drop (i*r.es+off+us.length)).toArray r.e _ r2
     rw[hsize];exact this
    ·rw[hsize];exact r5
    ·dsimp only at hx' hc' ⊢
     rw[hget]
     simp only[List.getElem?_set]at hx'
     split at hx'
     ·rename_i e
      subst e
      cases hx'
      rw[hy']at hc'
      rcases Nat.lt_or_ge j' off with h|h
      ·rw[if_pos (by omega)]
       rw[List.append_assoc,List.getElem?_append_left (by simp;omega),List.getElem?_take_of_lt h]at hc'
       obtain⟨v,v1,v2,v3⟩:=r10 i j' y c hy hc'
       exact⟨v,v1,v2,v3.mono hx⟩
      ·rcases Nat.lt_or_ge j' (off+ds.length) with h2|h2
       ·rw[if_neg (by omega),if_pos (by omega)]
        rw[List.getElem?_append_left (by simp;omega),List.getElem?_append_right (by simp;omega),show j'-(y.cells.take off).length=j'-off by simp;omega]at hc'
        have hlt:j'-off<us.length:=by omega
        refine⟨us[j'-off],by rw[show i*r.es+j'-(i*r.es+off)=j'-off by omega];simp[hlt],h1 _ (by simp),(hr _ _ _ (by simp[hlt]) hc').mono hx⟩
       ·rw[if_neg (by omega),if_neg (by omega)]
        rw[List.getElem?_append_right (by simp;omega),List.getElem?_drop,show off+ds.length+(j'-(y.cells.take off++ds).length)=j' by simp;omega]at hc'
        obtain⟨v,v1,v2,v3⟩:=r10 i j' y c hy hc'
        exact⟨v,v1,v2,v3.mono hx⟩
     ·rename_i e
      have hjl:j'<r.es:=by
       have:=(List.getElem?_eq_some_iff.1 hc').1
       rw[hk.es x (List.mem_of_getElem? hx')]at this;exact this
      obtain⟨v,v1,v2,v3⟩:=r10 i' j' x c hx' hc'
      refine⟨v,?_,v2,v3.mono hx⟩
      rcases Nat.lt_or_ge i' i with h|h
      ·have:i'*r.es+r.es≤i*r.es:=by rw[←Nat.succ_mul];exact Nat.mul_le_mul_right _ h
       rw[if_pos (by omega)];exact v1
      ·have h':i+1≤i':=by omega
       have:i*r.es+r.es≤i'*r.es:=by rw[←Nat.succ_mul];exact Nat.mul_le_mul_right _ h'
       rw[if_neg (by omega),if_neg (by omega)];exact v1
   ·exact(hs.arr j ar hj).of_heap hx rfl (fun b hb=>⟨hb,setRow_other w _ _ _ (fun e=>by subst e;rw[r6]at hb;cases hb;exact hne rfl),fun _=>Iff.rfl⟩)
  ·have:=hs.Clt b o h;simpa using this
  ·have:=hs.ownlt b j h;simpa using this
  ·rcases look_some_arr hid j ar h2 with⟨rfl,rfl⟩|⟨hne,h2⟩
   ·exact hs.disj _ _ _ h1 hid
   ·exact hs.disj _ _ _ h1 h2
theorem does_store (hs:Sim w A st){t:TypeId}{n:Nat}(ht:sizeB P t=some n){p x:Value}{dp dx:V}{st':St}(rp:Rep w A p dp)(rx:Rep w A x dx)(h:storeV st n dp dx=some st') :
  Does P w A (do Instr.storeAt t p x;pure .skip) .und st':=by
 apply Does.of_unit
 unfold storeV at h
 split at h
 ·rename_i hc
  obtain⟨c1,c2⟩:=hc
  obtain⟨k1,k2,k3⟩:=rx.cells_inv hs c1
  have hsize:x.cells.size=n:=by omega
  cases rp with
  |ptr id off hid =>
   simp only at h
   split at h
   ·rename_i cs hcs
    split at h
    ·rename_i hle
     cases h
     obtain⟨w',g1,g2,g3⟩:=Sim.storeMem (P:=P) hs hcs (us:=x.cells.toList) (ds:=dx.cells) (by simpa using k1) k2 (fun i u c hu hc=>k3 i u c (by simpa using hu) hc) (off:=off) (by omega)
     rw[c2]at g3
     refine⟨w',A,?_,g3,g2⟩
     simp only[Instr.storeAt,Instr.sureAddr,Sem.run_bind,Sem.run_pure,Result.andThen_ok,storeVar,sizeB_eq ht,hsize,ne_eq,not_true_eq_false,if_false]
     exact g1
    ·cases h
   ·cases h
  |op id m i es off v hid hn hv =>
   simp only at h
   split at h
   ·rename_i r hr
    split at h
    ·rename_i hc
     obtain⟨d1,d2,d3,d4⟩:=hc
     split at h
     ·rename_i y x' hy hx'
      obtain⟨y',hy',rfl⟩:=Option.map_eq_some_iff.1 h
      have hk:=hs.arr id r hr
      rcases hk.row with⟨r1,r2,_⟩|⟨g,cap,cur,r1,_⟩
      ·rw[r2]at hy;simp at hy
      ·obtain⟨q1,q2⟩:=snapA_cells hx'
       have hdl:x'.cells.length=n:=by omega
       obtain⟨w',g1,g2,g3⟩:=store_elem (P:=P) hs hr d3 r1 hy (us:=x.cells.toList) (ds:=x'.cells) (off:=off) (y':=y') (by simp;omega) k2 (fun j u c hu hc=>by
        have hlt:j<dx.cells.length:=by have:=(List.getElem?_eq_some_iff.1 hc).1;omega
        exact snap1_rep hs (k3 j u dx.cells[j] (by simpa using hu) (by simp[hlt])) (q2 j _ c (by simp[hlt]) hc)) (by omega) (by rw[hdl];exact recell_cells hy')
       have hv':=hv (by rw[hk.ln];exact d1.symm) g cap (by rw[r1,d1])
       subst hv'
       refine⟨w',A,?_,g3,g2⟩
       rw[d2]at g1
       simp only[Instr.storeAt,Instr.sureAddr,Sem.run_bind,Sem.run_pure,Result.andThen_ok,storeVar,sizeB_eq ht,hsize,ne_eq,not_true_eq_false,if_false]
       exact g1
     ·cases h
    ·cases h
   ·cases h
  |_=>cases h
 ·cases h
theorem does_newArr {w0:World}(hs:Sim w A st)(h0:w0.heap=w.heap∧w0.os=w.os∧w0.tape=w.tape∧w0.output=w.output){s:Sem Value}{cur:Array Value}{xs:List V}{e es cap:Nat}{wr fz:Bool}(hes:∀x∈xs,x.cells.length=es)(hcap:xs.length≤cap)(hm:cap≤maxLen)(hsz:cur.size=cap*es)
  (hr:∀(i j:Nat) (x c:V),xs[i]?=some x→x.cells[j]?=some c→∃v,cur[i*es+j]?=some v∧v.oneCell'=true∧Rep w A v c)
  (hrun:s.run P w=.ok (.slice (some ⟨w.heap.size,0,none⟩) xs.length cap) (w0.alloc (.cells cur e (if fz then(cur.size,cur.size+1) else(0,0))))) :
  Does P w A (do pure (.value (←s))) (newArr st e es xs wr fz).1 (newArr st e es xs wr fz).2:=by
 refine Does.of_value ⟨_,_,_,hrun,?_,Sim.newArr hs h0 hes hcap hm hsz hr,Ext.newArr hs h0 _ _ _ _ _⟩
 simp only[newArr]
 rw[hs.nx]
 exact Rep.newArr
theorem does_addC {w0:World}(hs:Sim w A st)(h0:w0.heap=w.heap∧w0.os=w.os∧w0.tape=w.tape∧w0.output=w.output){s:Sem Value}{cur:Array Value}{xs:List V}{e es:Nat}(hes:∀x∈xs,x.cells.length=es)(hm:xs.length≤maxLen)(hsz:cur.size=xs.length*es)
  (hr:∀(i j:Nat) (x c:V),xs[i]?=some x→x.cells[j]?=some c→∃v,cur[i*es+j]?=some v∧v.oneCell'=true∧Rep w A v c)
  (hrun:s.run P w=.ok (.slice (some ⟨w.heap.size,0,none⟩) xs.length xs.length) (w0.alloc (.cells cur e (0,0)))) :
  Does P w A (do pure (.value (←s))) (.sl xs) st:=by
 refine Does.of_value ⟨_,_,_,hrun,?_,Sim.addC hs h0 (.cells cur e (0,0)) cur.size,Ext.addC hs h0 _ _⟩
 have hx:Ext w A (w0.alloc (.cells cur e (0,0))) (A.addC w.heap.size cur.size):=Ext.addC hs h0 _ _
 have hnew:(w0.alloc (.cells cur e (0,0))).heap[w.heap.size]?=some (.cells cur e (0,0)):=by
  have:=heap_alloc_new w0 (.cells cur e (0,0));rw[h0.1]at this;exact this
 have hcell:∀k,k<cur.size→(w0.alloc (.cells cur e (0,0))).cell? ⟨w.heap.size,k,none⟩=cur[k]?:=fun k hk=>by
  simp[World.cell?,hnew]
 refine .sl xs w.heap.size 0 xs.length es (fun i j=>(cur[i*es+j]?).getD default) hes (Nat.le_refl _) hm (fun i j x c hi hj=>?_) (fun i j x c hi hj=>?_)
 ·obtain⟨v,q1,q2,q3⟩:=hr i j x c hi hj
  have hlt:i*es+j<cur.size:=(Array.getElem?_eq_some_iff.1 q1).1
  rw[Nat.zero_add]
  exact⟨.inr ⟨rfl,hlt⟩,by rw[hcell _ hlt,q1];rfl,by rw[q1];exact q2⟩
 ·obtain⟨v,q1,q2,q3⟩:=hr i j x c hi hj
  rw[q1];exact q3.mono hx
theorem does_cvsb (hs:Sim w A st){src dst e:TypeId}(h1:P.underlying src=some .string)(h2:P.underlying dst=some (.slice e))(h3:P.underlying e=some (.int .u8)){s:List UInt8}(hlen:s.length≤maxLen) :
  Does P w A (do pure (.value (←convert src dst (.string ⟨s.toArray⟩)))) (newArr st e 1 (s.map fun b=>.int .u8 b.toNat) true true).1 (newArr st e 1 (s.map fun b=>.int .u8 b.toNat) true true).2:=by
 have hrun:=run_bytes_of_string (P:=P) w src dst e ⟨s.toArray⟩ h1 h2 h3
 have hsz:(⟨s.toArray⟩:ByteArray).size=s.length:=by simp[ByteArray.size]
 rw[hsz]at hrun
 have hge:=grownCap_ge w s.length 0 e
 refine does_newArr (w0:=w.drew) (cur:=bytesRow ⟨s.toArray⟩ (grownCap w s.length 0 e)) (cap:=grownCap w s.length 0 e) hs ⟨rfl,rfl,rfl,rfl⟩ (by simp[V.cells]) (by simpa using hge) (grownCap_le_maxLen w _ _ _ hlen) ?_ ?_ (by simpa using hrun)
 ·simp[bytesRow,ByteArray.size];omega
 ·intro i j x c hi hj
  have hlt:i<s.length:=by have:=(List.getElem?_eq_some_iff.1 hi).1;simpa using this
  simp[hlt]at hi
  subst hi
  cases j with
  |zero =>
   simp[V.cells]at hj;subst hj
   refine⟨.int .u8 s[i].toNat,?_,rfl,.int _ _⟩
   simp only[bytesRow,Nat.mul_one,Nat.add_zero]
   rw[Array.getElem?_append_left (by simp[hlt])]
   simp[hlt]
  |succ j=>simp[V.cells]at hj
theorem flatMap_get (n:Nat):∀(vs:List Value) (i j:Nat) (v:Value),(∀v∈vs,v.cells.size=n)→vs[i]?=some v→j<n→(vs.flatMap fun v=>v.cells.toList)[i*n+j]?=v.cells[j]?
 |[],i,j,v,_,h,_=>by simp at h
 |u::vs,i,j,v,hall,h,hj=>by
  have hu:u.cells.toList.length=n:=by simpa using hall u (by simp)
  rw[List.flatMap_cons]
  cases i with
  |zero =>
   simp at h;subst h
   rw[Nat.zero_mul,Nat.zero_add,List.getElem?_append_left (by omega)];simp
  |succ i =>
   rw[List.getElem?_append_right (by rw[hu,Nat.succ_mul];omega),hu,show(i+1)*n+j-n=i*n+j by rw[Nat.succ_mul];omega]
   exact flatMap_get n vs i j v (fun v hv=>hall v (by simp[hv])) (by simpa using h) hj
theorem length_flatMap_cells (n:Nat):∀(vs:List Value),(∀v∈vs,v.cells.size=n)→(vs.flatMap fun v=>v.cells.toList).length=vs.length*n
 |[],_=>by simp
 |u::vs,h=>by
  rw[List.flatMap_cons,List.length_append,length_flatMap_cells n vs (fun v hv=>h v (by simp[hv]))]
  have:=h u (by simp)
  simp[this,Nat.succ_mul];omega
theorem fill_full (n:Nat):∀(ps:List (Nat×Value)) (k:Nat) (pre rest:List Value),(∀(i:Nat) (p:Nat×Value),ps[i]?=some p→p.1=k+i)→(∀p∈ps,p.2.cells.size=n)→pre.length=k*n→rest.length=ps.length*n →
  Instr.fill (fun i=>some (i*n,n)) (pre++rest).toArray ps=some (pre++ps.flatMap fun p=>p.2.cells.toList).toArray
 |[],k,pre,rest,_,_,_,h=>by
  have:rest=[]:=List.eq_nil_of_length_eq_zero (by simpa using h)
  subst this
  simp[Instr.fill]
 |(i,v)::ps,k,pre,rest,h1,h2,h3,h4=>by
  have hi:i=k:=by have:=h1 0 (i,v) rfl;simpa using this
  subst hi
  have hv:v.cells.size=n:=h2 (i,v) (by simp)
  simp only[List.length_cons,Nat.succ_mul]at h4
  simp only[Instr.fill]
  rw[if_neg (by simp[hv];omega)]
  have hf:=foldl_fill (i*n) v.cells.toList (pre++rest) 0 (by simp;omega)
  simp only[Nat.add_zero]at hf
  have hf':(v.cells.zipIdx.foldl (fun cs (c,j)=>cs.setIfInBounds (i*n+j) c) (pre++rest).toArray)=((pre++v.cells.toList)++rest.drop n).toArray:=by
   rw[←Array.foldl_toList,Array.toList_zipIdx]
   rw[hf]
   congr 1
   rw[List.take_append_of_le_length (by omega),List.take_of_length_le (by omega),List.drop_append,List.drop_of_length_le (by simp;omega)]
   simp[hv];congr 1;omega
  rw[hf',fill_full n ps (i+1) (pre++v.cells.toList) (rest.drop n) (fun j p hp=>by have:=h1 (j+1) p (by simpa using hp);omega) (fun p hp=>h2 p (by simp[hp])) (by simp[hv,Nat.succ_mul];omega) (by simp;omega)]
  simp
theorem run_buildSlice' (w:World){t e:TypeId}{len:Nat}{parts:Array (Nat×Value)}{i:TypeInfo}{z:Value}(ht:P.underlying t=some (.slice e))(hi:P.info? e=some i)(hz:i.zero=some z)
  (h1:len*i.size≤2 ^ 24) (h2:0<i.size) (hp:parts.toList.map (·.1)=List.range len) (hc:∀p∈parts.toList,p.2.cells.size=i.size) :
  (Instr.buildSlice t len parts).run P w=.ok (.slice (some ⟨w.heap.size,0,none⟩) len len) (w.alloc (.cells (parts.toList.flatMap fun p=>p.2.cells.toList).toArray e)):=by
 have hlen:parts.toList.length=len:=by have:=congrArg List.length hp;simpa using this
 have hidx:∀(i:Nat) (p:Nat×Value),parts.toList[i]?=some p→p.1=0+i:=by
  intro i p h
  have:=congrArg (fun l=>l[i]?) hp
  simp only[List.getElem?_map,h,Option.map_some]at this
  have hlt:i<len:=by have:=(List.getElem?_eq_some_iff.1 h).1;omega
  simp[hlt]at this
  omega
 by_cases h0:len=0
 ·subst h0
  have hpe:parts.toList=[]:=List.eq_nil_of_length_eq_zero hlen
  have hpa:parts=#[]:=by rw[←Array.toArray_toList (xs:=parts),hpe]
  subst hpa
  simp[Instr.buildSlice,run_underlying ht,sizeOf,typeInfo,hi,Instr.fill,newRow]
  have:Array.map (fun(_:Nat)=>(default:Value)) (Array.range 0)=#[]:=Array.eq_empty_of_size_eq_zero (by simp)
  rw[this]
 ·have hpos:¬len*i.size=0:=by have:=Nat.mul_pos (Nat.pos_of_ne_zero h0) h2;omega
  have hf:=fill_full i.size parts.toList 0 [] ((Array.range (len*i.size)).map (z.cells[· % z.cells.size]!)).toList hidx hc (by rw[Nat.zero_mul];rfl) (by rw[hlen];simp)
  simp only[List.nil_append,Array.toArray_toList]at hf
  exact run_buildSlice w t e len parts _ i z ht hi hz (by omega) hpos hf
end
section
variable {P:Program}
theorem run_clear_row {g:Nat}{T:TypeId}{cur:Array Value}{w:World}{t e:TypeId}{z:Value}{k:Nat}{fr:Nat×Nat}(hrow:w.heap[g]?=some (.cells cur T fr))(hfr:fr=(0,0)∨cur.size≤fr.1)(ht:P.underlying t=some (.slice e))(hv:∀w,(zeroValue e).run P w=.ok z w)
  (zc:z.cells.size=k) (z1:∀v∈z.cells.toList,v.oneCell'=true) (o n:Nat) (hn:0<n) (hl:o+n*k≤cur.size) :
  ∃new,(∀ty c,(Builtin.clear_ #[t] ty #[.slice (some ⟨g,o,none⟩) n c]).run P w=.ok (.tuple #[]) (w.setRow g new))∧new.size=cur.size∧(∀j,j<o→new[j]?=cur[j]?)∧(∀j,j<n*k→new[o+j]?=some z.cells[j % k]!)∧∀j,o+n*k≤j→new[j]?=cur[j]?:=by
 have hlen:(Builtin.zeroCells z.cells n).toList.length=n*k:=by simp[Builtin.zeroCells,zc]
 have h1:∀v∈(Builtin.zeroCells z.cells n).toList,v.oneCell'=true:=fun v hv=>by
  simp only[Builtin.zeroCells,Array.toList_map,List.mem_map]at hv
  obtain⟨j,hj,rfl⟩:=hv
  have:j<n*k:=by simpa [zc] using hj
  have hk:0<k:=by rcases Nat.eq_zero_or_pos k with h|h;(subst h;omega);exact h
  have hlt:j % z.cells.size<z.cells.size:=Nat.mod_lt _ (by omega)
  rw[getElem!_pos z.cells _ hlt]
  exact z1 _ (by simp)
 have hst:=run_storeCells_row (P:=P) g o T fr (Builtin.zeroCells z.cells n).toList 0 cur w hrow hfr (by rw[hlen];omega) h1
 generalize hN:(cur.toList.take (o+0)++(Builtin.zeroCells z.cells n).toList++cur.toList.drop (o+0+(Builtin.zeroCells z.cells n).toList.length)).toArray=new at hst
 have hrun:∀ty c,(Builtin.clear_ #[t] ty #[.slice (some ⟨g,o,none⟩) n c]).run P w=.ok (.tuple #[]) (w.setRow g new):=fun ty c=>by
  obtain⟨m,rfl⟩:∃m,n=m+1:=⟨n-1,by omega⟩
  simp[Builtin.clear_,run_underlying ht,hv,hst]
 subst hN
 refine⟨_,hrun,?_,fun j hj=>?_,fun j hj=>?_,fun j hj=>?_⟩
 ·simp only[List.size_toArray,List.length_append,List.length_take,List.length_drop,Array.length_toList,hlen];omega
 ·rw[Nat.add_zero,List.getElem?_toArray,List.append_assoc,List.getElem?_append_left (by simp;omega),List.getElem?_take_of_lt hj];simp
 ·have l1:(cur.toList.take (o+0)).length=o:=by simp;omega
  rw[List.getElem?_toArray,List.append_assoc,List.getElem?_append_right (by omega),l1,Nat.add_sub_cancel_left,List.getElem?_append_left (by omega)]
  simp only[Builtin.zeroCells,Array.toList_map,List.getElem?_map,zc,Array.toList_range]
  rw[List.getElem?_range (by omega)];rfl
 ·have l1:(cur.toList.take (o+0)).length=o:=by simp;omega
  rw[List.getElem?_toArray,List.append_assoc,List.getElem?_append_right (by omega),l1,List.getElem?_append_right (by omega),List.getElem?_drop,hlen,show o+0+n*k+(j-o-n*k)=j by omega];simp
end
section
variable {P:Program}{w:World}{A:Abs}{st:St}
theorem Sim.setAll (hs:Sim w A st){id:Nat}{r:Arr}(hid:look st.arr id=some r)(hw:r.wr=true){g cap:Nat}(hg:A.sv id=.slice (some ⟨g,0,none⟩) r.xs.length cap){cur:Array Value}(hh:rowAt w g r.e r.fz cur)(ho:A.own g=some id)
  (hcap:r.xs.length≤cap) (hm:cap≤maxLen) (hc:cur.size=cap*r.es) {new:Array Value} (hsz:new.size=cur.size) {ys:List V} (hlen:ys.length=r.xs.length) (hes:∀y∈ys,y.cells.length=r.es)
  (hcell:∀(i j:Nat) (y c:V),ys[i]?=some y→y.cells[j]?=some c→∃v,new[i*r.es+j]?=some v∧v.oneCell'=true∧Rep w A v c) :
  Ext w A (w.setRow g new) A∧Sim (w.setRow g new) A ⟨st.nx,st.mem,updA st.arr id { r with xs:=ys },st.x⟩:=by
 have hk:=hs.arr id r hid
 have hrow:=hh
 unfold rowAt at hrow
 have hno:∀o,¬A.C g o:=fun o hC=>by
  rcases hk.row with⟨r1,_⟩|⟨g',cap',cur',r1,r2,r3,r4,r5,r6,r7,r8,r10⟩
  ·rw[hg]at r1;cases r1
  ·rw[hg]at r1;cases r1
   rcases Nat.lt_or_ge o (r.xs.length*r.es) with h|h
   ·have:=(r8 o h).1 hC;rw[hw]at this;cases this
   ·exact r7 o h hC
 have hx:Ext w A (w.setRow g new) A:=Ext.setRow hrow ho (fun o hC=>absurd hC (hno o))
 refine⟨hx,hs.nx,fun j cs' hj=>?_,fun j ar hj=>?_,fun b o h=>?_,fun b j h=>?_,fun j cs' ar h1 h2=>?_,
  hs.x.of hx rfl (fun j o hobj=>⟨fun g' hg'=>⟨hg',setRow_other w _ _ _ (fun e=>by
   subst e;rw[ho]at hg';cases hg'
   have:=(hs.x.obj _ o hobj).2.2
   rw[hid]at this;cases this)⟩,(hs.x.obj j o hobj).1.noC⟩) (fun j o hobj=>by
   obtain⟨_,m1,m2⟩:=hs.x.obj j o hobj
   refine⟨m1,?_⟩
   cases h:look (updA st.arr id _) j with
   |none=>rfl
   |some c =>
    rcases look_some_arr hid j c h with⟨rfl,_⟩|⟨_,h⟩
    ·rw[hid]at m2;cases m2
    ·rw[h]at m2;cases m2) (fun b i h=>(hs.ownlt b i h).1) (fun i T hi hn=>by
   refine⟨?_,fun _ _=>setRow_typed⟩
   cases h:look (updA st.arr id _) i with
   |none=>rfl
   |some c =>
    rcases look_some_arr hid i c h with⟨rfl,_⟩|⟨_,h⟩
    ·rw[hid]at hn;cases hn
    ·rw[h]at hn;cases hn)⟩
 ·have hk':=hs.mem j cs' hj
  exact hk'.of_heap hx hk'.own (setRow_other w _ _ _ (fun e=>by
   have:=hk'.own;rw[e,ho]at this;cases this;exact hs.disj _ _ _ hj hid)) hk'.noC
 ·rcases look_some_arr hid j ar hj with⟨rfl,rfl⟩|⟨hne,hj⟩
  ·refine⟨hk.lt,hk.ln.trans hlen.symm,hes,.inr ⟨g,cap,new,by rw[hg,hlen],?_,by rw[hlen];exact hcap,hm,by rw[hsz];exact hc,ho,fun o _=>hno o,fun o _=>⟨fun h=>absurd h (hno o),fun h=>by rw[hw]at h;cases h⟩,fun i' j' x c hx' hc'=>?_⟩⟩
   ·unfold rowAt
    have:=setRow_heap w g cur new r.e _ hrow
    rw[hsz];exact this
   ·obtain⟨v,v1,v2,v3⟩:=hcell i' j' x c hx' hc'
    exact⟨v,v1,v2,v3.mono hx⟩
  ·exact(hs.arr j ar hj).of_heap hx rfl (fun b hb=>⟨hb,setRow_other w _ _ _ (fun e=>by subst e;rw[ho]at hb;cases hb;exact hne rfl),fun _=>Iff.rfl⟩)
 ·have:=hs.Clt b o h;simpa using this
 ·have:=hs.ownlt b j h;simpa using this
 ·rcases look_some_arr hid j ar h2 with⟨rfl,rfl⟩|⟨hne,h2⟩
  ·exact hs.disj _ _ _ h1 hid
  ·exact hs.disj _ _ _ h1 h2
end
end Go.Sha
