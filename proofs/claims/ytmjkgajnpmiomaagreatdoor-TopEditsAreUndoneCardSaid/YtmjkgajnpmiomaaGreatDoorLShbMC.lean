/- Further steps. -/
import Derived.Test.YtmjkgajnpmiomaaGreatDoorLShbMB
import Derived.Lib.AppendStr
import Derived.Lib.Builder
import Derived.Lib.UnsafeStr
import Derived.LaidEqlPtr
import Derived.Laws.Pointers
set_option linter.unusedSimpArgs false
set_option linter.unusedVariables false
namespace Go.Sha
section
variable {P:Program}{w:World}{A:Abs}{st:St}{a:Act}{env:Env}
theorem Sim.withTy (hs:Sim w A st){id:Nat}{T:TypeId}(h:TyOk w A id T)(hn:look st.arr id=none):Sim w A ⟨st.nx,st.mem,st.arr,⟨st.x.obj,st.x.gl,(id,T)::st.x.ty⟩⟩ :=
 ⟨hs.nx,hs.mem,hs.arr,hs.Clt,hs.ownlt,hs.disj,hs.x.obj,hs.x.gl,fun i U hi=>by
  simp only[look]at hi
  split at hi
  ·rename_i e;cases hi;subst e;exact⟨h,hn⟩
  ·exact hs.x.ty i U hi⟩
theorem does_newt (hs:Sim w A st){t:TypeId}{z:List V}(hz:zeroB P t=some z) :
  Does P w A (do pure (.value (←Instr.alloc t true (.tuple #[])))) (.ptr st.nx 0) ⟨st.nx+1,(st.nx,z)::st.mem,st.arr,⟨st.x.obj,st.x.gl,(st.nx,t)::st.x.ty⟩⟩:=by
 unfold zeroB at hz
 split at hz
 ·rename_i zv hzv
  obtain⟨k1,k2,k3⟩:=rep_constCells (w:=w) (A:=A) hz
  have hzr:(zeroValue t).run P w=.ok zv w:=by
   cases hi:P.info? t with
   |none=>simp[hi]at hzv
   |some i=>simp[hi]at hzv;simp[zeroValue,typeInfo,hi,hzv]
  have hsim:=Sim.newMem hs (vs:=zv.cells.toList) (cs:=z) t k1 k2 k3
  rw[Array.toArray_toList]at hsim
  have e1:(A.newMem w.heap.size).loc st.nx=w.heap.size:=by simp[Abs.newMem,hs.nx]
  have hty:TyOk (w.alloc (.cells zv.cells t)) (A.newMem w.heap.size) st.nx t :=
   ⟨by simp[Abs.newMem,hs.nx],by rw[e1];simp[Abs.newMem,hs.nx],⟨zv.cells,(0,0),by rw[e1];exact heap_alloc_new w _⟩⟩
  have hn:look st.arr st.nx=none:=by
   cases e:look st.arr st.nx with
   |none=>rfl
   |some c=>have:=(hs.arr _ _ e).lt;have:=hs.nx;omega
  refine⟨.value (.pointer (some ⟨w.heap.size,0,none⟩)),_,_,?_,.inl ⟨_,rfl,?_⟩,hsim.withTy hty hn,Ext.newMem hs _⟩
  ·show Sem.run P (Sem.bind (Sem.bind (zeroValue t) _) _) w=_
   rw[Sem.run_bind',Sem.run_bind',hzr]
   rfl
  ·have h:=Rep.ptr (w:=w.alloc (.cells zv.cells t)) (A:=A.newMem w.heap.size) st.nx 0 (by show st.nx<A.nx+1;rw[hs.nx];omega)
   rw[e1]at h
   exact h
 ·cases hz
theorem mem_shape (hs:Sim w A st){id:Nat}{cs:List V}(h:look st.mem id=some cs):∃T,w.shape? (A.loc id)=some (T,cs.length)∧∀T',look st.x.ty id=some T'→T'=T:=by
 obtain⟨vs,T,h1,h2,_,_⟩:=(hs.mem id cs h).row
 refine⟨T,by unfold World.shape?;rw[h1,←h2],fun T' hT=>?_⟩
 obtain⟨vs',fz,h3⟩:=(hs.x.ty id T' hT).1.row
 rw[h1]at h3
 cases h3
 rfl
theorem does_cvu (hs:Sim w A st){src dst t:TypeId}{j:TypeInfo}(h1:P.underlying src=some (.pointer t))(h2:P.underlying dst=some .unsafePointer)(h3:P.info? t=some j)(h4:j.size≠0){v:Value}{x d:V}{st':St}(hr:Rep w A v x)
  (h:cvuV st x=some (d,st')):∃u,(convert src dst v).run P w=.ok u w∧Rep w A u d∧st'=st:=by
 unfold cvuV at h
 split at h
 ·cases h
  cases hr
  exact⟨.pointer none,by simp[convert,run_underlying h1,run_underlying h2,Conv.unsafePointer],.nilp,rfl⟩
 ·rename_i id off
  split at h
  ·rename_i cs hcs
   split at h
   ·rename_i hlt
    cases h
    obtain⟨T,hsh,_⟩:=mem_shape hs hcs
    cases hr with
    |ptr _ _ hid=>exact⟨_,Lib.run_to_unsafe w ⟨A.loc id,off,none⟩ h1 h2 h3 h4 hsh hlt,.ptr id off hid,rfl⟩
   ·cases h
  ·cases h
 ·cases h
theorem does_cvt (hs:Sim w A st){src dst t:TypeId}{j:TypeInfo}{n:Nat}(h1:P.underlying src=some .unsafePointer)(h2:P.underlying dst=some (.pointer t))(h3:P.info? t=some j)(h4:liesAt P P.depth t (n / P.cellsOf t) 0 t 1=true){v:Value}{x d:V}{st':St}(hr:Rep w A v x)
  (h:cvtV st t n x=some (d,st')):∃u,(convert src dst v).run P w=.ok u w∧Rep w A u d∧st'=st:=by
 unfold cvtV at h
 split at h
 ·cases h
  cases hr
  exact⟨.pointer none,by simp[convert,run_underlying h1,run_underlying h2,Conv.unsafePointer],.nilp,rfl⟩
 ·rename_i id
  split at h
  ·rename_i T' cs hT hcs
   split at h
   ·rename_i hc
    obtain⟨hc1,hc2⟩:=hc
    cases h
    obtain⟨T,hsh,huniq⟩:=mem_shape hs hcs
    have:=huniq _ hT
    subst this
    subst hc1
    rw[hc2]at hsh
    cases hr with
    |ptr _ _ hid=>exact⟨_,Lib.run_from_unsafe w ⟨A.loc id,0,none⟩ h1 h2 h3 hsh h4,.ptr id 0 hid,rfl⟩
   ·cases h
  ·cases h
 ·cases h
theorem appstr_src {t tx ty e:TypeId}{i:TypeInfo}{z:Value}(ht:P.underlying t=some (.slice e))(hu:P.underlying tx=some .string)(hi:P.info? e=some i)(hz:i.zero=some z)(h1:i.size=1)(l:List UInt8) :
  AppSrc P w t tx ty e i z (.string ⟨l.toArray⟩) (l.map bV).length (Lib.strCells ⟨l.toArray⟩):=by
 have hsz:(⟨l.toArray⟩:ByteArray).size=l.length:=by simp[ByteArray.size]
 have hml:(l.map bV).length=l.length:=by simp
 rw[hml]
 refine⟨by rw[Lib.strCells_length,hsz,h1,Nat.mul_one],Lib.strCells_oneCell _,fun h0 base n cap hc=>?_,fun g0 g1 g2=>?_,fun _ g sLen sCap cur hg hroom hfit=>?_,fun _ b sLen sCap olds o1 o2 o3 o4 o5=>?_⟩
 ·have hl:l=[]:=List.eq_nil_of_length_eq_zero h0
  subst hl
  cases base<;>simp[Builtin.append_,run_underlying ht,run_underlying hu,sizeOf,typeInfo,hi,Builtin.lenOf,Builtin.firstCells,hc,storeCells,ByteArray.size]
 ·have:=run_append_nil_string (P:=P) (w:=w) t tx ty e i z ht hu hi hz ⟨l.toArray⟩ (by rw[hsz];exact g0) (by rw[hsz];exact g1) (by rw[hsz];exact g2)
  rw[hsz]at this
  rw[this]
  have e:(Array.map (fun b:UInt8=>Value.int IntKind.u8 (b.toNat:Int)) (⟨l.toArray⟩:ByteArray).data)=(Lib.strCells ⟨l.toArray⟩).toArray:=by
   apply Array.ext';simp[Lib.strCells]
  rw[e]
 ·have:=Lib.run_append_room_string (P:=P) w t tx ty e i ht hu hi h1 g sLen sCap cur hg ⟨l.toArray⟩ (by rw[hsz];exact hroom) (by rw[Lib.strCells_length,h1,Nat.mul_one]at hfit;exact hfit)
  rw[hsz]at this
  rw[this,h1,Nat.mul_one,Lib.strCells_length,hsz]
 ·have:=Lib.run_append_grow_string (P:=P) w t tx ty e i z ht hu hi hz b sLen sCap olds o1 o2 ⟨l.toArray⟩ (by rw[hsz];exact o3) (by rw[hsz];exact o4) (by rw[hsz];exact o5)
  rw[hsz]at this
  exact this
theorem appstr_sound {t tx ty e:TypeId}{i:TypeInfo}{z:Value}(ht:P.underlying t=some (.slice e))(hu:P.underlying tx=some .string)(hi:P.info? e=some i)(hz:i.zero=some z)(h1:i.size=1)(hzs:z.cells.size=i.size)(hs:Sim w A st)
  {s:Value}{ds d:V}{l:List UInt8}{st':St} (rs:Rep w A s ds) (h:appstrV st e i.bytes ds l=some (d,st')) :
  ∃u w' A',(Builtin.append_ #[t,tx] ty #[s,.string ⟨l.toArray⟩]).run P w=.ok u w'∧Rep w' A' u d∧Sim w' A' st'∧Ext w A w' A':=by
 have src:=appstr_src (P:=P) (w:=w) (ty:=ty) ht hu hi hz h1 l
 unfold appstrV at h
 split at h
 ·cases h
  cases rs
  exact⟨_,w,A,src.empty rfl _ _ _ (Nat.le_refl _),.nils,hs,Ext.refl w A⟩
 ·rw[←h1]at h
  refine appG_sound hz (by omega) hzs hs src (fun i' j x c hx hc=>?_) (fun y hy=>?_) rs h
  ·rw[List.getElem?_map]at hx
   obtain⟨b,hb,rfl⟩:=Option.map_eq_some_iff.1 hx
   cases j with
   |zero =>
    simp[bV,V.cells]at hc
    subst hc
    refine⟨.int .u8 b.toNat,?_,rfl,.int _ _⟩
    rw[h1,Nat.mul_one,Nat.add_zero]
    simp[Lib.strCells,hb]
   |succ j=>simp[bV,V.cells]at hc
  ·obtain⟨b,_,rfl⟩:=List.mem_map.1 hy
   rw[h1];rfl
theorem does_usd (hs:Sim w A st)(ts:Array TypeId)(ty:TypeId){v:Value}{x d:V}{st':St}(hr:Rep w A v x)(h:usdV st x=some (d,st')) :
  ∃u,(Builtin.unsafeSliceData_ ts ty #[v]).run P w=.ok u w∧Rep w A u d∧st'=st:=by
 unfold usdV at h
 split at h
 ·cases h
  cases hr
  exact⟨_,Lib.run_unsafeSliceData_nil w ts ty 0 0,.nilp,rfl⟩
 ·rename_i id n
  split at h
  ·rename_i r hl
   split at h
   ·rename_i hc
    obtain⟨c1,c2,c3⟩:=hc
    cases h
    obtain⟨hv,hk⟩:=osl_alive hs hl c1 hr
    subst hv
    rcases hk.row with⟨r1,r2,_⟩|⟨g,cap,cur,r1,r2,r3,r4,r5,r6,r7,r8,r10⟩
    ·rw[r2]at c1;simp at c1;omega
    ·refine⟨.pointer (some ⟨g,0,none⟩),by rw[r1];exact Lib.run_unsafeSliceData_row w ts ty ⟨g,0,none⟩ _ cap (by omega),?_,rfl⟩
     refine .op id n 0 1 0 _ hk.lt (by rw[hk.ln];omega) (fun _ g' cap' e=>?_)
     rw[r1]at e
     cases e
     rfl
   ·cases h
  ·cases h
 ·cases h
theorem bytesU_spec:∀{xs:List V}{bs:List UInt8},bytesU xs=some bs→xs=bs.map bV
 |[],bs,h=>by cases h;rfl
 |x::xs,bs,h=>by
  simp only[bytesU]at h
  split at h
  ·rename_i b bs' h1 h2
   cases h
   rw[List.map_cons,←bytesU_spec h2]
   congr 1
   unfold byteU at h1
   split at h1
   ·rename_i n
    split at h1
    ·rename_i hn
     cases h1
     have e:((n.toNat.toUInt8).toNat:Int)=n:=by
      have h2:n.toNat<256:=by omega
      have h3:(n.toNat.toUInt8).toNat=n.toNat:=by simp[Nat.toUInt8,UInt8.toNat_ofNat',Nat.mod_eq_of_lt h2]
      rw[h3];omega
     unfold bV;rw[e]
    ·cases h1
   ·cases h1
  ·cases h
theorem freeze_heap (w:World)(g:Nat)(n:Nat)(cur:Array Value)(e:TypeId)(hg:w.heap[g]?=some (.cells cur e (0,0)))(k:Nat) :
  (w.freeze ⟨g,0,none⟩ n).heap[k]?=if k=g∧n≠0 then some (.cells cur e (0,n)) else w.heap[k]?:=by
 unfold World.freeze
 by_cases h0:n=0
 ·simp[h0]
 ·by_cases hk:k=g
  ·subst hk
   have hlt:k<w.heap.size:=(Array.getElem?_eq_some_iff.1 hg).1
   have hv:w.heap[k]=.cells cur e (0,0):=(Array.getElem?_eq_some_iff.1 hg).2
   simp[h0,Array.getElem?_modify,Array.getElem?_eq_getElem hlt,hv]
  ·simp[h0,hk,Array.getElem?_modify,Ne.symm hk]
theorem look_delA:∀{l:List (Nat×Arr)}{i j:Nat},look (delA l i) j=if j=i then none else look l j
 |[],i,j=>by simp[delA,look]
 |(k,c)::l,i,j=>by
  simp only[delA]
  by_cases h:k=i
  ·rw[if_pos h,look_delA]
   subst h
   by_cases h2:j=k
   ·rw[if_pos h2,if_pos h2]
   ·simp only[look];rw[if_neg h2,if_neg h2,if_neg (Ne.symm h2)]
  ·rw[if_neg h]
   simp only[look]
   by_cases h2:k=j
   ·rw[if_pos h2,if_pos h2,if_neg (fun e=>h (h2.trans e))]
   ·rw[if_neg h2,if_neg h2,look_delA]
theorem does_ustr (hs:Sim w A st){pt it ty e:TypeId}(hp:P.underlying pt=some (.pointer e))(hc1:P.cellsOf e=1){v u:Value}{x y d:V}{st':St}(rx:Rep w A v x)(ry:Rep w A u y)(h:ustrV st e x y=some (d,st')) :
  ∃u' w' A',(Builtin.unsafeString_ #[pt,it] ty #[v,u]).run P w=.ok u' w'∧Rep w' A' u' d∧Sim w' A' st'∧Ext w A w' A':=by
 unfold ustrV at h
 split at h
 ·rename_i n
  split at h
  ·rename_i hn
   subst hn
   cases h
   cases rx
   cases ry
   exact⟨_,w,A,Lib.run_unsafeString_none w pt it ty none,.str [],hs,Ext.refl w A⟩
  ·cases h
 ·rename_i id m n
  split at h
  ·rename_i r hl
   split at h
   ·rename_i hc
    obtain⟨c1,c2,c3,ce,c4,c5,c6⟩:=hc
    split at h
    ·rename_i bs hbs
     cases h
     have hxs:=bytesU_spec hbs
     cases ry
     have hk:=hs.arr id r hl
     rcases hk.row with⟨r1,r2,_⟩|⟨g,cap,cur,r1,r2,r3,r4,r5,r6,r7,r8,r10⟩
     ·rw[r2]at c1;simp at c1;omega
     ·cases rx with
      |op _ _ _ _ _ _ q1 q2 q3 =>
       have hv:=q3 (by rw[hk.ln,c1]) g cap (by rw[r1,c1])
       subst hv
       have hg:w.heap[g]?=some (.cells cur r.e (0,0)):=by unfold rowAt at r2;rw[c5]at r2;exact r2
       have hbl:bs.length=m:=by rw[←c1,hxs];simp
       have hsh:w.shape? g=some (r.e,cur.size):=by unfold World.shape?;rw[hg]
       have hcell:∀(j:Nat) (b:UInt8),bs[j]?=some b→cur[j]?=some (.int .u8 b.toNat):=by
        intro j b hb
        obtain⟨v,v1,v2,v3⟩:=r10 j 0 (bV b) (.int .u8 b.toNat) (by rw[hxs,List.getElem?_map,hb];rfl) rfl
        rw[c4,Nat.mul_one,Nat.add_zero]at v1
        rw[v1]
        cases v3
        rfl
       have hlen:cur.size=cap:=by rw[r5,c4,Nat.mul_one]
       have hne:bs≠[]:=fun h0=>by rw[h0]at hbl;simp at hbl;omega
       have hrun:=Lib.run_unsafeString_row (P:=P) w pt it ty e hp hc1 g cur.size (by rw[←ce];exact hsh) bs hne (by rw[hbl,hlen,←c1];exact r3) (by rw[hbl,←c1];unfold maxLen at r4;omega)
        (fun j b hb=>by
         rw[addr_add,Nat.zero_add,cell_of_row w g j cur r.e _ hg];exact hcell j b hb)
       rw[hbl,←c2]at hrun
       rw[show(0*1+0)=0 from rfl]
       have hfh:=fun k=>freeze_heap w g n.toNat cur r.e hg k
       have hmn:(m:Int).toNat=m:=by omega
       have hcellk:∀b o,(w.freeze ⟨g,0,none⟩ m).cell? ⟨b,o,none⟩=w.cell? ⟨b,o,none⟩:=fun b o=>by
        unfold World.cell?
        rw[freeze_heap w g m cur r.e hg]
        by_cases hb:b=g∧m≠0
        ·rw[if_pos hb];obtain⟨rfl,_⟩:=hb;rw[hg]
        ·rw[if_neg hb]
       have hoth:∀k,k≠g→(w.freeze ⟨g,0,none⟩ m).heap[k]?=w.heap[k]?:=fun k hk'=>by
        rw[freeze_heap w g m cur r.e hg,if_neg (fun h=>hk' h.1)]
       have hsize:(w.freeze ⟨g,0,none⟩ m).heap.size=w.heap.size:=by
        unfold World.freeze;split<;>simp
       have hx:Ext w A (w.freeze ⟨g,0,none⟩ m) A:=⟨Nat.le_refl _,fun _ _=>rfl,fun _ _=>Nat.le_refl _,fun _ _ _=>rfl,fun b o h=>⟨h,hcellk b o⟩,fun _ _ h=>h,by rw[hsize];exact Nat.le_refl _,
        by unfold World.freeze;split<;>rfl,by unfold World.freeze;split<;>rfl,by unfold World.freeze;split<;>rfl,fun b hb ho=>hoth b (fun e=>by subst e;rw[r6]at ho;cases ho),fun _ _ _ _ h=>h,fun b ms c _ h=>by rw[hoth b (fun e=>by rw[e,hg]at h;cases h)];exact h⟩
       refine⟨_,w.freeze ⟨g,0,none⟩ m,A,hrun,.str bs,?_,hx⟩
       have ne:∀b i,A.own b=some i→i≠id→b≠g:=fun b i h hi e=>by subst e;rw[r6]at h;cases h;exact hi rfl
       refine⟨hs.nx,fun i cs h=>?_,fun i ar h=>?_,fun b o h=>by rw[hsize];exact hs.Clt b o h,fun b i h=>by rw[hsize];exact hs.ownlt b i h,fun i cs ar h1 h2=>?_,
        hs.x.of hx rfl (fun i o ho=>⟨fun b hb=>⟨hb,hoth b (ne b i hb (fun e=>by have:=(hs.x.obj i o ho).2.2;rw[e,hl]at this;cases this))⟩,(hs.x.obj i o ho).1.noC⟩)
         (fun i o ho=>⟨(hs.x.obj i o ho).2.1,by rw[look_delA];split;rfl;exact(hs.x.obj i o ho).2.2⟩) (fun b i h=>(hs.ownlt b i h).1)
         (fun i T hi hn=>⟨by rw[look_delA];split;rfl;exact hn,fun vs fz hv=>⟨vs,fz,by
          have hk2:=(hs.x.ty i T hi).1
          rw[hoth _ (ne _ i hk2.own (fun e=>by rw[e,hl]at hn;cases hn))];exact hv⟩⟩)⟩
       ·have hk2:=hs.mem i cs h
        exact hk2.of_heap hx hk2.own (hoth _ (ne _ i hk2.own (fun e=>hs.disj _ _ _ h (e▸hl)))) hk2.noC
       ·rw[look_delA]at h
        split at h
        ·cases h
        ·rename_i hne2
         exact(hs.arr i ar h).of_heap hx rfl (fun b hb=>⟨hb,hoth _ (ne _ i hb hne2),fun _=>Iff.rfl⟩)
       ·rw[look_delA]at h2
        split at h2
        ·cases h2
        ·exact hs.disj i cs ar h1 h2
    ·cases h
   ·cases h
  ·cases h
 ·cases h
end
end Go.Sha
