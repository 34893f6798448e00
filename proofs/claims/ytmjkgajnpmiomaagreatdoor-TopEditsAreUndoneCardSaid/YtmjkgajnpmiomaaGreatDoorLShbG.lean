/- Soundness of 'evs'. -/
import Derived.Test.YtmjkgajnpmiomaaGreatDoorLShbF
set_option linter.unusedSimpArgs false
set_option linter.unusedVariables false
namespace Go.Sha
section
variable {P:Program}{w:World}{A:Abs}{st:St}{a:Act}{env:Env}
theorem gives_iadr {t e:TypeId}{es:Nat}(ht:P.underlying t=some (.slice e))(hsz:sizeB P e=some es)(hs:Sim w A st){x i:Value}{dx di d:V}(hx:Rep w A x dx)(hi:Rep w A i di)
  (h:iadrV st es dx di=some d):Gives P w A (Instr.indexAt t x i) d:=by
 unfold iadrV at h
 split at h
 ·rename_i j hj
  obtain⟨k,rfl⟩:=natV_inv hi hj
  have slcase:∀(x:Value) (xs:List V),Rep w A x (.sl xs)→epV es xs j=some d→Gives P w A (Instr.indexAt t x (.int k (j:Int))) d:=by
   intro x xs hx h
   unfold epV at h
   split at h
   ·rename_i y hy
    split at h
    ·rename_i hes
     cases h
     have hlt:=(List.getElem?_eq_some_iff.1 hy).1
     cases hx with
     |slnil=>simp at hlt
     |sl _ b o cap es' cell q1 q2 q3 q4 q5 =>
      have:es'=es:=by rw[←q1 y (List.mem_of_getElem? hy)];exact hes
      subst this
      refine⟨.pointer (some ⟨b,o+j*es',none⟩),?_,?_⟩
      ·simp[Instr.indexAt,asIntOf,run_underlying ht,hlt,sizeB_eq hsz,addr_add]
      ·refine .ep y 0 b (o+j*es') (fun m=>cell j m) (fun m c hm=>?_) (fun m c hm=>q5 j m y c hy hm)
       rw[Nat.add_assoc]
       exact q4 j m y c hy hm
    ·cases h
   ·cases h
  cases hx with
  |sl xs b o cap es' cell q1 q2 q3 q4 q5=>exact slcase _ xs (.sl xs b o cap es' cell q1 q2 q3 q4 q5) h
  |slnil=>exact slcase _ [] (.slnil _) h
  |clip b xs hc=>exact slcase _ xs hc h
  |osl id m v h1 h2 h3 =>
   simp only at h
   split at h
   ·rename_i ar har
    split at h
    ·rename_i hc
     obtain⟨c1,c2,c3⟩:=hc
     cases h
     obtain⟨rfl,hk⟩:=osl_alive hs har c1 (.osl id m _ h1 h2 h3)
     rcases hk.row with⟨r,r',_⟩|⟨g,cap,cur,r1,r2,r3,_⟩
     ·rw[r']at c1;simp at c1;omega
     ·rw[c1]at r1
      refine⟨.pointer (some ⟨g,j*es,none⟩),?_,?_⟩
      ·rw[r1]
       simp[Instr.indexAt,asIntOf,run_underlying ht,c3,sizeB_eq hsz,addr_add]
      ·refine .op id m j es 0 _ h1 h2 (fun e g' cap' hg=>?_)
       rw[r1]at hg;cases hg;rfl
    ·cases h
   ·cases h
  |_=>cases h
 ·cases h
theorem gives_iadra {t e:TypeId}{len es:Nat}(ht:P.underlying t=some (.array len e))(hsz:sizeB P e=some es){x i:Value}{dx di d:V}(hx:Rep w A x dx)(hi:Rep w A i di)
  (h:iadraV len es dx di=some d):Gives P w A (Instr.indexAt t x i) d:=by
 unfold iadraV at h
 split at h
 ·rename_i j hj
  obtain⟨k,rfl⟩:=natV_inv hi hj
  split at h
  ·rename_i hlt
   cases hx with
   |ptr id off hid =>
    cases h
    exact⟨_,by simp[Instr.indexAt,asIntOf,run_underlying ht,hlt,sizeB_eq hsz,Instr.sureAddr,addr_add],.ptr _ _ hid⟩
   |ep y off b o cell q1 q2 =>
    cases h
    exact⟨.pointer (some ⟨b,o+(off+j*es),none⟩),by simp[Instr.indexAt,asIntOf,run_underlying ht,hlt,sizeB_eq hsz,Instr.sureAddr,addr_add,Nat.add_assoc],.ep _ _ _ _ cell q1 q2⟩
   |_=>cases h
  ·cases h
 ·cases h
theorem foldl_fill (off:Nat):∀(l:List Value) (vs:List Value) (k:Nat),off+k+l.length≤vs.length →
  (l.zipIdx k).foldl (fun(cs:Array Value) p=>cs.setIfInBounds (off+p.2) p.1) vs.toArray=(vs.take (off+k)++l++vs.drop (off+k+l.length)).toArray
 |[],vs,k,_=>by simp
 |x::l,vs,k,h=>by
  simp only[List.length_cons]at h
  rw[List.zipIdx_cons,List.foldl_cons]
  have e:vs.toArray.setIfInBounds (off+k) x=(vs.set (off+k) x).toArray:=by simp
  rw[e,foldl_fill off l (vs.set (off+k) x) (k+1) (by simp;omega)]
  congr 1
  have hm:off+k<vs.length:=by omega
  rw[List.set_eq_take_append_cons_drop,if_pos hm]
  have h1:(vs.take (off+k)++x::vs.drop (off+k+1)).take (off+(k+1))=vs.take (off+k)++[x]:=by
   rw[List.take_append,List.length_take,show min (off+k) vs.length=off+k by omega,show off+(k+1)-(off+k)=1 by omega,List.take_of_length_le (by simp;omega)]
   rfl
  have h2:(vs.take (off+k)++x::vs.drop (off+k+1)).drop (off+(k+1)+l.length)=vs.drop (off+k+(l.length+1)):=by
   rw[List.drop_append,List.length_take,show min (off+k) vs.length=off+k by omega,List.drop_of_length_le (by simp;omega),show off+(k+1)+l.length-(off+k)=l.length+1 by omega]
   simp only[List.drop_succ_cons,List.nil_append,List.drop_drop]
   congr 1;omega
  rw[h1,h2]
  simp
theorem fill_rep (hs:Sim w A st){place:Nat→Option (Nat×Nat)}(he:EnvSim w A a env):∀{parts:List (Nat×Operand)}{ps:List (Nat×Nat×Opd)},partsOf place parts=some ps →
  ∀{vs:List Value}{cs cs':List V},vs.length=cs.length→(∀v∈vs,v.oneCell'=true)→(∀(i:Nat) (v:Value) (c:V),vs[i]?=some v→cs[i]?=some c→Rep w A v c) →
  fillV st cs (ps.map fun p=>(p.1,p.2.1,p.2.2.get env))=some cs' →
  ∃vs':List Value,Instr.fill place vs.toArray (parts.map fun(i,x)=>(i,a.eval x))=some vs'.toArray∧vs'.length=cs'.length∧(∀v∈vs',v.oneCell'=true)∧(∀(i:Nat) (v:Value) (c:V),vs'[i]?=some v→cs'[i]?=some c→Rep w A v c)
 |[],ps,h,vs,cs,cs',h1,h2,h3,hf=>by
  simp[partsOf]at h;subst h
  simp[fillV]at hf;subst hf
  exact⟨vs,rfl,h1,h2,h3⟩
 |(i,x)::parts,ps,h,vs,cs,cs',h1,h2,h3,hf=>by
  simp only[partsOf]at h
  split at h
  ·rename_i off n o l hp ho hl
   cases h
   simp only[List.map_cons,fillV]at hf
   split at hf
   ·rename_i hc
    obtain⟨c1,c2,c3⟩:=hc
    have hr:=rep_get he ho
    obtain⟨k1,k2,k3⟩:=hr.cells_inv hs c1
    obtain⟨v,hv⟩:∃v,v=a.eval x:=⟨_,rfl⟩
    rw[←hv]at hr k1 k2 k3
    generalize o.get env=dv at *
    let vs1:List Value:=vs.take off++v.cells.toList++vs.drop (off+n)
    have hvl:v.cells.toList.length=n:=by simpa [k1] using c2
    have hlen:vs1.length=vs.length:=by simp[vs1,k1,c2];omega
    have hfold:(v.cells.zipIdx.foldl (fun cs (c,j)=>cs.setIfInBounds (off+j) c) vs.toArray)=vs1.toArray:=by
     have:=foldl_fill off v.cells.toList vs 0 (by rw[hvl];omega)
     simp only[Nat.add_zero,hvl]at this
     rw[←this,←Array.foldl_toList,Array.toList_zipIdx]
    obtain⟨vs',g1,g2,g3,g4⟩:=fill_rep hs he hl (vs:=vs1) (cs:=cs.take off++dv.cells++cs.drop (off+n)) (by simp[vs1,k1,c2];omega)
     (by
      intro u hu
      simp only[vs1,List.mem_append]at hu
      rcases hu with(hu|hu)|hu
      ·exact h2 u (List.mem_of_mem_take hu)
      ·exact k2 u hu
      ·exact h2 u (List.mem_of_mem_drop hu))
     (by
      intro j u c hu hc
      simp only[vs1]at hu
      rcases Nat.lt_or_ge j off with hj|hj
      ·rw[List.getElem?_append_left (by simp;omega),List.getElem?_append_left (by simp;omega),List.getElem?_take_of_lt hj]at hu hc
       exact h3 j u c hu hc
      ·rcases Nat.lt_or_ge j (off+n) with hj2|hj2
       ·rw[List.getElem?_append_left (by simp;omega),List.getElem?_append_right (by simp;omega)]at hu hc
        simp only[List.length_take]at hu hc
        rw[show j-min off vs.length=j-off by omega]at hu
        rw[show j-min off cs.length=j-off by omega]at hc
        exact k3 (j-off) u c (by simpa using hu) hc
       ·rw[List.getElem?_append_right (by simp;omega)]at hu hc
        simp only[List.length_append,List.length_take,hvl,c2]at hu hc
        rw[List.getElem?_drop]at hu hc
        rw[show off+n+(j-(min off vs.length+n))=j by omega]at hu
        rw[show off+n+(j-(min off cs.length+n))=j by omega]at hc
        exact h3 j u c hu hc) hf
    refine⟨vs',?_,g2,g3,g4⟩
    rw[←g1]
    have hsz:v.cells.size=n:=by simpa using hvl
    simp only[List.map_cons,Instr.fill,hp,←hv]
    rw[if_neg (by simp[hsz];omega)]
    exact congrArg (fun z=>Instr.fill place z _) hfold
   ·cases hf
  ·cases h
theorem gives_build_struct {t:TypeId}{fs:Array Field}(ht:P.underlying t=some (.struct fs)){z:List V}(hz:zeroB P t=some z)(hs:Sim w A st)(he:EnvSim w A a env){parts:Array (Nat×Operand)}{ps:List (Nat×Nat×Opd)}
  (hp:partsOf (fun(i:Nat)=>match fs[i]? with|some f=>(sizeB P f.type).map fun n=>(f.offset,n)|none=>none) parts.toList=some ps) (hall:∀f∈fs.toList,(sizeB P f.type).isSome=true)
  {d:V} (h:(fillV st z (ps.map fun p=>(p.1,p.2.1,p.2.2.get env))).map V.agg=some d) :
  Gives P w A (Instr.build t (parts.map fun(i,x)=>(i,a.eval x))) d:=by
 obtain⟨cs',hf,rfl⟩:=Option.map_eq_some_iff.1 h
 unfold zeroB at hz
 split at hz
 ·rename_i zv hzv
  obtain⟨k1,k2,k3⟩:=rep_constCells (w:=w) (A:=A) hz
  obtain⟨vs',g1,g2,g3,g4⟩:=fill_rep hs he hp k1 k2 k3 hf
  refine⟨.agg vs'.toArray,?_,.agg _ _ g2 g3 g4⟩
  have hzr:(zeroValue t).run P w=.ok zv w:=by
   cases hi:P.info? t with
   |none=>simp[hi]at hzv
   |some i=>simp[hi]at hzv;simp[zeroValue,typeInfo,hi,hzv]
  have hm:∀(l:List Field),(∀f∈l,(sizeB P f.type).isSome=true)→(l.mapM (fun f=>do pure (f.offset,←sizeOf f.type):Field→Sem (Nat×Nat))).run P w=.ok (l.map fun f=>(f.offset,(sizeB P f.type).getD 0)) w:=by
   intro l
   induction l with
   |nil=>intro _;rfl
   |cons f l ih =>
    intro hl
    obtain⟨n,hn⟩:=Option.isSome_iff_exists.1 (hl f (by simp))
    simp only[List.mapM_cons,Sem.run_bind,sizeB_eq hn,Result.andThen_ok,Sem.run_pure,ih (fun g hg=>hl g (by simp[hg])),List.map_cons,hn,Option.getD_some]
  have hma:(fs.mapM (fun f=>do pure (f.offset,←sizeOf f.type):Field→Sem (Nat×Nat))).run P w=.ok (fs.map fun f=>(f.offset,(sizeB P f.type).getD 0)) w:=by
   rw[Array.mapM_eq_mapM_toList,Sem.run_map,hm _ hall]
   rw[Result.andThen_ok,←Array.toList_map,Array.toArray_toList]
  have hplace:(fun(i:Nat)=>match fs[i]? with|some f=>(sizeB P f.type).map fun n=>(f.offset,n)|none=>none)=(fun(i:Nat)=>(fs.map fun(f:Field)=>(f.offset,(sizeB P f.type).getD 0))[i]?):=by
   funext i
   simp only[Array.getElem?_map]
   cases hi:fs[i]? with
   |none=>rfl
   |some f =>
    obtain⟨n,hn⟩:=Option.isSome_iff_exists.1 (hall f (by have:=Array.mem_of_getElem? hi;simpa using this))
    simp[hn]
  rw[hplace]at g1
  have g1':Instr.fill (fun(i:Nat)=>(fs.map fun(f:Field)=>(f.offset,(sizeB P f.type).getD 0))[i]?) zv.cells (parts.map fun(i,x)=>(i,a.eval x)).toList=some vs'.toArray:=by
   rw[Array.toList_map];simpa using g1
  simp only[Instr.build,Sem.run_bind,hzr,Result.andThen_ok,run_underlying ht,hma,g1',Sem.run_pure]
 ·cases hz
theorem gives_build_array {t e:TypeId}{len n:Nat}(ht:P.underlying t=some (.array len e))(hn:sizeB P e=some n){z:List V}(hz:zeroB P t=some z)(hs:Sim w A st)(he:EnvSim w A a env){parts:Array (Nat×Operand)}{ps:List (Nat×Nat×Opd)}
  (hp:partsOf (fun(i:Nat)=>some (i*n,n)) parts.toList=some ps) {d:V} (h:(fillV st z (ps.map fun p=>(p.1,p.2.1,p.2.2.get env))).map V.agg=some d) :
  Gives P w A (Instr.build t (parts.map fun(i,x)=>(i,a.eval x))) d:=by
 obtain⟨cs',hf,rfl⟩:=Option.map_eq_some_iff.1 h
 unfold zeroB at hz
 split at hz
 ·rename_i zv hzv
  obtain⟨k1,k2,k3⟩:=rep_constCells (w:=w) (A:=A) hz
  obtain⟨vs',g1,g2,g3,g4⟩:=fill_rep hs he hp k1 k2 k3 hf
  refine⟨.agg vs'.toArray,?_,.agg _ _ g2 g3 g4⟩
  have hzr:(zeroValue t).run P w=.ok zv w:=by
   cases hi:P.info? t with
   |none=>simp[hi]at hzv
   |some i=>simp[hi]at hzv;simp[zeroValue,typeInfo,hi,hzv]
  have g1':Instr.fill (fun(i:Nat)=>some (i*n,n)) zv.cells (parts.map fun(i,x)=>(i,a.eval x)).toList=some vs'.toArray:=by
   rw[Array.toList_map];simpa using g1
  simp only[Instr.build,Sem.run_bind,hzr,Result.andThen_ok,run_underlying ht,sizeB_eq hn,g1',Sem.run_pure]
 ·cases hz
theorem slice_read (hs:Sim w A st){x:Value}{d:V}{xs:List V}(hx:Rep w A x d)(he:elemsV st d=some xs){es:Nat}(hes:∀y∈xs,y.cells.length=es) :
  ∃b cap,x=.slice b xs.length cap∧xs.length≤cap∧(b=none→xs=[])∧∀ad,b=some ad→∃cs:List Value,cs.length=xs.length*es∧(∀(j:Nat) (v:Value),cs[j]?=some v→w.cell? (ad.add j)=some v)∧(∀v∈cs,v.oneCell'=true) ∧
   ∀(i j:Nat) (x c:V),xs[i]?=some x→x.cells[j]?=some c→∃v,cs[i*es+j]?=some v∧Rep w A v c:=by
 have main:∀(b o:Nat),(∀(i j:Nat) (x c:V),xs[i]?=some x→x.cells[j]?=some c→∃v,w.cell? ⟨b,o+(i*es+j),none⟩=some v∧v.oneCell'=true∧Rep w A v c) →
   ∃cs:List Value,cs.length=xs.length*es∧(∀(j:Nat) (v:Value),cs[j]?=some v→w.cell? ((⟨b,o,none⟩:Addr).add j)=some v)∧(∀v∈cs,v.oneCell'=true) ∧
   ∀(i j:Nat) (x c:V),xs[i]?=some x→x.cells[j]?=some c→∃v,cs[i*es+j]?=some v∧Rep w A v c:=by
  intro b o hc
  let cs:=(List.range (xs.length*es)).map fun k=>(w.cell? ⟨b,o+k,none⟩).getD undef
  have hk:∀k,k<xs.length*es→∃i j x c,k=i*es+j∧xs[i]?=some x∧x.cells[j]?=some c:=by
   intro k hk
   have hes0:0<es:=by rcases Nat.eq_zero_or_pos es with h|h;(subst h;simp at hk);exact h
   have hi:k / es<xs.length:=(Nat.div_lt_iff_lt_mul hes0).2 hk
   have hj:k % es<(xs[k / es]).cells.length:=by rw[hes _ (List.getElem_mem hi)];exact Nat.mod_lt _ hes0
   refine⟨k / es,k % es,xs[k / es],(xs[k / es]).cells[k % es],?_,List.getElem?_eq_getElem hi,List.getElem?_eq_getElem hj⟩
   have:=Nat.div_add_mod k es;rw[Nat.mul_comm]at this;omega
  have hget:∀k,k<xs.length*es→cs[k]?=some ((w.cell? ⟨b,o+k,none⟩).getD undef):=fun k hk=>by simp[cs,hk]
  refine⟨cs,by simp[cs],fun k v hv=>?_,fun v hv=>?_,fun i j x c hi hj=>?_⟩
  ·have hkl:k<xs.length*es:=by have:=(List.getElem?_eq_some_iff.1 hv).1;simpa [cs] using this
   obtain⟨i,j,x,c,e,hi,hj⟩:=hk k hkl
   obtain⟨u,h1,_,_⟩:=hc i j x c hi hj
   rw[hget k hkl,e,h1]at hv
   simp at hv
   rw[addr_add,e,h1,hv]
  ·obtain⟨k,hv⟩:=List.mem_iff_getElem?.1 hv
   have hkl:k<xs.length*es:=by have:=(List.getElem?_eq_some_iff.1 hv).1;simpa [cs] using this
   obtain⟨i,j,x,c,e,hi,hj⟩:=hk k hkl
   obtain⟨u,h1,h2,_⟩:=hc i j x c hi hj
   rw[hget k hkl,e,h1]at hv
   simp at hv
   rw[←hv];exact h2
  ·obtain⟨u,h1,h2,h3⟩:=hc i j x c hi hj
   have hlt:i*es+j<xs.length*es:=by
    have h1:=(List.getElem?_eq_some_iff.1 hi).1
    have h2:=(List.getElem?_eq_some_iff.1 hj).1
    rw[hes x (List.mem_of_getElem? hi)]at h2
    calc i*es+j<i*es+es:=by omega
     _=(i+1)*es:=by rw[Nat.add_mul];omega
     _≤_:=Nat.mul_le_mul_right _ h1
   exact⟨u,by rw[hget _ hlt,h1];rfl,h3⟩
 have slc:∀(x:Value),Rep w A x (.sl xs)→∃b cap,x=.slice b xs.length cap∧xs.length≤cap∧(b=none→xs=[])∧∀ad,b=some ad→∃cs:List Value,cs.length=xs.length*es∧(∀(j:Nat) (v:Value),cs[j]?=some v→w.cell? (ad.add j)=some v)∧(∀v∈cs,v.oneCell'=true) ∧
   ∀(i j:Nat) (x c:V),xs[i]?=some x→x.cells[j]?=some c→∃v,cs[i*es+j]?=some v∧Rep w A v c:=by
  intro x hx
  cases hx with
  |slnil a=>exact⟨a,0,rfl,Nat.le_refl _,fun _=>rfl,fun ad _=>⟨[],by simp,by simp,by simp⟩⟩
  |sl _ b o cap es' cell q1 q2 q3 q4 q5 =>
   refine⟨_,cap,rfl,q2,(fun h=>by cases h),fun ad had=>?_⟩
   cases had
   refine main b o (fun i j x c hi hj=>?_)
   have:es'=es:=by rw[←q1 x (List.mem_of_getElem? hi)];exact hes x (List.mem_of_getElem? hi)
   subst this
   obtain⟨_,p1,p2⟩:=q4 i j x c hi hj
   exact⟨_,p1,p2,q5 i j x c hi hj⟩
 cases hx with
 |sl ys b o cap es' cell q1 q2 q3 q4 q5=>cases he;exact slc _ (.sl _ b o cap es' cell q1 q2 q3 q4 q5)
 |slnil=>cases he;exact slc _ (.slnil _)
 |clip b ys h=>cases he;exact slc _ h
 |nils=>cases he;exact slc _ (.slnil _)
 |osl id n v h1 h2 h3 =>
  simp only[elemsV]at he
  split at he
  ·rename_i ar har
   split at he
   ·rename_i hn
    cases he
    obtain⟨rfl,hk⟩:=osl_alive hs har hn (.osl id n _ h1 h2 h3)
    rcases hk.row with⟨r,r',_⟩|⟨g,cap,cur,r1,r2,r3,r4,r5,r6,r7,r8,r10⟩
    ·rw[r,r'];exact⟨none,0,rfl,Nat.le_refl _,fun _=>rfl,(fun _ h=>by cases h)⟩
    ·rw[r1]
     refine⟨_,cap,rfl,r3,(fun h=>by cases h),fun ad had=>?_⟩
     cases had
     refine main g 0 (fun i j x c hi hj=>?_)
     have:ar.es=es:=by rw[←hk.es x (List.mem_of_getElem? hi)];exact hes x (List.mem_of_getElem? hi)
     obtain⟨v,p1,p0,p2⟩:=r10 i j x c hi hj
     rw[this]at p1
     refine⟨v,?_,p0,p2⟩
     rw[Nat.zero_add,cell_of_row w g _ cur ar.e _ r2];exact p1
   ·cases he
  ·cases he
 |_=>cases he
theorem bytesV_spec:∀{xs:List V}{l:List UInt8},bytesV xs=some l→∃ns:List Int,xs=ns.map (V.int .u8)∧l=ns.map fun n=>UInt8.ofNat n.toNat
 |[],l,h=>by simp[bytesV]at h;subst h;exact⟨[],rfl,rfl⟩
 |v::r,l,h=>by
  simp only[bytesV]at h
  split at h
  ·rename_i b s hb hs
   cases h
   obtain⟨ns,rfl,rfl⟩:=bytesV_spec hs
   unfold byteV at hb
   split at hb
   ·rename_i n;cases hb;exact⟨n::ns,rfl,rfl⟩
   ·cases hb
  ·cases h
theorem foldl_push (f:Int→UInt8):∀(ns:List Int) (s:ByteArray),ns.foldl (fun r n=>r.push (f n)) s=⟨(s.data.toList++ns.map f).toArray⟩
 |[],s=>by simp
 |n::ns,s=>by
  rw[List.foldl_cons,foldl_push f ns]
  simp[ByteArray.push]
theorem gives_cvbs (hs:Sim w A st){x:Value}{dx d:V}(hx:Rep w A x dx)(h:cvbsV st dx=some d):Gives P w A (Conv.bytesToString x) d:=by
 unfold cvbsV at h
 split at h
 ·rename_i xs hxs
  obtain⟨l,hl,rfl⟩:=Option.map_eq_some_iff.1 h
  obtain⟨ns,rfl,rfl⟩:=bytesV_spec hl
  obtain⟨b,cap,rfl,hcap,hnone,hsome⟩:=slice_read (es:=1) hs hx hxs (by simp[V.cells])
  refine⟨.string ⟨(ns.map fun n=>UInt8.ofNat n.toNat).toArray⟩,?_,.str _⟩
  cases b with
  |none =>
   have:=hnone rfl
   simp at this;subst this
   rfl
  |some ad =>
   obtain⟨cs,c1,c2,c3,c4⟩:=hsome ad rfl
   have hcs:cs=ns.map (Value.int .u8):=by
    apply List.ext_getElem?
    intro i
    rcases Nat.lt_or_ge i ns.length with hi|hi
    ·obtain⟨v,v1,v2⟩:=c4 i 0 (.int .u8 ns[i]) (.int .u8 ns[i]) (by simp[hi]) (by simp[V.cells])
     have:=v2.int_inv;subst this
     simp at v1;rw[v1];simp[hi]
    ·rw[List.getElem?_eq_none (by simp at c1;omega),List.getElem?_eq_none (by simpa using hi)]
   have hld:(loadCells ad (ns.map (V.int .u8)).length).run P w=.ok (ns.map (Value.int .u8)).toArray w:=by
    have:=run_loadCells_list (P:=P) (w:=w) ad cs c2
    rw[c1,Nat.mul_one]at this
    rw[this,hcs]
   rw[run_bytesToString w ad _ cap ns hld,foldl_push]
   rfl
 ·cases h
end
end Go.Sha
