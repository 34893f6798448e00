/- Every operation but a call. -/
import Derived.Test.YtmjkgajnpmiomaaGreatDoorLShbL
set_option linter.unusedSimpArgs false
set_option linter.unusedVariables false
namespace Go.Sha
section
variable {P:Program}{w:World}{A:Abs}{st:St}{a:Act}{env:Env}
theorem does_of_evs {o:Oper}{so:SOp}(hc:compOp0 P o=some so)(hs:Sim w A st)(he:EnvSim w A a env){d:V}{st':St}(h:(evs so env st).map (fun v=>(v,st))=some (d,st')):Does P w A (execOp a.eval o) d st':=by
 obtain⟨v,hv,e⟩:=Option.map_eq_some_iff.1 h
 cases e
 exact(evs_sound0 hc hs he hv).does hs
theorem madeCells_get {z:Array Value}{n k:Nat}(h:k<n)(hz:0<z.size):(madeCells z n)[k]?=z[k % z.size]?:=by
 have:k % z.size<z.size:=Nat.mod_lt _ hz
 simp[madeCells,h,this]
theorem elemZ_cells {b:Bool}{z:List V}{y:V}(h:elemZ b z=some y):y.cells=z:=by
 unfold elemZ at h
 split at h
 ·cases h;rfl
 ·split at h
  ·split at h
   ·cases h
   ·rename_i hc;cases h
    cases y<;>first|rfl|exact absurd rfl hc
  ·cases h
theorem does_mkslice (hs:Sim w A st){t e n:Nat}{i:TypeInfo}{z:List V}(ht:P.underlying t=some (.slice e))(hi:P.info? e=some i)(hn:sizeB P e=some n)(hz:zeroB P e=some z)(hn0:0<n)
  {vl vc:Value}{dl dc:V}{l c:Nat} (rl:Rep w A vl dl) (rc:Rep w A vc dc) (hl:natV dl=some l) (hcn:natV dc=some c) (hlc:l≤c) (hroom:roomV c i.bytes=true) {y:V} (hcells:y.cells=z) (hzc:y.cells.length=n) :
  Does P w A (do pure (.value (←Instr.makeSlice t vl vc))) (newArr st e n (List.replicate l y) true false).1 (newArr st e n (List.replicate l y) true false).2:=by
 obtain⟨kl,rfl⟩:=natV_inv rl hl
 obtain⟨kc,rfl⟩:=natV_inv rc hcn
 simp only[roomV,Bool.and_eq_true,decide_eq_true_eq]at hroom
 unfold zeroB at hz
 split at hz
 ·rename_i zv hzv
  rw[hi]at hzv
  simp at hzv
  have hin:i.size=n:=by simp[sizeB,hi]at hn;exact hn
  obtain⟨k1,k2,k3⟩:=rep_constCells (w:=w) (A:=A) hz
  have hzl:z.length=n:=by rw[←hcells];exact hzc
  have hzs:zv.cells.size=n:=by simpa [hzl] using k1
  have hrun:=run_make w t e i zv ht hi hzv kl kc (l:Int) (c:Int) (by omega) (by omega) (by
   have h:=hroom.2
   have h2:((c*i.bytes:Nat):Int)≤140737488355328:=by omega
   rw[Nat.mul_comm]at h2;push_cast at h2;omega) (by have:=hroom.1;simp only[maxLen]at this;omega)
  rw[hin]at hrun
  simp only[Int.toNat_natCast]at hrun
  refine does_newArr (w0:=w) (cur:=madeCells zv.cells (c*n)) (cap:=c) hs ⟨rfl,rfl,rfl,rfl⟩ (fun x hx=>by rw[(List.mem_replicate.1 hx).2];exact hzc) (by simpa using hlc) hroom.1 (size_madeCells _ _) (fun i' j x cc hx hj=>?_) (by simpa using hrun)
  have hlt:i'<l:=by have:=(List.getElem?_eq_some_iff.1 hx).1;simpa using this
  rw[List.getElem?_replicate,if_pos hlt]at hx
  cases hx
  rw[hcells]at hj
  have hjn:j<n:=by have:=(List.getElem?_eq_some_iff.1 hj).1;omega
  have hidx:i'*n+j<c*n:=by
   calc i'*n+j<i'*n+n:=by omega
    _=(i'+1)*n:=by rw[Nat.succ_mul]
    _≤_:=Nat.mul_le_mul_right _ (by omega)
  refine⟨zv.cells[j],?_,k2 _ (by simp),k3 j _ cc (by simp[hzs,hjn]) hj⟩
  rw[madeCells_get hidx (by omega)]
  have hmod:(i'*n+j) % zv.cells.size=j:=by rw[hzs,Nat.mul_comm,Nat.mul_add_mod,Nat.mod_eq_of_lt hjn]
  simp only[hmod]
  exact Array.getElem?_eq_getElem (by omega)
 ·cases hz
theorem compOp_alloc {o:Oper}{T:TypeId}{z:List V}(hc:compOp0 P o=some (.alloc T z)):o.op=.alloc T∧zeroB P T=some z:=by
 unfold compOp0 at hc
 repeat' split at hc
 all_goals first|(cases hc;done)|(obtain⟨y,hy,e⟩:=Option.map_eq_some_iff.1 hc;first|(cases e;done)|(cases e;exact⟨‹_›,hy⟩))
theorem compOp_box {o:Oper}{T:TypeId}{x:Opd}(hc:compOp0 P o=some (.box T x)):∃y,o.op=.box T y∧opdOf y=some x:=by
 unfold compOp0 at hc
 repeat' split at hc
 all_goals first|(cases hc;done)|(obtain⟨y,hy,e⟩:=Option.map_eq_some_iff.1 hc;first|(cases e;done)|(cases e;exact⟨_,‹_›,hy⟩))
theorem compOp_store {o:Oper}{n:Nat}{p x:Opd}(hc:compOp0 P o=some (.store n p x)):∃t q y,o.op=.store t q y∧sizeB P t=some n∧opdOf q=some p∧opdOf y=some x:=by
 unfold compOp0 at hc
 repeat' split at hc
 all_goals first|(cases hc;done)|(cases hc;exact⟨_,_,_,‹_›,‹_›,‹_›,‹_›⟩)|(obtain⟨y,hy,e⟩:=Option.map_eq_some_iff.1 hc;cases e;done)
theorem compOp_append {o:Oper}{e es bytes:Nat}{s x:Opd}(hc:compOp0 P o=some (.append e es bytes s x)) :
  ∃t c i z p q,o.op=.call c∧c.callee=.builtin .append∧c.argTypes=#[t,t]∧c.args=#[p,q]∧opdOf p=some s∧opdOf q=some x∧P.underlying t=some (.slice e)∧P.info? e=some i∧i.zero=some z∧0<i.size∧z.cells.size=i.size∧i.size=es∧i.bytes=bytes:=by
 unfold compOp0 at hc
 repeat' split at hc
 all_goals first|(cases hc;done)|skip
 all_goals first
  |(obtain⟨y,hy,e⟩:=Option.map_eq_some_iff.1 hc;cases e;done)
  |skip
 rename_i c ho b hcal l1 l2 t u s' x' hat hargs htu d e' ht o1 i hi o2 z hz hsz
 cases hc
 subst htu
 obtain⟨p,ps,h1,h2,h3⟩:=opdsOf_cons hargs
 obtain⟨q,qs,h4,h5,h6⟩:=opdsOf_cons h3
 have:=opdsOf_nil h6;subst this;subst h4
 exact⟨t,c,i,z,p,q,ho,hcal,by rw[←Array.toArray_toList (xs:=c.argTypes),hat],by rw[←Array.toArray_toList (xs:=c.args),h1],h2,h5,ht,hi,hz,hsz.1,hsz.2,rfl,rfl⟩
theorem compOp_bslice {o:Oper}{e es:Nat}{xs:List Opd}(hc:compOp0 P o=some (.bslice e es xs)) :
  ∃t len parts z,o.op=.buildSlice t len parts∧P.underlying t=some (.slice e)∧sizeB P e=some es∧zeroB P e=some z∧len*es≤2 ^ 24∧0<es∧parts.toList.map (·.1)=List.range len∧opdsOf (parts.toList.map (·.2))=some xs:=by
 unfold compOp0 at hc
 repeat' split at hc
 all_goals first|(cases hc;done)|skip
 all_goals first
  |(obtain⟨y,hy,e⟩:=Option.map_eq_some_iff.1 hc;cases e;done)
  |skip
 rename_i hcond
 obtain⟨y,hy,he⟩:=Option.map_eq_some_iff.1 hc
 injection he with e1 e2 e3
 subst e1 e2 e3
 obtain⟨c1,c2,_,c4⟩:=hcond
 exact⟨_,_,_,_,‹_›,‹_›,‹_›,‹_›,c1,c2,c4,hy⟩
theorem compOp_mkslice {o:Oper}{e es bytes:Nat}{b:Bool}{z:List V}{l c:Opd}(hc:compOp0 P o=some (.mkslice e es bytes b z l c)) :
  ∃t p q i,o.op=.makeSlice t p q∧P.underlying t=some (.slice e)∧opdOf p=some l∧opdOf q=some c∧sizeB P e=some es∧zeroB P e=some z∧P.info? e=some i∧0<es∧i.bytes=bytes:=by
 unfold compOp0 at hc
 repeat' split at hc
 all_goals first|(cases hc;done)|skip
 all_goals first
  |(obtain⟨y,hy,e⟩:=Option.map_eq_some_iff.1 hc;cases e;done)
  |skip
 cases hc
 have hcond:=‹0<es∧z.length=es›
 exact⟨_,_,_,_,‹_›,‹_›,‹_›,‹_›,‹_›,‹_›,‹_›,hcond.1,rfl⟩
theorem compOp_cvsb {o:Oper}{e:Nat}{x:Opd}(hc:compOp0 P o=some (.cvsb e x)) :
  ∃s t y,o.op=.convert s t y∧P.underlying s=some .string∧P.underlying t=some (.slice e)∧P.underlying e=some (.int .u8)∧opdOf y=some x:=by
 unfold compOp0 at hc
 repeat' split at hc
 all_goals first|(cases hc;done)|skip
 all_goals first
  |(obtain⟨y,hy,e⟩:=Option.map_eq_some_iff.1 hc;cases e;done)
  |skip
 rename_i hb
 cases hc
 refine⟨_,_,_,‹_›,‹_›,‹_›,?_,‹_›⟩
 unfold isElemByte at hb
 split at hb
 ·assumption
 ·cases hb
theorem noact {o:Oper}{g:ActK}{xs:List Opd}(h:compOp0 P o=some (.act g xs)):False:=by
 unfold compOp0 at h
 repeat' split at h
 all_goals first|(cases h;done)|(obtain⟨y,hy,e⟩:=Option.map_eq_some_iff.1 h;cases e;done)
theorem bsl_run {o:Oper}{e es:Nat}{xs:List Opd}(hc:compOp0 P o=some (.bslice e es xs))(hs:Sim w A st)(he:EnvSim w A a env){ys:List V}(m1:ys.length=xs.length)
  (m2:∀(k:Nat) (x y:V),(xs.map (·.get env))[k]?=some x→ys[k]?=some y→∀v,Rep w A v x→Rep w A v y) (hall':∀y∈ys,partOk st y=true∧y.cells.length=es) :
  ∃(s:Sem Value) (cur:Array Value),execOp a.eval o=(do pure (.value (←s)))∧ys.length≤maxLen∧cur.size=ys.length*es ∧
   (∀(i j:Nat) (x c:V),ys[i]?=some x→x.cells[j]?=some c→∃v,cur[i*es+j]?=some v∧v.oneCell'=true∧Rep w A v c) ∧
   s.run P w=.ok (.slice (some ⟨w.heap.size,0,none⟩) ys.length ys.length) (w.alloc (.cells cur e (0,0))):=by
 obtain⟨t,len,parts,z,ho,ht,hn,hz,h1,h2,h3,h4⟩:=compOp_bslice hc
 obtain⟨r1,r2⟩:=reps_get (w:=w) (A:=A) he h4
 obtain⟨i,hi⟩:∃i,P.info? e=some i:=by
  cases hi:P.info? e with
  |none=>simp[sizeB,hi]at hn
  |some i=>exact⟨i,rfl⟩
 have hin:i.size=es:=by simp[sizeB,hi]at hn;exact hn
 obtain⟨zv,hzv⟩:∃zv,i.zero=some zv:=by
  unfold zeroB at hz
  rw[hi]at hz
  simp only[Option.bind_some]at hz
  cases hq:i.zero with
  |none=>rw[hq]at hz;cases hz
  |some v=>exact⟨v,rfl⟩
 let vs:List Value:=(parts.toList.map (·.2)).map a.eval
 have hvl:vs.length=ys.length:=by rw[m1];exact r1.trans (List.length_map _)
 have hrep:∀(k:Nat) (v:Value) (y:V),vs[k]?=some v→ys[k]?=some y→Rep w A v y∧v.cells.size=es∧(∀u∈v.cells.toList,u.oneCell'=true)∧∀(j:Nat) (u:Value) (c:V),v.cells[j]?=some u→y.cells[j]?=some c→Rep w A u c:=by
  intro k v y hv hy
  have hlt:k<(xs.map (·.get env)).length:=by have:=(List.getElem?_eq_some_iff.1 hy).1;simp;omega
  have hR:=m2 k _ y (List.getElem?_eq_getElem hlt) hy v (r2 k v _ hv (List.getElem?_eq_getElem hlt))
  obtain⟨q1,q2⟩:=hall' y (List.mem_of_getElem? hy)
  obtain⟨k1,k2,k3⟩:=hR.cells_inv hs q1
  exact⟨hR,by omega,k2,k3⟩
 have hsize:∀v∈vs,v.cells.size=es:=by
  intro v hv
  obtain⟨k,hk⟩:=List.mem_iff_getElem?.1 hv
  have hlt:k<ys.length:=by have:=(List.getElem?_eq_some_iff.1 hk).1;omega
  exact(hrep k v ys[k] hk (List.getElem?_eq_getElem hlt)).2.1
 have hlen:ys.length=len:=by
  rw[←hvl]
  have:=congrArg List.length h3
  simpa [vs] using this
 have hfm:(parts.map fun(i,x)=>(i,a.eval x)).toList.flatMap (fun p=>p.2.cells.toList)=vs.flatMap fun v=>v.cells.toList:=by
  simp[vs,List.flatMap_map]
 have hrun:=run_buildSlice' (P:=P) w (len:=len) (parts:=parts.map fun(i,x)=>(i,a.eval x)) ht hi hzv (by rw[hin];exact h1) (by rw[hin];exact h2) (by simpa [Function.comp_def] using h3) (fun p hp=>by
  rw[hin]
  simp only[Array.toList_map,List.mem_map]at hp
  obtain⟨q,hq,rfl⟩:=hp
  exact hsize _ (List.mem_map.2 ⟨q.2,List.mem_map.2 ⟨q,hq,rfl⟩,rfl⟩))
 rw[hfm]at hrun
 refine⟨_,(vs.flatMap fun v=>v.cells.toList).toArray,by unfold execOp;rw[ho],?_,by simp only[List.size_toArray,length_flatMap_cells es vs hsize,hvl],fun i' j y c hy hc=>?_,by rw[hlen];exact hrun⟩
 ·have:len*es≤2 ^ 24:=h1
  have h5:len≤len*es:=Nat.le_mul_of_pos_right _ h2
  simp only[maxLen];omega
 ·have hlt:i'<vs.length:=by have:=(List.getElem?_eq_some_iff.1 hy).1;omega
  obtain⟨q1,q2,q3,q4⟩:=hrep i' vs[i'] y (List.getElem?_eq_getElem hlt) hy
  have hjl:j<es:=by have:=(List.getElem?_eq_some_iff.1 hc).1;rw[(hall' y (List.mem_of_getElem? hy)).2]at this;exact this
  have hju:j<vs[i'].cells.size:=by omega
  refine⟨vs[i'].cells[j],?_,q3 _ (by simp),q4 j _ c (by simp[hju]) hc⟩
  rw[List.getElem?_toArray,flatMap_get es vs i' j vs[i'] hsize (List.getElem?_eq_getElem hlt) hjl]
  simp[hju]
theorem stv_sound0 {o:Oper}{so:SOp}{d:V}{st':St}(hc:compOp0 P o=some so)(hs:Sim w A st)(he:EnvSim w A a env)(h:stv so env st=some (d,st')):Does P w A (execOp a.eval o) d st':=by
 cases so with
 |act g xs=>exact(noact hc).elim
 |alloc T z =>
  obtain⟨ho,hz⟩:=compOp_alloc hc
  cases h
  have:=does_alloc (P:=P) hs hz
  unfold execOp;rw[ho];exact this
 |box T x =>
  obtain⟨y,ho,hy⟩:=compOp_box hc
  simp only[stv]at h
  split at h
  ·rename_i hp
   cases h
   have:=does_box (P:=P) (t:=T) hs (rep_get he hy) hp
   unfold execOp;rw[ho];exact this
  ·cases h
 |store n p x =>
  obtain⟨t,q,y,ho,ht,hq,hy⟩:=compOp_store hc
  simp only[stv]at h
  obtain⟨s,hst,e⟩:=Option.map_eq_some_iff.1 h
  cases e
  have:=does_store hs ht (rep_get he hq) (rep_get he hy) hst
  unfold execOp;rw[ho];exact this
 |append e es bytes s x =>
  obtain⟨t,c,i,z,p,q,ho,hcal,hat,hargs,hp,hq,ht,hi,hz,h1,h2,h3,h4⟩:=compOp_append hc
  subst h3 h4
  obtain⟨u,w',A',g1,g2,g3,g4⟩:=append_sound (ty:=o.type) ht hi hz h1 h2 hs (rep_get he hp) (rep_get he hq) h
  refine⟨.value u,w',A',?_,.inl ⟨u,rfl,g2⟩,g3,g4⟩
  unfold execOp
  rw[ho]
  simp only[resolve,hcal,hargs,hat,Sem.run_bind,Sem.run_pure,Result.andThen_ok,invoke,builtin]
  simp[g1]
 |bslice e es xs =>
  simp only[stv]at h
  split at h
  ·rename_i ys hys
   split at h
   ·rename_i hall
    cases h
    have hall':∀y∈ys,partOk st y=true∧y.cells.length=es:=by simpa using hall
    obtain⟨m1,m2⟩:=mapO_spec hys
    obtain⟨s,cur,e1,e2,e3,e4,e5⟩:=bsl_run hc hs he (by simpa using m1) (fun k x y hx hy v hv=>snapA_rep hs hv (m2 k x y hx hy)) hall'
    rw[e1]
    exact does_newArr (P:=P) (w0:=w) (wr:=false) (fz:=false) hs ⟨rfl,rfl,rfl,rfl⟩ (fun y hy=>(hall' y hy).2) (Nat.le_refl _) e2 e3 e4 e5
   ·cases h
  ·cases h
 |mkslice e es bytes b z l c =>
  obtain⟨t,p,q,i,ho,ht,hp,hq,hn,hz,hi,h0,hby⟩:=compOp_mkslice hc
  subst hby
  simp only[stv]at h
  split at h
  ·rename_i l' c' y hl hcc hy
   split at h
   ·rename_i hcond
    cases h
    have:=does_mkslice (P:=P) hs ht hi hn hz h0 (rep_get he hp) (rep_get he hq) hl hcc hcond.1 hcond.2.1 (elemZ_cells hy) hcond.2.2
    unfold execOp;rw[ho];exact this
   ·cases h
  ·cases h
 |cvsb e x =>
  obtain⟨s,t,y,ho,h1,h2,h3,hy⟩:=compOp_cvsb hc
  simp only[stv]at h
  have hr:=rep_get (w:=w) (A:=A) he hy
  split at h
  ·rename_i s' hs'
   split at h
   ·rename_i hl
    cases h
    rw[hs']at hr
    have hv:=hr.str_inv
    have:=does_cvsb (P:=P) hs h1 h2 h3 hl
    unfold execOp;rw[ho];simp only[hv];exact this
   ·cases h
  ·cases h
 |_=>exact does_of_evs hc hs he h
end
end Go.Sha
