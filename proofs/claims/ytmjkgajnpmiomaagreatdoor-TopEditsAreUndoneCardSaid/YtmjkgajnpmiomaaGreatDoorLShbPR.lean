/- What keeps slices in slices as they are. -/
import Derived.Test.YtmjkgajnpmiomaaGreatDoorLShbP
set_option linter.unusedSimpArgs false
set_option linter.unusedVariables false
namespace Go.Sha
section
variable {P:Program}{N:Fr}
def appR (st:St)(e es bytes:Nat)(s x:V):Option (V×St):=match elemsV st x with
 |some ys=>if ys.all (fun y=>y.cells.length == es)=true then appG st e es bytes ys s else none
 |none=>none
def bslR (st:St)(e es:Nat)(wr:Bool)(ys:List V):Option (V×St):=if ys.all (fun y=>partOk st y&&y.cells.length == es)=true then some (newArr st e es ys wr false) else none
def storeR (st:St)(n:Nat)(a x:V):Option St :=
 if partOk st x=true∧x.cells.length=n then match a with
  | .op id m i es off=>match look st.arr id with
   |some r=>if r.xs.length=m∧r.es=es∧r.wr=true∧off+n≤es then match r.xs[i]? with
    |some y=>(y.recell (y.cells.take off++x.cells++y.cells.drop (off+n))).map fun y'=>{ st with arr:=updA st.arr id { r with xs:=r.xs.set i y' } }
    |none=>none
    else none
   |none=>none
  |_=>none
 else none
def stR (wr:Bool)(op:SOp)(env:Env)(st:St):Option (V×St):=match op with
 | .append e es bytes s x=>appR st e es bytes (s.get env) (x.get env)
 | .bslice e es xs=>bslR st e es wr (xs.map (·.get env))
 | .store n a x=>(storeR st n (a.get env) (x.get env)).map fun s=>(.und,s)
 |_=>none
theorem appR_sound {w:World}{A:Abs}{st:St}{t ty e:TypeId}{i:TypeInfo}{z:Value}(ht:P.underlying t=some (.slice e))(hi:P.info? e=some i)(hz:i.zero=some z)(hsz:0<i.size)(hzs:z.cells.size=i.size)(hs:Sim w A st)
  {s x:Value}{ds dx d:V}{st':St} (rs:Rep w A s ds) (rx:Rep w A x dx) (h:appR st e i.size i.bytes ds dx=some (d,st')) :
  ∃u w' A',(Builtin.append_ #[t,t] ty #[s,x]).run P w=.ok u w'∧Rep w' A' u d∧Sim w' A' st'∧Ext w A w' A':=by
 unfold appR at h
 split at h
 ·rename_i ys h1
  split at h
  ·rename_i h3
   have h3':∀y∈ys,y.cells.length=i.size:=by simpa using h3
   obtain⟨b,c,rfl,_,s1,s2⟩:=slice_read hs rx h1 h3'
   obtain⟨news,src,n4⟩:∃news,AppSrc P w t t ty e i z (.slice b ys.length c) ys.length news∧∀(i' j:Nat) (x c:V),ys[i']?=some x→x.cells[j]?=some c→∃v,news[i'*i.size+j]?=some v∧v.oneCell'=true∧Rep w A v c:=by
    cases b with
    |none =>
     have hys:=s1 rfl
     subst hys
     exact⟨[],⟨by simp,by simp,fun _ base n cap hc=>run_append_empty ht hi w hc,fun h=>absurd h (Nat.lt_irrefl 0),fun h=>absurd h (Nat.lt_irrefl 0),fun h=>absurd h (Nat.lt_irrefl 0)⟩,fun i' j x c hx=>by simp at hx⟩
    |some ad =>
     obtain⟨cs,q1,q2,q3,q4⟩:=s2 ad rfl
     refine⟨cs,⟨q1,q3,fun h0 base n cap hc=>?_,fun a b c'=>run_append_nil (P:=P) w t ty e i z ht hi hz ad ys.length c cs q1 q2 a b c',
      fun _ g sLen sCap cur hg hroom hfit=>run_append_room (P:=P) w t ty e i ht hi g sLen sCap cur hg ad ys.length c cs q1 q2 q3 hroom hfit,
      fun _ b sLen sCap olds o1 o2 a b' c'=>run_append_grow (P:=P) w t ty e i z ht hi hz b sLen sCap olds o1 o2 ad ys.length c cs q1 q2 a b' c'⟩,fun i' j y c hy hc=>?_⟩
     ·rw[h0];exact run_append_empty ht hi w hc
     ·obtain⟨v,v1,v2⟩:=q4 i' j y c hy hc
      exact⟨v,v1,q3 v (List.mem_of_getElem? v1),v2⟩
   exact appG_sound hz hsz hzs hs src n4 h3' rs h
  ·cases h
 ·cases h
theorem does_storeR {w:World}{A:Abs}{st:St}(hs:Sim w A st){t:TypeId}{n:Nat}(ht:sizeB P t=some n){p x:Value}{dp dx:V}{st':St}(rp:Rep w A p dp)(rx:Rep w A x dx)(h:storeR st n dp dx=some st') :
  Does P w A (do Instr.storeAt t p x;pure .skip) .und st':=by
 apply Does.of_unit
 unfold storeR at h
 split at h
 ·rename_i hc
  obtain⟨c1,c2⟩:=hc
  obtain⟨k1,k2,k3⟩:=rx.cells_inv hs c1
  have hsize:x.cells.size=n:=by omega
  cases rp with
  |op id m i es off v hid hn hv =>
   simp only at h
   split at h
   ·rename_i r hr
    split at h
    ·rename_i hc
     obtain⟨d1,d2,d3,d4⟩:=hc
     split at h
     ·rename_i y hy
      obtain⟨y',hy',rfl⟩:=Option.map_eq_some_iff.1 h
      have hk:=hs.arr id r hr
      rcases hk.row with⟨r1,r2,_⟩|⟨g,cap,cur,r1,_⟩
      ·rw[r2]at hy;simp at hy
      ·obtain⟨w',g1,g2,g3⟩:=store_elem (P:=P) hs hr d3 r1 hy (us:=x.cells.toList) (ds:=dx.cells) (off:=off) (y':=y') (by simp;omega) k2 (fun j u c hu hc=>k3 j u c (by simpa using hu) hc) (by omega) (by rw[c2];exact recell_cells hy')
       have hv':=hv (by rw[hk.ln];exact d1.symm) g cap (by rw[r1,d1])
       subst hv'
       refine⟨w',A,?_,g3,g2⟩
       rw[d2]at g1
       simp only[Instr.storeAt,Instr.sureAddr,Sem.run_bind,Sem.run_pure,Result.andThen_ok,storeVar,sizeB_eq ht,hsize,ne_eq,not_true_eq_false,if_false]
       exact g1
     ·cases h
    ·cases h
   ·cases h
  |_=>cases h
 ·cases h
theorem stR_congr {wr:Bool}{env env':Env}{st:St}{so:SOp}(h:∀s∈so.slots,look env s=look env' s):stR wr so env st=stR wr so env' st:=by
 cases so with
 |store n a x =>
  simp only[SOp.slots,List.mem_append]at h
  simp only[stR];rw[Opd.get_congr (fun s hs=>h s (.inl hs)),Opd.get_congr (fun s hs=>h s (.inr hs))]
 |append e es bytes s x =>
  simp only[SOp.slots,List.mem_append]at h
  simp only[stR];rw[Opd.get_congr (fun s hs=>h s (.inl hs)),Opd.get_congr (fun s hs=>h s (.inr hs))]
 |bslice e es xs=>simp only[stR];rw[gets_congr (by simpa [SOp.slots] using h)]
 |_=>rfl
theorem stR_sound {w:World}{A:Abs}{st:St}{a:Act}{env:Env}{o:Oper}{so:SOp}{wr:Bool}{d:V}{st':St}(hc:compOp P o=some so)(hs:Sim w A st)(he:EnvSim w A a env)(h:stR wr so env st=some (d,st')):Does P w A (execOp a.eval o) d st':=by
 cases so with
 |append e es bytes s x =>
  have hc:compOp0 P o=some (.append e es bytes s x):=by
   rcases compOp_cases hc with hc|hc
   ·exact hc
   ·cases hc
  obtain⟨t,c,i,z,p,q,ho,hcal,hat,hargs,hp,hq,ht,hi,hz,h1,h2,h3,h4⟩:=compOp_append hc
  subst h3 h4
  obtain⟨u,w',A',g1,g2,g3,g4⟩:=appR_sound (ty:=o.type) ht hi hz h1 h2 hs (rep_get he hp) (rep_get he hq) h
  refine⟨.value u,w',A',?_,.inl ⟨u,rfl,g2⟩,g3,g4⟩
  unfold execOp
  rw[ho]
  simp only[resolve,hcal,hargs,hat,Sem.run_bind,Sem.run_pure,Result.andThen_ok,invoke,builtin]
  simp[g1]
 |bslice e es xs =>
  have hc:compOp0 P o=some (.bslice e es xs):=by
   rcases compOp_cases hc with hc|hc
   ·exact hc
   ·cases hc
  simp only[stR,bslR]at h
  split at h
  ·rename_i hall
   cases h
   have hall':∀y∈xs.map (·.get env),partOk st y=true∧y.cells.length=es:=by simpa using hall
   obtain⟨s,cur,e1,e2,e3,e4,e5⟩:=bsl_run hc hs he (by simp) (fun k x y hx hy v hv=>by rw[hx]at hy;cases hy;exact hv) hall'
   rw[e1]
   exact does_newArr (P:=P) (w0:=w) (wr:=wr) (fz:=false) hs ⟨rfl,rfl,rfl,rfl⟩ (fun y hy=>(hall' y hy).2) (Nat.le_refl _) e2 e3 e4 e5
  ·cases h
 |store n p x =>
  have hc:compOp0 P o=some (.store n p x):=by
   rcases compOp_cases hc with hc|hc
   ·exact hc
   ·cases hc
  obtain⟨t,q,y,ho,ht,hq,hy⟩:=compOp_store hc
  simp only[stR]at h
  obtain⟨s1,hst,e⟩:=Option.map_eq_some_iff.1 h
  cases e
  have:=does_storeR hs ht (rep_get he hq) (rep_get he hy) hst
  unfold execOp
  rw[ho]
  exact this
 |_=>cases h
end
end Go.Sha
