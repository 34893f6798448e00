/- Soundness of 'evs'. -/
import Derived.Test.YtmjkgajnpmiomaaGreatDoorLShbG
set_option linter.unusedSimpArgs false
set_option linter.unusedVariables false
namespace Go.Sha
section
variable {P:Program}{w:World}{A:Abs}{st:St}{a:Act}{env:Env}
def GivesV (P:Program)(w:World)(A:Abs)(s:Sem Next)(d:V):Prop:=∃u,s.run P w=.ok (.value u) w∧Rep w A u d
theorem Gives.v {s:Sem Value}{d:V}(h:Gives P w A s d):GivesV P w A (do pure (.value (←s))) d:=by
 obtain⟨u,h1,h2⟩:=h
 exact⟨u,by simp only[Sem.run_bind,h1,Result.andThen_ok,Sem.run_pure],h2⟩
theorem optOpd_rep (he:EnvSim w A a env){x:Option Operand}{o:Option Opd}(h:optOpd x=some o):(x.map a.eval).isSome=(o.map (·.get env)).isSome ∧
  ∀v d,x.map a.eval=some v→o.map (·.get env)=some d→Rep w A v d:=by
 cases x with
 |none=>simp[optOpd]at h;subst h;simp
 |some x =>
  simp[optOpd]at h
  obtain⟨q,hq,rfl⟩:=h
  refine⟨rfl,fun v d hv hd=>?_⟩
  simp at hv hd;subst hv hd
  exact rep_get he hq
theorem guardScalar (op:BinOp)(t:TypeId)(x y:Operand){u v:Value}(g1:∀cs,u≠.agg cs)(g2:u≠.nilIface):(eqGuard op t x y u v).run P w=.ok () w:=by
 unfold eqGuard
 cases op<;>try rfl
 all_goals (cases u<;>first|rfl|exact absurd rfl (g1 _)|exact absurd rfl g2)
theorem opdsOf_cons {xs:List Operand}{o:Opd}{os:List Opd}(h:opdsOf xs=some (o::os)):∃y ys,xs=y::ys∧opdOf y=some o∧opdsOf ys=some os:=by
 cases xs with
 |nil=>simp[opdsOf]at h
 |cons y ys =>
  simp only[opdsOf]at h
  split at h
  ·rename_i c cs h1 h2;cases h;exact⟨y,ys,rfl,h1,h2⟩
  ·cases h
theorem opdsOf_nil {xs:List Operand}(h:opdsOf xs=some []):xs=[]:=by
 cases xs with
 |nil=>rfl
 |cons y ys =>
  simp only[opdsOf]at h
  split at h<;>cases h
theorem cviV_inv {k:IntKind}{x:Value}{dx d:V}(hx:Rep w A x dx)(h:cviV k dx=some d):∃k0 n0,x=.int k0 n0∧d=.int k (k.wrap n0):=by
 cases hx<;>first|(cases h;done)|skip
 cases h;exact⟨_,_,rfl,rfl⟩
theorem cvisV_inv {x:Value}{dx d:V}(hx:Rep w A x dx)(h:cvisV dx=some d):∃k0 n0,x=.int k0 n0∧d=.str (Utf8.encode n0).data.toList:=by
 cases hx<;>first|(cases h;done)|skip
 cases h;exact⟨_,_,rfl,rfl⟩
theorem cvssV_inv {x:Value}{dx d:V}(hx:Rep w A x dx)(h:cvssV dx=some d):∃s:List UInt8,x=.string ⟨s.toArray⟩∧d=.str s:=by
 cases hx<;>first|(cases h;done)|skip
 cases h;exact⟨_,rfl,rfl⟩
theorem evs_sound0 {o:Oper}{so:SOp}{d:V}(hc:compOp0 P o=some so)(hs:Sim w A st)(he:EnvSim w A a env)(hv:evs so env st=some d):GivesV P w A (execOp a.eval o) d:=by
 unfold compOp0 at hc
 unfold execOp
 split at hc
 ·rename_i x ho
  obtain⟨ox,hx,rfl⟩:=Option.map_eq_some_iff.1 hc
  rw[ho];cases hv
  exact⟨_,rfl,rep_get he hx⟩
 ·rename_i x ho
  obtain⟨ox,hx,rfl⟩:=Option.map_eq_some_iff.1 hc
  rw[ho];cases hv
  exact⟨_,rfl,rep_get he hx⟩
 ·rename_i c x y ho
  split at hc
  ·rename_i oc ox oy h1 h2 h3
   cases hc;rw[ho]
   obtain⟨u,g1,g2⟩:=gives_pick (P:=P) (rep_get he h1) (rep_get he h2) (rep_get he h3) hv
   refine⟨u,?_,g2⟩
   simp only[Sem.run_bind,Sem.run_pure]at g1 ⊢
   cases hb:(asBool (a.eval c)).run P w with
   |ok b w'=>simp only[hb,Result.andThen_ok]at g1 ⊢;cases g1;rfl
   |halt h w'=>simp[hb]at g1
  ·cases hc
 ·obtain⟨z,hz,rfl⟩:=Option.map_eq_some_iff.1 hc;cases hv
 ·obtain⟨z,hz,rfl⟩:=Option.map_eq_some_iff.1 hc;cases hv
 ·-- build
  rename_i t parts ho
  rw[ho]
  split at hc
  ·rename_i z fs hz ht
   split at hc
   ·cases hc
   ·rename_i hall
    obtain⟨ps,hp,rfl⟩:=Option.map_eq_some_iff.1 hc
    exact(gives_build_struct ht hz hs he hp (fun f hf=>List.all_eq_true.1 (by cases hb:fs.toList.all (fun f=>(sizeB P f.type).isSome) with|true=>rfl|false=>exact absurd hb hall) f hf) hv).v
  ·rename_i z len e hz ht
   split at hc
   ·rename_i n hn
    obtain⟨ps,hp,rfl⟩:=Option.map_eq_some_iff.1 hc
    exact(gives_build_array ht hn hz hs he hp hv).v
   ·cases hc
  ·cases hc
 ·-- load
  rename_i t x ho
  rw[ho]
  split at hc
  ·rename_i n ox ht hx
   cases hc
   exact(gives_load ht hs (rep_get he hx) hv).v
  ·cases hc
 ·split at hc
  ·cases hc;cases hv
  ·cases hc
 ·-- nilCheck
  rename_i x ho
  rw[ho]
  obtain⟨ox,hx,rfl⟩:=Option.map_eq_some_iff.1 hc
  have hr:=rep_get (w:=w) (A:=A) he hx
  rcases gives_nilc hr hv with⟨⟨q,hq⟩,rfl⟩|⟨⟨f,p,q,hq⟩,rfl⟩
  ·exact⟨a.eval x,by simp only[hq];rfl,hr⟩
  ·exact⟨a.eval x,by simp only[hq];rfl,hr⟩
 ·-- binOp
  rename_i op t x y yt ho
  rw[ho]
  split at hc
  ·rename_i ox oy h1 h2
   have rx:=rep_get (w:=w) (A:=A) he h1
   have ry:=rep_get (w:=w) (A:=A) he h2
   have noguard:∀(s:Sem Value) (hb:Gives P w A s d),(eqGuard op t x y (a.eval x) (a.eval y)).run P w=.ok () w→Gives P w A (do eqGuard op t x y (a.eval x) (a.eval y);s) d:=by
    intro s ⟨u,g1,g2⟩ hg
    exact⟨u,by simp only[Sem.run_bind,hg,Result.andThen_ok,g1],g2⟩
   have binScalar:∀d',binV op (ox.get env) (oy.get env)=some d'→(∀cs,a.eval x≠.agg cs)∧(a.eval x≠.nilIface):=by
    intro d' hb
    unfold binV at hb
    generalize hdx:ox.get env=dx at *
    generalize a.eval x=vx at *
    cases rx<;>simp at hb<;>exact⟨(fun _ h=>by cases h),(fun h=>by cases h)⟩
   split at hc
   ·rename_i hop
    split at hc
    ·cases hc
     exact(noguard _ (gives_bin rx ry hv) (guardScalar _ _ _ _ (binScalar _ hv).1 (binScalar _ hv).2)).v
    ·cases hc
     exact(noguard _ (gives_bin rx ry hv) (guardScalar _ _ _ _ (binScalar _ hv).1 (binScalar _ hv).2)).v
    ·rename_i ht
     cases hc
     have hbx:∃b,a.eval x=.bool b:=by
      simp only[evs,eqbV]at hv
      generalize ox.get env=dx at *
      generalize a.eval x=vx at *
      cases rx<;>first|exact⟨_,rfl⟩|(cases hv;done)|skip
     obtain⟨b,hb⟩:=hbx
     refine(noguard _ (gives_eqb (ne:=op=.neq) ht ?_ rx ry hv) (guardScalar _ _ _ _ (fun _ h=>by rw[hb]at h;cases h) (fun h=>by rw[hb]at h;cases h))).v
     rcases hop with rfl|rfl<;>rfl
    ·rename_i fs ht
     split at hc
     ·rename_i hg
      obtain⟨ks,hks,rfl⟩:=Option.map_eq_some_iff.1 hc
      obtain⟨g,p,q,hp,hq⟩:=gives_eqs (P:=P) (op:=op) (ne:=op=.neq) (eqBy_flat 60 t ks hks 10000 (by omega)) (by simp[isAggB,ht]) (by rcases hop with rfl|rfl<;>rfl) rx ry hv
      exact(noguard _ g (by rw[hp,hq];exact run_eqGuard_agg w op t x y p q hg)).v
     ·cases hc
    ·rename_i n e ht
     split at hc
     ·rename_i hg
      obtain⟨ks,hks,rfl⟩:=Option.map_eq_some_iff.1 hc
      obtain⟨g,p,q,hp,hq⟩:=gives_eqs (P:=P) (op:=op) (ne:=op=.neq) (eqBy_arr (by omega) ht hks) (by simp[isAggB,ht]) (by rcases hop with rfl|rfl<;>rfl) rx ry hv
      exact(noguard _ g (by rw[hp,hq];exact run_eqGuard_agg w op t x y p q hg)).v
     ·cases hc
    ·cases hc
   ·cases hc
    exact(noguard _ (gives_bin rx ry hv) (guardScalar _ _ _ _ (binScalar _ hv).1 (binScalar _ hv).2)).v
  ·cases hc
 ·-- unOp
  rename_i op t x ho
  rw[ho]
  obtain⟨ox,hx,rfl⟩:=Option.map_eq_some_iff.1 hc
  have rx:=rep_get (w:=w) (A:=A) he hx
  cases op
  ·exact(gives_un_neg rx hv).v
  ·simp[evs,unV]at hv
  ·exact(gives_un_not rx hv).v
  ·simp[evs,unV]at hv
 ·-- fieldAddr
  rename_i s x f ho
  rw[ho]
  split at hc
  ·rename_i fd ox hf hx
   split at hc
   ·cases hc
   ·rename_i hz
    cases hc
    have rx:=rep_get (w:=w) (A:=A) he hx
    exact(gives_fadr hf hz rx (fun id n i es off hd hal=>by rw[hd]at rx;exact op_alive hs rx hal) hv).v
  ·cases hc
 ·-- field
  rename_i s x f ho
  rw[ho]
  split at hc
  ·rename_i fd ox hf hx
   obtain⟨n,hn,rfl⟩:=Option.map_eq_some_iff.1 hc
   exact(gives_fld hf hn (rep_get he hx) hv).v
  ·cases hc
 ·-- indexAddr
  rename_i t x i ho
  rw[ho]
  split at hc
  ·rename_i e ox oi ht hx hi
   obtain⟨n,hn,rfl⟩:=Option.map_eq_some_iff.1 hc
   exact(gives_iadr ht hn hs (rep_get he hx) (rep_get he hi) hv).v
  ·rename_i len e ox oi ht hx hi
   obtain⟨n,hn,rfl⟩:=Option.map_eq_some_iff.1 hc
   exact(gives_iadra ht hn (rep_get he hx) (rep_get he hi) hv).v
  ·cases hc
 ·-- index
  rename_i t x i ho
  rw[ho]
  split at hc
  ·rename_i ox oi ht hx hi
   cases hc
   exact(gives_ichr ht (rep_get he hx) (rep_get he hi) hv).v
  ·cases hc
 ·-- slice
  rename_i t x lo hi mx ho
  rw[ho]
  split at hc
  ·rename_i ox olo ohi ht hx hlo hhi hmx
   cases hc
   have hm:mx=none:=by
    cases mx with
    |none=>rfl
    |some y=>simp[optOpd]at hmx
   subst hm
   obtain⟨a1,a2⟩:=optOpd_rep (w:=w) (A:=A) he hlo
   obtain⟨b1,b2⟩:=optOpd_rep (w:=w) (A:=A) he hhi
   exact(gives_slices ht (rep_get he hx) a1 b1 a2 b2 hv).v
  ·rename_i e ox olo ohi omx ht hx hlo hhi hmx
   split at hc
   ·rename_i n hn
    split at hc
    ·cases hc
    ·rename_i hmh
     cases hc
     obtain⟨a1,a2⟩:=optOpd_rep (w:=w) (A:=A) he hlo
     obtain⟨b1,b2⟩:=optOpd_rep (w:=w) (A:=A) he hhi
     obtain⟨c1,c2⟩:=optOpd_rep (w:=w) (A:=A) he hmx
     exact(gives_slice ht hn hs (rep_get he hx) a1 b1 c1 a2 b2 c2 (fun h=>by
      cases mx with
      |none=>cases h
      |some y=>cases hi with
       |none=>exfalso;simp[optOpd]at hhi;subst hhi;simp at c1 hmh;rw[hmh]at c1;cases c1
       |some z=>rfl) hv).v
   ·cases hc
  ·cases hc
 ·-- extract
  rename_i x i ho
  rw[ho]
  obtain⟨ox,hx,rfl⟩:=Option.map_eq_some_iff.1 hc
  exact(gives_ext (rep_get he hx) hv).v
 ·-- makeFunc
  rename_i fn first caps ho
  rw[ho]
  split at hc
  ·rename_i l1 l2 h1 h2
   cases hc;cases hv
   obtain⟨a1,a2⟩:=reps_get (w:=w) (A:=A) he h1
   obtain⟨b1,b2⟩:=reps_get (w:=w) (A:=A) he h2
   refine⟨.func fn (first.map a.eval) (caps.map a.eval),rfl,?_⟩
   have:=Rep.fn (w:=w) (A:=A) fn _ _ _ _ a1 b1 a2 b2
   rw[←Array.toList_map,←Array.toList_map,Array.toArray_toList,Array.toArray_toList]at this
   exact this
  ·cases hc
 ·-- makeInterface
  rename_i t x ho
  rw[ho]
  split at hc
  ·cases hc
  ·rename_i u ox hne hu hx
   cases hc;cases hv
   refine Gives.v ⟨.iface t (a.eval x),?_,.iface t _ _ (rep_get he hx)⟩
   simp only[Instr.makeInterface,Sem.run_bind,run_underlying hu,Result.andThen_ok]
   rfl
  ·cases hc
 ·-- convert
  rename_i s t x ho
  rw[ho]
  split at hc
  ·rename_i k k' ox h1 h2 hx
   cases hc
   obtain⟨k0,n0,e,rfl⟩:=cviV_inv (rep_get (w:=w) (A:=A) he hx) hv
   refine Gives.v ⟨_,?_,.int _ _⟩
   simp only[convert,Sem.run_bind,run_underlying h1,run_underlying h2,Result.andThen_ok,Conv.intToInt,e]
   rfl
  ·rename_i k ox h1 h2 hx
   cases hc
   obtain⟨k0,n0,e,rfl⟩:=cvisV_inv (rep_get (w:=w) (A:=A) he hx) hv
   refine Gives.v ⟨.string _,?_,.str (Utf8.encode _).data.toList⟩
   simp only[convert,Sem.run_bind,run_underlying h1,run_underlying h2,Result.andThen_ok,Conv.intToString,e]
   rfl
  ·rename_i ox h1 h2 hx
   cases hc
   obtain⟨s0,e,rfl⟩:=cvssV_inv (rep_get (w:=w) (A:=A) he hx) hv
   refine Gives.v ⟨_,?_,.str _⟩
   simp only[convert,Sem.run_bind,run_underlying h1,run_underlying h2,Result.andThen_ok,e]
   rfl
  ·split at hc
   ·cases hc;cases hv
   ·cases hc
  ·rename_i e ox h1 h2 hx
   split at hc
   ·rename_i hb
    cases hc
    have rx:=rep_get (w:=w) (A:=A) he hx
    have hue:P.underlying e=some (.int .u8):=by
     unfold isElemByte at hb
     split at hb
     ·assumption
     ·cases hb
    obtain⟨u,g1,g2⟩:=gives_cvbs (P:=P) hs rx hv
    refine Gives.v ⟨u,?_,g2⟩
    have hform:∃b n c,a.eval x=.slice b n c:=by
     simp only[evs,cvbsV]at hv
     split at hv
     ·rename_i xs hxs
      obtain⟨b,cap,hh,_⟩:=slice_form hs rx hxs
      exact⟨_,_,_,hh⟩
     ·cases hv
    obtain⟨b,n,c,hf⟩:=hform
    rw[hf]at g1 ⊢
    simp only[convert,Sem.run_bind,run_underlying h1,run_underlying h2,Result.andThen_ok,run_underlying hue]
    exact g1
   ·cases hc
  ·cases hc
 ·-- buildSlice
  split at hc
  ·split at hc
   ·split at hc
    ·obtain⟨ps,_,rfl⟩:=Option.map_eq_some_iff.1 hc;cases hv
    ·cases hc
   ·cases hc
  ·cases hc
 ·-- makeSlice
  split at hc
  ·split at hc
   ·split at hc
    ·cases hc;cases hv
    ·cases hc
   ·cases hc
  ·cases hc
 ·-- call
  rename_i c ho
  rw[ho]
  split at hc
  ·split at hc
   ·cases hc;cases hv
   ·cases hc
  ·rename_i hcal
   split at hc
   ·rename_i t x hat hargs
    have hargs':∃y,c.args=#[y]∧opdOf y=some x:=by
     obtain⟨y,ys,h1,h2,h3⟩:=opdsOf_cons hargs
     have:=opdsOf_nil h3;subst this
     exact⟨y,by rw[←Array.toArray_toList (xs:=c.args),h1],h2⟩
    obtain⟨y,hy,hx⟩:=hargs'
    have hat':c.argTypes=#[t]:=by rw[←Array.toArray_toList (xs:=c.argTypes),hat]
    have hrun:∀(s:Sem Value) (u:Value),(Builtin.len_ #[t] o.type #[a.eval y]).run P w=.ok u w→(do let d ←resolve a.eval c o.type;invoke d.target d.args:Sem Next).run P w=.ok (.value u) w:=by
     intro s u hu
     simp only[resolve,hcal,hy,hat',Sem.run_bind,Sem.run_pure,Result.andThen_ok,invoke,builtin]
     simp[hu]
    split at hc
    ·rename_i ht
     cases hc
     obtain⟨u,g1,g2⟩:=gives_lens (P:=P) (ty:=o.type) ht (rep_get he hx) hv
     exact⟨u,hrun (pure u) u g1,g2⟩
    ·rename_i e ht
     cases hc
     obtain⟨u,g1,g2⟩:=gives_len (P:=P) (ty:=o.type) ht hs (rep_get he hx) hv
     exact⟨u,hrun (pure u) u g1,g2⟩
    ·cases hc
   ·cases hc
  ·split at hc
   ·split at hc
    ·split at hc
     ·split at hc
      ·split at hc
       ·split at hc
        ·cases hc;cases hv
        ·cases hc
       ·cases hc
      ·cases hc
     ·cases hc
    ·cases hc
   ·cases hc
  ·cases hc
 ·obtain⟨z,hz,rfl⟩:=Option.map_eq_some_iff.1 hc;cases hv
 ·cases hc
end
end Go.Sha
