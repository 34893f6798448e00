/- The evaluator's word is a contract. -/
import Derived.Test.YtmjkgajnpmiomaaGreatDoorLShbV
import Derived.LoopN
set_option linter.unusedSimpArgs false
set_option linter.unusedVariables false
namespace Go.Sha
section
variable {P:Program}{N:Fr}{w:World}{A B:Abs}{st:St}{E:EvF}
theorem Rep.data {v:Value}{d:V}(h:Rep w A v d)(hC:∀b o,A.C b o→B.C b o):d.bd 0=true→Rep w B v d:=by
 induction h with
 |und v=>exact fun _=>.und v
 |bool b=>exact fun _=>.bool b
 |int k n=>exact fun _=>.int k n
 |str s=>exact fun _=>.str s
 |nilp=>exact fun _=>.nilp
 |nils=>exact fun _=>.nils
 |sl xs b o cap es cell hes hcap hm hc hr ih =>
  intro hb
  simp only[V.bd]at hb
  exact .sl xs b o cap es cell hes hcap hm (fun i j x c hi hj=>⟨hC _ _ (hc i j x c hi hj).1,(hc i j x c hi hj).2⟩) (fun i j x c hi hj=>ih i j x c hi hj (bd_cells (bdL_iff.1 hb x (List.mem_of_getElem? hi)) (List.mem_of_getElem? hj)))
 |slnil a=>exact fun _=>.slnil a
 |clip a xs h ih=>intro hb;exact .clip a xs (ih hb)
 |ep x off b o cell hc hr ih =>
  intro hb
  simp only[V.bd]at hb
  exact .ep x off b o cell (fun j c hj=>⟨hC _ _ (hc j c hj).1,(hc j c hj).2⟩) (fun j c hj=>ih j c hj (bd_cells hb (List.mem_of_getElem? hj)))
 |agg vs cs hl h1 hr ih =>
  intro hb
  simp only[V.bd]at hb
  exact .agg vs cs hl h1 (fun i v c hv hc=>ih i v c hv hc (bdL_iff.1 hb c (List.mem_of_getElem? hc)))
 |tup vs cs hl hr ih =>
  intro hb
  simp only[V.bd]at hb
  exact .tup vs cs hl (fun i v c hv hc=>ih i v c hv hc (bdL_iff.1 hb c (List.mem_of_getElem? hc)))
 |fn f vs us cs ds hl hk hr hs ih ih2 =>
  intro hb
  simp only[V.bd,Bool.and_eq_true]at hb
  exact .fn f vs us cs ds hl hk (fun i v c hv hc=>ih i v c hv hc (bdL_iff.1 hb.1 c (List.mem_of_getElem? hc))) (fun i v c hv hc=>ih2 i v c hv hc (bdL_iff.1 hb.2 c (List.mem_of_getElem? hc)))
 |nilf=>exact fun _=>.nilf
 |iface t v d h ih=>intro hb;exact .iface t v d (ih hb)
 |nili=>exact fun _=>.nili
 |nilm=>exact fun _=>.nilm
 |mpc b ms clock ks vs ho hh hl hk hr hs ih ih2 =>
  intro hb
  simp only[V.bd,Bool.and_eq_true]at hb
  exact .mpc b ms clock ks vs (hC _ _ ho) hh hl hk (fun i v c hv hc=>ih i v c hv hc (bdL_iff.1 hb.1 c (List.mem_of_getElem? hc))) (fun i v c hv hc=>ih2 i v c hv hc (bdL_iff.1 hb.2 c (List.mem_of_getElem? hc)))
 |ptr id off h=>intro hb;simp[V.bd]at hb
 |osl id m v h hn hv=>intro hb;simp[V.bd]at hb
 |op id m i es off v h hn hv=>intro hb;simp[V.bd]at hb
 |win id m l h es v h1 hn hv=>intro hb;simp[V.bd]at hb
 |mp id h=>intro hb;simp[V.bd]at hb
theorem Reps.data {vs:List Value}{ds:List V}(h:Reps w A vs ds)(hC:∀b o,A.C b o→B.C b o)(hb:V.bdL 0 ds=true):Reps w B vs ds :=
 ⟨h.1,fun i v c h1 h2=>(h.2 i v c h1 h2).data hC (bdL_iff.1 hb c (List.mem_of_getElem? h2))⟩
def Abs.shut (A:Abs):Abs:={ A with C:=fun b o=>A.C b o∨∃id,A.own b=some id }
theorem Ext.shut (w:World)(A:Abs):Ext w A w A.shut :=
 ⟨Nat.le_refl _,fun _ _=>rfl,fun _ _=>Nat.le_refl _,fun _ _ _=>rfl,fun _ _ h=>⟨.inl h,rfl⟩,fun _ _ h=>h,Nat.le_refl _,rfl,rfl,rfl,fun _ _ _=>rfl,
  fun b o _ ho hc=>hc.elim (fun h=>h) fun⟨id,h⟩=>(by rw[ho]at h;cases h),fun _ _ _ _ h=>h⟩
theorem shut1_rep (hs:Sim w A st){v:Value}{d:V}(h:Rep w A v d):Rep w A.shut v (shut1 st d):=by
 have h':Rep w A.shut v d:=h.mono (Ext.shut w A)
 unfold shut1
 split
 ·rename_i id n l m es
  cases ha:look st.arr id with
  |none=>exact h'
  |some a =>
  simp only[shutN]
  split
  ·rename_i hc
   obtain⟨c1,c2,c3,c4⟩:=hc
   have hk:=hs.arr id a ha
   cases h with
   |win _ _ _ _ _ _ hlt hle hv =>
    have hv:=hv (by rw[hk.ln];exact c1.symm)
    rcases hk.row with⟨r1,r2,_⟩|⟨g,cap,cur,r1,r2,r3,r4,r5,r6,r7,r8,r9⟩
    ·rw[hv.2 r1]
     have e:(a.xs.take m).drop l=[]:=by rw[r2];simp
     rw[e];exact .slnil none
    ·rw[c1]at r1 r3
     have e1:=hv.1 g cap r1
     have hrow:=r2
     unfold rowAt at hrow
     have hlen:((a.xs.take m).drop l).length=m-l:=by simp;omega
     have hget:∀(i:Nat) (x:V),((a.xs.take m).drop l)[i]?=some x→a.xs[l+i]?=some x∧l+i<m:=fun i x hx=>by
      rw[List.getElem?_drop,List.getElem?_take]at hx
      split at hx
      ·exact⟨hx,by assumption⟩
      ·cases hx
     have main:∀o,(l<m→o=l*es)→Rep w A.shut (.slice (some ⟨g,o,none⟩) (m-l) (cap-l)) (.sl ((a.xs.take m).drop l)):=fun o ho=>by
      rw[←hlen]
      refine .sl ((a.xs.take m).drop l) g o (cap-l) es (fun i j=>(cur[(l+i)*es+j]?).getD undef) (fun x hx=>?_) (by rw[hlen];omega) (by omega) (fun i j x c hi hj=>?_) (fun i j x c hi hj=>?_)
      ·rw[←c2];exact hk.es x (List.mem_of_mem_take (List.mem_of_mem_drop hx))
      ·obtain⟨q1,q2⟩:=hget i x hi
       obtain⟨u,h1,h2,h3⟩:=r9 (l+i) j x c q1 hj
       rw[c2]at h1
       refine⟨.inr ⟨id,r6⟩,?_,by simp[h1,h2]⟩
       rw[ho (by omega),show l*es+(i*es+j)=(l+i)*es+j by rw[Nat.add_mul];omega,h1,Option.getD_some]
       simp only[World.cell?,hrow]
       simpa using h1
      ·obtain⟨q1,q2⟩:=hget i x hi
       obtain⟨u,h1,h2,h3⟩:=r9 (l+i) j x c q1 hj
       rw[c2]at h1
       rw[h1,Option.getD_some];exact h3.mono (Ext.shut w A)
     rw[e1]
     split
     ·exact main 0 (fun e=>by omega)
     ·exact main (l*es) (fun _=>rfl)
  ·exact h'
 ·rename_i id n
  split
  ·rename_i a ha
   split
   ·rename_i hn
    have hk:=hs.arr id a ha
    cases h with
    |osl _ _ _ hlt hle hv =>
     have hv:=hv (by rw[hk.ln];exact hn.symm)
     rcases hk.row with⟨r1,r2,_⟩|⟨g,cap,cur,r1,r2,r3,r4,r5,r6,r7,r8,r9⟩
     ·rw[hv,r1,r2];exact .slnil none
     ·rw[hv,r1]
      have hrow:=r2
      unfold rowAt at hrow
      refine .sl a.xs g 0 cap a.es (fun i j=>(cur[i*a.es+j]?).getD undef) hk.es r3 r4 (fun i j x c hi hj=>?_) (fun i j x c hi hj=>?_)
      ·obtain⟨u,h1,h2,h3⟩:=r9 i j x c hi hj
       refine⟨.inr ⟨id,r6⟩,?_,by simp[h1,h2]⟩
       rw[Nat.zero_add,h1,Option.getD_some]
       simp only[World.cell?,hrow]
       simpa using h1
      ·obtain⟨u,h1,h2,h3⟩:=r9 i j x c hi hj
       rw[h1,Option.getD_some];exact h3.mono (Ext.shut w A)
   ·exact h'
  ·exact h'
 ·rename_i id
  split
  ·rename_i es ho
   obtain⟨hk,_,_⟩:=hs.x.obj id _ ho
   obtain⟨ms,clock,r1,r2,r3,r4,r5,r6⟩:=hk.row
   cases h
   exact .mpc (A.loc id) ms clock _ _ (.inr ⟨id,r2⟩) r1 (by simpa using r3) (by simpa using r3) (fun i m c hm hc=>by
    rw[List.getElem?_map]at hc
    obtain⟨p,hp,rfl⟩:=Option.map_eq_some_iff.1 hc
    exact(r6 i m p hm hp).1.mono (Ext.shut w A)) (fun i m c hm hc=>by
    rw[List.getElem?_map]at hc
    obtain⟨p,hp,rfl⟩:=Option.map_eq_some_iff.1 hc
    exact(r6 i m p hm hp).2.mono (Ext.shut w A))
  ·exact h'
 ·cases h;exact .slnil none
 ·cases h with|clip a xs h=>exact h.mono (Ext.shut w A)
 ·exact h'
theorem shutA_rep (hs:Sim w A st){v:Value}{d:V}(h:Rep w A v d):Rep w A.shut v (shutA st d):=by
 unfold shutA
 split
 ·cases h with
  |agg vs cs hl h1 hr =>
   exact .agg vs _ (by simpa using hl) h1 (fun i v c hv hc=>by
    rw[List.getElem?_map]at hc
    obtain⟨p,hp,rfl⟩:=Option.map_eq_some_iff.1 hc
    exact shut1_rep hs (hr i v p hv hp))
 ·exact shut1_rep hs h
theorem shutV_rep (hs:Sim w A st){v:Value}{d:V}(h:Rep w A v d):Rep w A.shut v (shutV st d):=by
 unfold shutV
 split
 ·cases h with
  |tup vs cs hl hr =>
   exact .tup vs _ (by simpa using hl) (fun i v c hv hc=>by
    rw[List.getElem?_map]at hc
    obtain⟨p,hp,rfl⟩:=Option.map_eq_some_iff.1 hc
    exact shutA_rep hs (hr i v p hv hp))
 ·exact shutA_rep hs h
def Abs.more (A:Abs)(n:Nat)(C:Nat→Nat→Prop):Abs:={ A with C:=fun b o=>A.C b o∨(n≤b∧C b o) }
theorem shut_world {w w':World}{A A':Abs}{st:St}(hs:Sim w A st)(hx:Ext w (A.cut 0) w' A')(hC:∀b o,A'.C b o→b<w'.heap.size) :
  Sim w' (A.more w.heap.size A'.C) st∧Ext w A w' (A.more w.heap.size A'.C)∧∀b o,A'.C b o→(A.more w.heap.size A'.C).C b o:=by
 have hno:∀b,(A.cut 0).own b=none:=fun b=>by
  simp only[Abs.cut];cases A.own b<;>simp
 have hold:∀b,b<w.heap.size→w'.heap[b]?=w.heap[b]?:=fun b hb=>hx.fr b hb (hno b)
 have hx':Ext w A w' (A.more w.heap.size A'.C) :=
  ⟨Nat.le_refl _,fun _ _=>rfl,fun _ _=>Nat.le_refl _,fun _ _ _=>rfl,fun b o h=>⟨.inl h,by unfold World.cell?;rw[hold _ (hs.Clt b o h)]⟩,fun _ _ h=>h,hx.size,hx.os,hx.tape,hx.output,fun b hb _=>hold b hb,
   fun b o hb _ hc=>hc.elim (fun h=>h) fun h=>by omega,fun b ms c _ h=>by rw[hold b (Array.getElem?_eq_some_iff.1 h).1];exact h⟩
 have hlt:∀b id,A.own b=some id→b<w.heap.size:=fun b id h=>(hs.ownlt b id h).1
 have hiff:∀b o,b<w.heap.size→((A.more w.heap.size A'.C).C b o↔A.C b o):=fun b o hb=>⟨fun h=>h.elim (fun h=>h) fun h=>by omega,.inl⟩
 refine⟨⟨hs.nx,fun id cs h=>?_,fun id a h=>?_,fun b o h=>?_,fun b id h=>⟨Nat.lt_of_lt_of_le (hs.ownlt b id h).1 hx.size,(hs.ownlt b id h).2⟩,hs.disj,hs.x.same hx' rfl hs.ownlt hold (fun _ _ h _=>h) (fun b k hb h=>(hiff b k hb).1 h) (fun _ _ h=>h) (fun _ _ h=>h)⟩,hx',fun b o h=>?_⟩
 ·have hk:=hs.mem id cs h
  have hb:=hlt _ _ hk.own
  exact hk.of_heap hx' hk.own (hold _ hb) (fun o h=>hk.noC o ((hiff _ o hb).1 h))
 ·have hk:=hs.arr id a h
  exact hk.of_heap hx' rfl (fun g hg=>⟨hg,hold _ (hlt _ _ hg),fun o=>hiff _ o (hlt _ _ hg)⟩)
 ·rcases h with h|h
  ·exact Nat.lt_of_lt_of_le (hs.Clt b o h) hx.size
  ·exact hC b o h.2
 ·rcases Nat.lt_or_ge b w.heap.size with hb|hb
  ·exact .inl (hx.cold b o hb (hno b) h)
  ·exact .inr ⟨hb,h⟩
theorem stG_weak (hs:Sim w A st):Sim w (A.cut 0) (stG st.x.gl) :=
 hs.cut ⟨rfl,Nat.zero_le _,fun id x h=>(by cases h),fun id x h=>(by cases h),fun id x h=>(by cases h),fun id x h=>(by cases h),⟨fun id x h=>(by cases h),rfl,fun id x h=>(by cases h)⟩,fun id x h=>(by cases h)⟩
theorem VCalls_shut {f:FuncId}{args:List V}(hb:V.bdL 0 args=true){r:VRes}{s:St}(h:VCalls P f args (stG st.x.gl) (fun r' s'=>r'=r∧s'=s)){r':VRes}{s':St}(hr:shutR st (some (r,s))=some (r',s')) :
  VCalls P f args st (fun x y=>x=r'∧y=s'):=by
 have key:∀{w:World}{A:Abs}{w':World}{A':Abs}{u:Value}{d:V},Sim w A st→Rep w' A' u d→Sim w' A' s→Ext w (A.cut 0) w' A'→(shutV s d).bd 0=true→∃A3,Rep w' A3 u (shutV s d)∧Sim w' A3 st∧Ext w A w' A3:=fun {w A w' A' u d} hs hu hs' hx hbd=>by
  have hC:∀b o,A'.shut.C b o→b<w'.heap.size:=fun b o h=>h.elim (hs'.Clt b o) fun⟨id,h⟩=>(hs'.ownlt b id h).1
  obtain⟨k1,k2,k3⟩:=shut_world hs (hx.trans (Ext.shut w' A')) hC
  exact⟨_,(shutV_rep hs' hu).data k3 hbd,k1,k2⟩
 have hargs:∀{w:World}{A:Abs}{vs:List Value},Reps w A vs args→Reps w (A.cut 0) vs args:=fun h=>h.data (fun _ _ h=>h) hb
 have kr:∀{d:V},r=.ret d→(shutV s d).bd 0=true∧r'=.ret (shutV s d)∧s'=st:=fun {d} e=>by
  subst e
  simp only[shutR]at hr
  cases hz:(shutV s d).bd 0<;>rw[hz]at hr<;>simp only[guardT]at hr<;>cases hr
  exact⟨rfl,rfl,rfl⟩
 have kp:∀{d:V},r=.pan d→(shutV s d).bd 0=true∧r'=.pan (shutV s d)∧s'=st:=fun {d} e=>by
  subst e
  simp only[shutR]at hr
  cases hz:(shutV s d).bd 0<;>rw[hz]at hr<;>simp only[guardT]at hr<;>cases hr
  exact⟨rfl,rfl,rfl⟩
 rcases h with h|h
 ·refine .inl ⟨h.1,fun w A vs hs ha=>(h.2 w (A.cut 0) vs (stG_weak hs) (hargs ha)).mono fun e w' ⟨r0,A',s0,⟨e1,e2⟩,hend,hs',hx⟩=>?_⟩
  subst e1;subst e2
  cases e with
  |returned u =>
   cases r0 with
   |ret d =>
    obtain⟨k1,rfl,rfl⟩:=kr rfl
    obtain⟨A3,g1,g2,g3⟩:=key hs hend hs' hx k1
    exact⟨_,A3,_,⟨rfl,rfl⟩,g1,g2,g3⟩
   |pan d=>exact hend.elim
  |panicked ch =>
   cases r0 with
   |ret d=>exact hend.elim
   |pan d =>
    obtain⟨u,c1,c2⟩:=hend
    obtain⟨k1,rfl,rfl⟩:=kp rfl
    obtain⟨A3,g1,g2,g3⟩:=key hs c2 hs' hx k1
    exact⟨_,A3,_,⟨rfl,rfl⟩,⟨u,c1,g1⟩,g2,g3⟩
  |outgrown=>cases r0<;>exact hend.elim
 ·refine .inr fun w A vs hs ha=>?_
  obtain⟨v,w',hrun,r0,A',s0,⟨e1,e2⟩,hend,hs',hx⟩:=h w (A.cut 0) vs (stG_weak hs) (hargs ha)
  subst e1;subst e2
  cases r0 with
  |ret d =>
   obtain⟨k1,rfl,rfl⟩:=kr rfl
   obtain⟨A3,g1,g2,g3⟩:=key hs hend hs' hx k1
   exact⟨v,w',hrun,_,A3,_,⟨rfl,rfl⟩,g1,g2,g3⟩
  |pan d=>exact hend.elim
end
end Go.Sha
