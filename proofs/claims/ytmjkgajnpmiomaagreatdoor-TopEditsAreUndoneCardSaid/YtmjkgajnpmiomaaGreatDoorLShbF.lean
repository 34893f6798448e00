/- Soundness of 'evs'. -/
import Derived.Test.YtmjkgajnpmiomaaGreatDoorLShbE
set_option linter.unusedSimpArgs false
set_option linter.unusedVariables false
namespace Go.Sha
section
variable {P:Program}{w:World}{A:Abs}{st:St}{a:Act}{env:Env}
theorem osl_alive (hs:Sim w A st){id n:Nat}{ar:Arr}(har:look st.arr id=some ar)(hn:ar.xs.length=n){v:Value}(hv:Rep w A v (.osl id n)) :
  v=A.sv id∧ArrOk w A id ar:=by
 have hk:=hs.arr id ar har
 cases hv with
 |osl _ _ _ h1 h2 h3=>exact⟨h3 (by rw[hk.ln,hn]),hk⟩
theorem op_alive (hs:Sim w A st){id n i es off:Nat}{v:Value}(hv:Rep w A v (.op id n i es off))(hal:aliveB st id n i=true):∃q,v=.pointer (some ⟨q,i*es+off,none⟩):=by
 unfold aliveB at hal
 split at hal
 ·rename_i ar har
  simp at hal
  have hk:=hs.arr id ar har
  cases hv with
  |op _ _ _ _ _ _ h1 h2 h3 =>
   rcases hk.row with⟨r,r',_⟩|⟨g,cap,cur,r1,_⟩
   ·rw[r']at hal;simp at hal;omega
   ·exact⟨g,h3 (by rw[hk.ln];omega) g cap (by rw[r1,hal.1])⟩
 ·cases hal
theorem slice_form {x:Value}{d:V}{xs:List V}(hs:Sim w A st)(hx:Rep w A x d)(he:elemsV st d=some xs):∃b cap,x=.slice b xs.length cap∧xs.length≤cap:=by
 cases hx with
 |sl ys b o cap es cell h1 h2 h3 h4 h5=>cases he;exact⟨_,_,rfl,h2⟩
 |slnil=>cases he;exact⟨_,_,rfl,Nat.le_refl _⟩
 |clip b ys h=>cases he;exact⟨_,_,rfl,Nat.le_refl _⟩
 |nils=>cases he;exact⟨_,_,rfl,Nat.le_refl _⟩
 |osl id n v h1 h2 h3 =>
  simp only[elemsV]at he
  split at he
  ·rename_i ar har
   split at he
   ·rename_i hn
    cases he
    obtain⟨rfl,hk⟩:=osl_alive hs har hn (.osl id n _ h1 h2 h3)
    rcases hk.row with⟨r,r',_⟩|⟨g,cap,cur,r1,_,r3,_⟩
    ·rw[r,r'];exact⟨_,_,rfl,Nat.le_refl _⟩
    ·exact⟨_,_,r1,r3⟩
   ·cases he
  ·cases he
 |_=>cases he
theorem gives_lens {t ty:TypeId}(ht:P.underlying t=some .string){x:Value}{dx d:V}(hx:Rep w A x dx)
  (h:lensV dx=some d):Gives P w A (Builtin.len_ #[t] ty #[x]) d:=by
 unfold lensV at h
 cases hx<;>first|(cases h;done)|skip
 cases h
 rename_i s
 exact⟨.int .i64 s.length,run_len_string _ t ty _ ht,.int _ _⟩
theorem gives_len {t ty e:TypeId}(ht:P.underlying t=some (.slice e))(hs:Sim w A st){x:Value}{dx d:V}(hx:Rep w A x dx)
  (h:lenV st dx=some d):Gives P w A (Builtin.len_ #[t] ty #[x]) d:=by
 unfold lenV at h
 obtain⟨xs,hxs,rfl⟩:=Option.map_eq_some_iff.1 h
 obtain⟨b,cap,rfl,_⟩:=slice_form hs hx hxs
 exact⟨_,by simp[Builtin.len_,run_underlying ht,goInt],.int _ _⟩
theorem fixed_sl (hs:Sim w A st){es:Nat}{x:Value}{d:V}{xs:List V}(hx:Rep w A x d)(he:fixedV st es d=some xs) :
  Rep w A x (.sl xs)∧(∀y∈xs,y.cells.length=es):=by
 cases hx with
 |sl ys b o cap es' cell h1 h2 h3 h4 h5 =>
  simp only[fixedV]at he
  split at he
  ·rename_i h;cases he;exact⟨.sl _ b o cap es' cell h1 h2 h3 h4 h5,by simpa using h⟩
  ·cases he
 |slnil=>simp[fixedV]at he;subst he;exact⟨.slnil _,by simp⟩
 |clip b ys h =>
  simp only[fixedV]at he
  split at he
  ·rename_i h';cases he;exact⟨h,by simpa using h'⟩
  ·cases he
 |nils=>cases he;exact⟨.slnil _,by simp⟩
 |osl id n v h1 h2 h3 =>
  simp only[fixedV]at he
  split at he
  ·rename_i ar har
   split at he
   ·rename_i hn
    cases he
    obtain⟨hn,hw,hes⟩:=hn
    obtain⟨rfl,hk⟩:=osl_alive hs har hn (.osl id n _ h1 h2 h3)
    refine⟨?_,fun y hy=>(hk.es y hy).trans hes⟩
    rcases hk.row with⟨r,r',_⟩|⟨g,cap,cur,r1,r2,r3,r4,r5,r6,r7,r8,r10⟩
    ·rw[r,r'];exact .slnil _
    ·rw[r1]
     have hc:∀(i j:Nat) (x c:V),ar.xs[i]?=some x→x.cells[j]?=some c→i*ar.es+j<ar.xs.length*ar.es∧∃v,cur[i*ar.es+j]?=some v∧v.oneCell'=true∧Rep w A v c:=by
      intro i j x c hi hj
      refine⟨?_,r10 i j x c hi hj⟩
      have h1:=(List.getElem?_eq_some_iff.1 hi).1
      have h2:=(List.getElem?_eq_some_iff.1 hj).1
      rw[hk.es x (List.mem_of_getElem? hi)]at h2
      calc i*ar.es+j<i*ar.es+ar.es:=by omega
       _=(i+1)*ar.es:=by rw[Nat.add_mul];omega
       _≤_:=Nat.mul_le_mul_right _ h1
     refine .sl ar.xs g 0 cap ar.es (fun i j=>cur[i*ar.es+j]?.getD undef) hk.es r3 r4 (fun i j x c hi hj=>?_) (fun i j x c hi hj=>?_)
     ·obtain⟨hlt,v,hv,h9,_⟩:=hc i j x c hi hj
      refine⟨by rw[Nat.zero_add];exact(r8 _ hlt).2 hw,?_,?_⟩
      ·rw[Nat.zero_add,cell_of_row w g _ cur ar.e _ r2,hv];rfl
      ·simp only[hv,Option.getD_some]
       exact h9
     ·obtain⟨_,v,hv,_,hr⟩:=hc i j x c hi hj
      simp only[hv,Option.getD_some];exact hr
   ·cases he
  ·cases he
 |_=>cases he
theorem optNat {z:Nat}{lo:Option Value}{dlo:Option V}(h1:lo.isSome=dlo.isSome)(r1:∀v d,lo=some v→dlo=some d→Rep w A v d){l:Nat}
  (e:optN z dlo=some l):(lo=none∧l=z)∨∃k,lo=some (.int k (l:Int)):=by
 cases lo with
 |none=>cases dlo with
  |none=>simp[optN]at e;exact .inl ⟨rfl,e.symm⟩
  |some d=>simp at h1
 |some v=>cases dlo with
  |none=>simp at h1
  |some d=>obtain⟨k',rfl⟩:=natV_inv (r1 v d rfl rfl) e;exact .inr ⟨k',rfl⟩
theorem bounds_run {k:Bool}{n cap:Nat}(hle:n≤cap){lo hi mx:Option Value}{dlo dhi:Option V}(h1:lo.isSome=dlo.isSome)(h2:hi.isSome=dhi.isSome)
  (r1:∀v d,lo=some v→dlo=some d→Rep w A v d) (r2:∀v d,hi=some v→dhi=some d→Rep w A v d) {l h:Nat} (hb:boundsV n dlo dhi=some (l,h)) :
  (mx=none→(Instr.sliceBounds k n cap lo hi mx).run P w=.ok (l,h,cap) w)∧(hi.isSome=true→(∃k',mx=some (.int k' (h:Int)))→(Instr.sliceBounds k n cap lo hi mx).run P w=.ok (l,h,h) w)∧l≤h∧h≤n:=by
 unfold boundsV at hb
 split at hb
 ·rename_i l' h' e1 e2
  split at hb
  ·rename_i hc
   cases hb
   obtain⟨c1,c2⟩:=hc
   have a1:=optNat h1 r1 e1
   have a2:=optNat h2 r2 e2
   clear h1 h2 r1 r2 e1 e2
   have b1:∀k y code,h≤y→(Instr.sliceBound (.int k (h:Int)) y code).run P w=.ok h w:=fun k y code hy=>by
    rw[run_sliceBound (P:=P) w k (h:Int) y code (by omega) (by omega)];simp
   have b2:∀k y code,l≤y→(Instr.sliceBound (.int k (l:Int)) y code).run P w=.ok l w:=fun k y code hy=>by
    rw[run_sliceBound (P:=P) w k (l:Int) y code (by omega) (by omega)];simp
   refine⟨fun hm=>?_,fun hs hm=>?_,c1,c2⟩
   ·subst hm
    rcases a1 with⟨rfl,rfl⟩|⟨k1,rfl⟩<;>rcases a2 with⟨rfl,rfl⟩|⟨k2,rfl⟩
    ·simp[Instr.sliceBounds]
    ·simp[Instr.sliceBounds,b1 k2 cap _ (by omega)]
    ·simp[Instr.sliceBounds,b2 k1 _ _ c1]
    ·simp[Instr.sliceBounds,b1 k2 cap _ (by omega),b2 k1 _ _ c1]
   ·obtain⟨k',rfl⟩:=hm
    rcases a2 with⟨rfl,rfl⟩|⟨k2,rfl⟩
    ·simp at hs
    ·rcases a1 with⟨rfl,rfl⟩|⟨k1,rfl⟩
     ·simp[Instr.sliceBounds,b1 _ cap _ (by omega),b1 _ h _ (Nat.le_refl _)]
     ·simp[Instr.sliceBounds,b1 _ cap _ (by omega),b1 _ h _ (Nat.le_refl _),b2 k1 _ _ c1]
  ·cases hb
 ·cases hb
theorem sl_cut {es:Nat}{v:Value}{xs:List V}(hx:Rep w A v (.sl xs))(hes:∀y∈xs,y.cells.length=es)(b:Option Addr)(cap:Nat)(hv:v=.slice b xs.length cap)
  (l hh m:Nat) (g2:l≤hh) (g3:hh≤xs.length) (hm1:hh≤m) (hm2:m≤cap):Rep w A (.slice (if m=l then b else b.map (·.add (l*es))) (hh-l) (m-l)) (.sl ((xs.take hh).drop l)):=by
 cases hx with
 |slnil =>
  injection hv with e1 e2 e3
  subst e1 e3
  simp at hm2;subst hm2
  have:hh=0:=by omega
  have:l=0:=by omega
  subst_vars;simp;exact .slnil _
 |sl _ b' o _ es' cell q1 q2 q3 q4 q5 =>
  injection hv with e1 e2 e3
  subst e1 e3
  have hl:((xs.take hh).drop l).length=hh-l:=by simp;omega
  have key:∀q,(hh-l=0∨q=o+l*es)→Rep w A (.slice (some ⟨b',q,none⟩) (hh-l) (m-l)) (.sl ((xs.take hh).drop l)):=by
   intro q hq
   rw[←hl]
   have hget:∀(i:Nat) (x:V),((xs.take hh).drop l)[i]?=some x→xs[l+i]?=some x∧i<hh-l:=by
    intro i x hi
    have hlt:=(List.getElem?_eq_some_iff.1 hi).1
    rw[hl]at hlt
    rw[List.getElem?_drop,List.getElem?_take_of_lt (by omega)]at hi
    exact⟨hi,hlt⟩
   refine .sl _ b' q _ es (fun i j=>cell (l+i) j) (fun y hy=>hes y (List.mem_of_mem_take (List.mem_of_mem_drop hy))) (by rw[hl];omega) (by omega) (fun i j x c hi hj=>?_) (fun i j x c hi hj=>?_)
   ·obtain⟨hi',hlt⟩:=hget i x hi
    have e:q+(i*es+j)=o+((l+i)*es'+j):=by
     have:es'=es:=by rw[←q1 x (List.mem_of_getElem? hi')];exact hes x (List.mem_of_getElem? hi')
     subst this
     rcases hq with hq|hq
     ·omega
     ·rw[hq,Nat.add_mul];omega
    rw[e];exact q4 (l+i) j x c hi' hj
   ·exact q5 (l+i) j x c (hget i x hi).1 hj
  by_cases hml:m=l
  ·simp only[hml,if_true]
   have:=key o (.inl (by omega))
   rw[hml]at this;exact this
  ·simp only[hml,if_false,Option.map_some,addr_add]
   exact key _ (.inr rfl)
theorem gives_slices {t:TypeId}(ht:P.underlying t=some .string){x:Value}{dx d:V}(hx:Rep w A x dx){lo hi:Option Value}{dlo dhi:Option V}(h1:lo.isSome=dlo.isSome)(h2:hi.isSome=dhi.isSome)
  (r1:∀v d,lo=some v→dlo=some d→Rep w A v d) (r2:∀v d,hi=some v→dhi=some d→Rep w A v d) (h:sliceStr dx dlo dhi=some d):Gives P w A (Instr.sliceAt t x lo hi none) d:=by
 cases hx<;>first|(cases h;done)|skip
 rename_i s
 simp only[sliceStr]at h
 split at h
 ·rename_i l hh hb
  cases h
  obtain⟨g1,_,g2,g3⟩:=bounds_run (k:=false) (P:=P) (w:=w) (cap:=s.length) (mx:=none) (Nat.le_refl _) h1 h2 r1 r2 hb
  refine⟨.string ⟨((s.take hh).drop l).toArray⟩,?_,.str _⟩
  have e:(⟨s.toArray⟩:ByteArray).extract l hh=⟨((s.take hh).drop l).toArray⟩:=by
   apply ByteArray.ext
   rw[ByteArray.data_extract]
   simp[List.extract_eq_take_drop,List.drop_take]
  have g1':(Instr.sliceBounds false (⟨s.toArray⟩:ByteArray).size (⟨s.toArray⟩:ByteArray).size lo hi none).run P w=.ok (l,hh,s.length) w:=g1 rfl
  simp only[Instr.sliceAt,Sem.run_bind,run_underlying ht,Result.andThen_ok,Instr.slice,Option.isSome_none,Bool.false_eq_true,if_false,g1',Sem.run_pure,e]
 ·cases h
theorem gives_slice {t e:TypeId}{es:Nat}(ht:P.underlying t=some (.slice e))(hsz:sizeB P e=some es)(hs:Sim w A st){x:Value}{dx d:V}(hx:Rep w A x dx){lo hi mx:Option Value}{dlo dhi dmx:Option V}
  (h1:lo.isSome=dlo.isSome) (h2:hi.isSome=dhi.isSome) (h3:mx.isSome=dmx.isSome)
  (r1:∀v d,lo=some v→dlo=some d→Rep w A v d) (r2:∀v d,hi=some v→dhi=some d→Rep w A v d) (r3:∀v d,mx=some v→dmx=some d→Rep w A v d)
  (hmx:mx.isSome=true→hi.isSome=true)
  (h:sliceV st es dx dlo dhi dmx=some d):Gives P w A (Instr.sliceAt t x lo hi mx) d:=by
 simp only[sliceV]at h
 split at h
 ·rename_i xs hxs
  obtain⟨hx',hes⟩:=fixed_sl hs hx hxs
  clear hx
  split at h
  ·rename_i l hh hb
   have hform:∃b cap,x=.slice b xs.length cap∧xs.length≤cap:=slice_form hs hx' rfl
   obtain⟨b,cap,rfl,hcap⟩:=hform
   obtain⟨g1,g1',g2,g3⟩:=bounds_run (k:=true) (P:=P) (w:=w) (mx:=mx) hcap h1 h2 r1 r2 hb
   have cut:=sl_cut hx' hes b cap rfl l hh
   cases dmx with
   |none =>
    simp at h;subst h
    cases mx with
    |some v=>simp at h3
    |none =>
     refine⟨_,?_,cut cap g2 g3 (by omega) (Nat.le_refl _)⟩
     simp only[Instr.sliceAt,Sem.run_bind,run_underlying ht,Result.andThen_ok,Instr.slice,g1 rfl,sizeB_eq hsz,Sem.run_pure]
   |some v =>
    simp only at h
    split at h
    ·rename_i hv
     cases h
     cases mx with
     |none=>simp at h3
     |some u =>
      obtain⟨k,rfl⟩:=natV_inv (r3 u v rfl rfl) hv
      obtain⟨uh,rfl⟩:∃u,hi=some u:=Option.isSome_iff_exists.1 (hmx rfl)
      have hlen:((xs.take hh).drop l).length=hh-l:=by simp;omega
      refine⟨.slice (if hh=l then b else b.map (·.add (l*es))) (hh-l) (hh-l),?_,?_⟩
      ·simp only[Instr.sliceAt,Sem.run_bind,run_underlying ht,Result.andThen_ok,Instr.slice,g1' rfl ⟨k,rfl⟩,sizeB_eq hsz,Sem.run_pure]
      ·have:=cut hh g2 g3 (Nat.le_refl _) (by omega)
       rw[←hlen]at this ⊢
       exact .clip _ _ this
    ·cases h
  ·cases h
 ·unfold winV at h
  split at h
  ·rename_i id n _
   cases mx with
   |some v=>simp at h3
   |none =>
    cases har:look st.arr id with
    |none=>rw[har]at h;cases h
    |some ar =>
     rw[har]at h
     simp only[winA]at h
     split at h
     ·rename_i hc
      obtain⟨⟨l,hh⟩,hb,rfl⟩:=Option.map_eq_some_iff.1 h
      obtain⟨rfl,hk⟩:=osl_alive hs har hc.1 hx
      have hln:A.ln id=n:=hk.ln.trans hc.1
      have go:∀(b:Option Addr) (cap:Nat),A.sv id=.slice b n cap→n≤cap→(∀g c,A.sv id=.slice (some ⟨g,0,none⟩) n c→(if cap=l then b else b.map (·.add (l*es)))=(if c=l then some ⟨g,0,none⟩ else some ⟨g,l*es,none⟩)∧cap=c)→(A.sv id=.slice none 0 0→b=none∧cap=0∧hh-l=0)→Gives P w A (Instr.sliceAt t (A.sv id) lo hi none) (.win id n l hh es):=fun b cap e hcap e1 e2=>by
       obtain⟨g1,g1',g2,g3⟩:=bounds_run (k:=true) (P:=P) (w:=w) (mx:=none) hcap h1 h2 r1 r2 hb
       refine⟨.slice (if cap=l then b else b.map (·.add (l*es))) (hh-l) (cap-l),?_,.win id n l hh es _ hk.lt (by omega) fun _=>⟨fun g c hg=>?_,fun hg=>?_⟩⟩
       ·rw[e];simp only[Instr.sliceAt,Sem.run_bind,run_underlying ht,Result.andThen_ok,Instr.slice,g1 rfl,sizeB_eq hsz,Sem.run_pure]
       ·obtain⟨q1,q2⟩:=e1 g c hg
        rw[q1,q2]
       ·obtain⟨rfl,rfl,q3⟩:=e2 hg
        rw[q3];simp
      rcases hk.row with⟨q1,q2,_⟩|⟨g,cap,cur,q1,q2,q3,_⟩
      ·have hn0:n=0:=by rw[←hc.1,q2];rfl
       subst hn0
       refine go none 0 q1 (Nat.le_refl _) (fun g c hg=>by rw[q1]at hg;cases hg) fun _=>⟨rfl,rfl,?_⟩
       obtain⟨_,_,g2,g3⟩:=bounds_run (k:=true) (P:=P) (w:=w) (mx:=none) (Nat.le_refl 0) h1 h2 r1 r2 hb
       omega
      ·rw[hc.1]at q1 q3
       refine go _ cap q1 q3 (fun g' c hg=>by rw[q1]at hg;cases hg;exact⟨by rw[Option.map_some,Addr.add_lit,Nat.zero_add],rfl⟩) (fun hg=>by rw[q1]at hg;cases hg)
     ·cases h
  ·cases h
end
end Go.Sha
