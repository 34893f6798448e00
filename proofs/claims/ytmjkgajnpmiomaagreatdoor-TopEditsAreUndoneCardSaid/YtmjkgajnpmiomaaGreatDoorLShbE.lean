/- Soundness of 'evs'. -/
import Derived.Test.YtmjkgajnpmiomaaGreatDoorLShbD
import Derived.ChangeKeysEq
set_option linter.unusedSimpArgs false
set_option linter.unusedVariables false
namespace Go.Sha
section
variable {P:Program}{w:World}{A:Abs}{st:St}{a:Act}{env:Env}
def Gives (P:Program)(w:World)(A:Abs)(s:Sem Value)(d:V):Prop:=∃u,s.run P w=.ok u w∧Rep w A u d
theorem natV_inv {v:Value}{d:V}{n:Nat}(h:Rep w A v d)(hn:natV d=some n):∃k,v=.int k (n:Int):=by
 cases h with
 |int k m =>
  simp only[natV]at hn
  split at hn
  ·rename_i h0;simp at hn;exact⟨k,by rw[←hn];congr 1;omega⟩
  ·cases hn
 |_=>simp[natV]at hn
theorem gives_pick {c x y:Value}{dc dx dy d:V}(hc:Rep w A c dc)(hx:Rep w A x dx)(hy:Rep w A y dy)
  (h:pickV dc dx dy=some d) :
  Gives P w A (do pure (if ←asBool c then x else y)) d:=by
 unfold pickV at h
 cases hc<;>simp at h
 rename_i b
 subst h
 cases b
 ·exact⟨y,by simp[asBool],hy⟩
 ·exact⟨x,by simp[asBool],hx⟩
theorem gives_load {t:TypeId}{n:Option Nat}(ht:cellsB P t=some n)(hs:Sim w A st){x:Value}{dx d:V}(hx:Rep w A x dx)
  (h:loadV st n dx=some d):Gives P w A (Instr.loadAt t x) d:=by
 unfold loadV at h
 cases hx with
 |ptr id off hid =>
  simp only at h
  split at h
  ·rename_i cs hcs
   have:=run_loadVar_rd ht (Cells.of_mem (hs.mem id cs hcs)) h
   simpa [Gives,Instr.loadAt,Instr.sureAddr] using this
  ·cases h
 |ep x off b o cell hC hr =>
  simp only at h
  have hc:Cells w A b o x.cells:=fun j c hj=>⟨cell j,(hC j c hj).2.1,(hC j c hj).2.2,hr j c hj⟩
  have:=run_loadVar_rd ht hc h
  simpa [Gives,Instr.loadAt,Instr.sureAddr] using this
 |op id m i es off v hid hn hv =>
  simp only at h
  split at h
  ·rename_i ar har
   split at h
   ·rename_i he
    obtain⟨e1,e2⟩:=he
    split at h
    ·rename_i y hy
     have hk:=hs.arr id ar har
     have e3:m=A.ln id:=by rw[hk.ln];exact e1.symm
     rcases hk.row with⟨r,r',_⟩|⟨g,cap,cur,r1,_⟩
     ·rw[r']at hy;simp at hy
     ·have hvv:=hv e3 g cap (by rw[r1,e1])
      subst hvv
      have:=run_loadVar_rd ht (Cells.of_arr hs har r1 hy) h
      rw[e2]at this
      simpa [Gives,Instr.loadAt,Instr.sureAddr] using this
    ·cases h
   ·cases h
  ·cases h
 |_=>simp at h
theorem gives_nilc {x:Value}{dx d:V}(hx:Rep w A x dx)
  (h:nilcV dx=some d):(∃q,x=.pointer (some q))∧d=dx∨(∃f p q,x=.func (.func f) p q)∧d=dx:=by
 unfold nilcV at h
 cases hx with
 |ptr id off hid=>simp at h;exact .inl ⟨⟨_,rfl⟩,h.symm⟩
 |ep x off b o cell hC hr=>simp at h;exact .inl ⟨⟨_,rfl⟩,h.symm⟩
 |fn f vs us cs ds hl hk hr hs =>
  cases f<;>simp at h
  exact .inr ⟨⟨_,_,_,rfl⟩,h.symm⟩
 |_=>simp at h
theorem gives_bin {op:BinOp}{t:TypeId}{x y:Value}{dx dy d:V}(hx:Rep w A x dx)(hy:Rep w A y dy)(h:binV op dx dy=some d):Gives P w A (binOp op t x y) d:=by
 unfold binV at h
 split at h
 all_goals try (cases h;done)
 all_goals first
  |(have e1:=Rep.int_inv hx;have e2:=Rep.int_inv hy;subst e1 e2)
  |(have e1:=Rep.str_inv hx;have e2:=Rep.str_inv hy;subst e1 e2)
 all_goals try split at h
 all_goals try (cases h;done)
 all_goals cases h
 all_goals first
  |(rename_i hc;obtain⟨rfl,hc2⟩:=hc;refine⟨_,?_,.int _ _⟩;simp only[binOp,Op.intDiv,ne_eq,not_true_eq_false,if_false,hc2];rfl)
  |(rename_i hc;subst hc;refine⟨_,?_,.int _ _⟩;simp only[binOp,Op.intArith,Op.intBits,ne_eq,not_true_eq_false,if_false];rfl)
  |(rename_i hc;subst hc;refine⟨_,?_,.bool _⟩;simp only[binOp,Op.intCmp,ne_eq,not_true_eq_false,if_false];rfl)
  |(rename_i hc;refine⟨_,?_,.int _ _⟩;simp only[binOp,Op.shift,hc,if_false];rfl)
  |(rename_i hc;refine⟨_,?_,.str _⟩;rw[←ByteArray.mk_append_mk];simp only[binOp];exact run_string_add_sum _ _ _ (by simpa [ByteArray.size] using hc))
  |(refine⟨_,?_,.bool _⟩;simp only[binOp,Op.stringOp,ByteArray.toList_mk];rfl)
theorem gives_eqb {ne:Bool}{op:BinOp}{t:TypeId}(ht:P.underlying t=some .bool)(hop:op=if ne then .neq else .eql){x y:Value}{dx dy d:V}(hx:Rep w A x dx)(hy:Rep w A y dy)
  (h:eqbV ne dx dy=some d):Gives P w A (binOp op t x y) d:=by
 unfold eqbV at h
 cases hx<;>first|(cases h;done)|skip
 cases hy<;>first|(cases h;done)|skip
 cases h
 refine⟨_,?_,.bool _⟩
 subst hop
 cases ne
 ·exact run_eql_bool w t _ _ ht
 ·show(binOp .neq t _ _).run P w=_
  simp[binOp,run_equal_bool w t _ _ ht,bne]
theorem gives_un_not {x:Value}{dx d:V}(hx:Rep w A x dx)(h:unV .not dx=some d):Gives P w A (Op.unary .not x) d:=by
 unfold unV at h
 cases hx<;>first|(cases h;done)|skip
 cases h;exact⟨_,rfl,.bool _⟩
theorem gives_un_neg {x:Value}{dx d:V}(hx:Rep w A x dx)(h:unV .neg dx=some d):Gives P w A (Op.unary .neg x) d:=by
 unfold unV at h
 cases hx<;>first|(cases h;done)|skip
 cases h;exact⟨_,rfl,.int _ _⟩
theorem fieldB_eq {s:TypeId}{f:Nat}{fd:Field}(h:fieldB P s f=some fd):∃fs,P.underlying s=some (.struct fs)∧fs[f]?=some fd:=by
 unfold fieldB at h
 split at h
 ·exact⟨_,‹_›,h⟩
 ·cases h
theorem gives_fadr {s:TypeId}{f:Nat}{fd:Field}(hf:fieldB P s f=some fd)(hz:¬(sizeB P fd.type=some 0∨sizeB P fd.type=none)){x:Value}{dx d:V}(hx:Rep w A x dx)
  (hn:∀id n i es off,dx=.op id n i es off→aliveB st id n i=true→∃q,x=.pointer (some ⟨q,i*es+off,none⟩))
  (h:fadrV st fd.offset dx=some d):Gives P w A (Instr.fieldAt s x f) d:=by
 obtain⟨fs,h1,h2⟩:=fieldB_eq hf
 have hp:∀b o,(fieldPlace ⟨b,o,none⟩ fd).run P w=.ok ⟨b,o+fd.offset,none⟩ w:=by
  intro b o
  cases hs:sizeB P fd.type with
  |none=>simp[hs]at hz
  |some n =>
   have hn:n≠0:=by intro e;apply hz;left;rw[hs,e]
   simp[fieldPlace,sizeB_eq hs,hn,addr_add]
 cases hx with
 |ptr id off hid =>
  cases h
  exact⟨_,by simp[Instr.fieldAt,run_underlying h1,h2,Instr.sureAddr,hp],.ptr _ _ hid⟩
 |ep x off b o cell hC hr =>
  cases h
  refine⟨.pointer (some ⟨b,o+(off+fd.offset),none⟩),by simp[Instr.fieldAt,run_underlying h1,h2,Instr.sureAddr,hp,Nat.add_assoc],?_⟩
  exact .ep _ _ _ _ cell hC hr
 |op id n i es off v hid hn' hv =>
  simp only[fadrV]at h
  split at h
  ·rename_i hal
   cases h
   obtain⟨q,rfl⟩:=hn _ _ _ _ _ rfl hal
   refine⟨.pointer (some ⟨q,i*es+(off+fd.offset),none⟩),by simp[Instr.fieldAt,run_underlying h1,h2,Instr.sureAddr,hp,Nat.add_assoc],.op _ _ _ _ _ _ hid hn' (fun e g cap hg=>?_)⟩
   have:=hv e g cap hg
   simp at this
   simp[this]
  ·cases h
 |_=>cases h
theorem gives_fld {s:TypeId}{f:Nat}{fd:Field}(hf:fieldB P s f=some fd){n:Option Nat}(hc:cellsB P fd.type=some n){x:Value}{dx d:V}(hx:Rep w A x dx)
  (h:fldV n fd.offset dx=some d):Gives P w A (Instr.field s x f) d:=by
 unfold fldV at h
 obtain⟨fs,h1,h2⟩:=fieldB_eq hf
 cases hx<;>first|(cases h;done)|skip
 ·rename_i vs cs hl ho hr
  cases n with
  |none =>
   simp only[rd]at h
   have hlt:=(List.getElem?_eq_some_iff.1 h).1
   have hlt':fd.offset<vs.length:=by omega
   exact⟨vs[fd.offset],by simp[Instr.field,run_underlying h1,h2,asAgg,part,isAggB_eq (cellsB_none hc),hlt'],hr _ _ _ (by simp[hlt']) h⟩
  |some n =>
   simp only[rd]at h
   split at h
   ·rename_i hle
    cases h
    obtain⟨t1,t2⟩:=cellsB_some hc
    refine⟨.agg ((vs.drop fd.offset).take n).toArray,?_,?_⟩
    ·simp[Instr.field,run_underlying h1,h2,asAgg,part,isAggB_eq t1,sizeB_eq t2,List.extract_eq_take_drop]
    ·refine .agg _ _ (by simp;omega) (fun v hv=>ho v (List.mem_of_mem_drop (List.mem_of_mem_take hv))) (fun i v c hv hc=>?_)
     have hi:i<n:=by have:=(List.getElem?_eq_some_iff.1 hv).1;simp at this;omega
     rw[List.getElem?_take_of_lt hi,List.getElem?_drop]at hv hc
     exact hr _ _ _ hv hc
   ·cases h
theorem gives_ext {i:Nat}{x:Value}{dx d:V}(hx:Rep w A x dx)(h:extV i dx=some d):Gives P w A (Instr.extract x i) d:=by
 unfold extV at h
 cases hx<;>first|(cases h;done)|skip
 ·rename_i vs cs hl hr
  have hlt:=(List.getElem?_eq_some_iff.1 h).1
  have hlt':i<vs.length:=by omega
  exact⟨vs[i],by simp[Instr.extract,hlt'],hr _ _ _ (by simp[hlt']) h⟩
theorem gives_ichr {t:TypeId}(ht:P.underlying t=some .string){x i:Value}{dx di d:V}(hx:Rep w A x dx)(hi:Rep w A i di)
  (h:ichrV dx di=some d):Gives P w A (Instr.index t x i) d:=by
 unfold ichrV at h
 cases hn:natV di with
 |none=>simp[hn]at h
 |some j =>
  obtain⟨k,rfl⟩:=natV_inv hi hn
  rw[hn]at h
  cases hx<;>first|(cases h;done)|skip
  rename_i s
  simp at h
  obtain⟨b,hb,rfl⟩:=h
  refine⟨_,?_,.int _ _⟩
  have hb':(⟨s.toArray⟩:ByteArray)[j]?=some b:=by
   have hlt:=(List.getElem?_eq_some_iff.1 hb).1
   rw[ByteArray.getElem?_lt' _ _ (by simpa [ByteArray.size] using hlt)]
   have:=(List.getElem?_eq_some_iff.1 hb).2
   simp[←this];rfl
  simp[Instr.index,asIntOf,run_underlying ht,hb']
def Flat (P:Program)(w:World)(A:Abs)(t:TypeId)(x:Value)(cs:List V):Prop :=
 (isAggB P t=some true∧∃vs:List Value,x=.agg vs.toArray∧Reps w A vs cs)∨(isAggB P t=some false∧∃c,cs=[c]∧Rep w A x c)
theorem Reps.sub {vs:List Value}{cs:List V}(h:Reps w A vs cs)(o n:Nat):Reps w A ((vs.drop o).take n) ((cs.drop o).take n):=by
 refine⟨by simp[h.1],fun i v c hv hc=>?_⟩
 have hi:i<n:=by have:=(List.getElem?_eq_some_iff.1 hv).1;simp at this;omega
 rw[List.getElem?_take_of_lt hi,List.getElem?_drop]at hv hc
 exact h.2 _ _ _ hv hc
theorem part_flat {t:TypeId}{n:Nat}(hsz:sizeB P t=some n){b:Bool}(hb:isAggB P t=some b)(h1:b=false→n=1){vs:List Value}{cs:List V}(h:Reps w A vs cs)(o:Nat)(ho:o+n≤cs.length) :
  ∃x,(part t vs.toArray o).run P w=.ok x w∧Flat P w A t x ((cs.drop o).take n):=by
 cases b with
 |true=>exact⟨_,by simp[part,isAggB_eq hb,sizeB_eq hsz,List.extract_eq_take_drop];rfl,.inl ⟨hb,_,rfl,by simpa using h.sub o n⟩⟩
 |false =>
  have:=h1 rfl;subst this
  have hl:=h.1
  have hlt:o<vs.length:=by omega
  refine⟨vs[o],by simp[part,isAggB_eq hb,hlt],.inr ⟨hb,cs[o],?_,h.2 o _ _ (by simp[hlt]) (by simp)⟩⟩
  rw[List.drop_eq_getElem_cons (by omega)];rfl
theorem eqCells_length:∀{ks:List Kd}{a b:List V}{r:Bool},eqCells ks a b=some r→a.length=ks.length∧b.length=ks.length
 |[],[],[],_,_=>⟨rfl,rfl⟩
 |k::ks,x::a,y::b,r,h=>by
  simp only[eqCells]at h
  split at h
  ·rename_i h1 h2;have:=eqCells_length h2;simp[this]
  ·cases h
 |[],_::_,_,_,h=>by simp[eqCells]at h
 |[],[],_::_,_,h=>by simp[eqCells]at h
 |_::_,[],_,_,h=>by simp[eqCells]at h
 |_::_,_::_,[],_,h=>by simp[eqCells]at h
theorem eqCells_append:∀(ks ls:List Kd) (a b c d:List V),a.length=ks.length→b.length=ks.length→eqCells (ks++ls) (a++c) (b++d)=(match eqCells ks a b,eqCells ls c d with|some x,some y=>some (x&&y)|_,_=>none)
 |[],ls,[],[],c,d,_,_=>by simp[eqCells];cases eqCells ls c d<;>rfl
 |k::ks,ls,x::a,y::b,c,d,h,h'=>by
  simp only[List.cons_append,eqCells,eqCells_append ks ls a b c d (by simpa using h) (by simpa using h')]
  cases eqCell k x y<;>cases eqCells ks a b<;>cases eqCells ls c d<;>simp[Bool.and_assoc]
 |[],_,_::_,_,_,_,h,_=>by simp at h
 |[],_,[],_::_,_,_,_,h=>by simp at h
 |_::_,_,[],_,_,_,h,_=>by simp at h
 |_::_,_,_::_,[],_,_,_,h=>by simp at h
def EqBy (P:Program)(w:World)(A:Abs)(D:Nat)(t:TypeId)(ks:List Kd):Prop :=
 sizeB P t=some ks.length∧(∃b,isAggB P t=some b∧(b=false→ks.length=1)) ∧
  ∀(x y:Value) (cs ds:List V) (r:Bool),Flat P w A t x cs→Flat P w A t y ds→eqCells ks cs ds=some r→(Op.equalIn D t x y).run P w=.ok r w
theorem run_eqFields_flat (g:TypeId→Option (List Kd))(D:Nat)(hg:∀t ks,g t=some ks→EqBy P w A D t ks){vs us:List Value}{cs ds:List V}(hv:Reps w A vs cs)(hu:Reps w A us ds) :
  ∀(fs:List Field) (e:Nat) (ks:List Kd),flatFields g fs e=some ks→e≤cs.length→e≤ds.length→∀r,eqCells ks (cs.drop e) (ds.drop e)=some r→(Op.eqFields D vs.toArray us.toArray fs).run P w=.ok r w
 |[],e,ks,h,_,_,r,hr=>by
  simp[flatFields]at h;subst h
  have:=eqCells_length hr
  rw[List.eq_nil_of_length_eq_zero this.1,List.eq_nil_of_length_eq_zero this.2]at hr
  simp[eqCells]at hr;subst hr
  rfl
 |f::fs,e,ks,h,he1,he2,r,hr=>by
  simp only[flatFields]at h
  split at h
  ·rename_i hc
   obtain⟨hname,hoff⟩:=hc
   split at h
   ·rename_i k1 hm
    split at h
    ·rename_i l hl
     cases h
     obtain⟨h1,⟨b,h2,h3⟩,h4⟩:=hg _ _ hm
     obtain⟨len1,len2⟩:=eqCells_length hr
     simp at len1 len2
     ·obtain⟨x,p1,p2⟩:=part_flat h1 h2 h3 hv e (by omega)
      obtain⟨y,q1,q2⟩:=part_flat h1 h2 h3 hu e (by omega)
      have hsp:eqCells (k1++l) ((cs.drop e).take k1.length++cs.drop (e+k1.length)) ((ds.drop e).take k1.length++ds.drop (e+k1.length))=some r:=by
       rw[←List.drop_drop,←List.drop_drop,List.take_append_drop,List.take_append_drop];exact hr
      rw[eqCells_append _ _ _ _ _ _ (by simp;omega) (by simp;omega)]at hsp
      split at hsp
      ·rename_i ra rb ha hb
       cases hsp
       have hE:=h4 x y _ _ ra p2 q2 ha
       have hR:=run_eqFields_flat g D hg hv hu fs (e+k1.length) l hl (by omega) (by omega) rb hb
       subst hoff
       simp only[Op.eqFields,hname,ne_eq,not_false_eq_true,if_true,Sem.run_bind,p1,q1,hE,Result.andThen_ok]
       cases ra with
       |true=>simpa using hR
       |false=>simp
      ·cases hsp
    ·cases h
   ·cases h
  ·cases h
theorem eqBy_scalar {D:Nat}{t:TypeId}{k:Kd}(hs:sizeB P t=some 1)(ha:isAggB P t=some false)
  (h:∀x y c c' r,Rep w A x c→Rep w A y c'→eqCell k c c'=some r→(Op.equalIn D t x y).run P w=.ok r w):EqBy P w A D t [k]:=by
 refine⟨hs,⟨false,ha,fun _=>rfl⟩,fun x y cs ds r hx hy hr=>?_⟩
 obtain⟨_,c,rfl,hc⟩:isAggB P t=some false∧∃c,cs=[c]∧Rep w A x c:=by rcases hx with⟨e,_⟩|e;(rw[ha]at e;cases e);exact e
 obtain⟨_,c',rfl,hc'⟩:isAggB P t=some false∧∃c,ds=[c]∧Rep w A y c:=by rcases hy with⟨e,_⟩|e;(rw[ha]at e;cases e);exact e
 simp only[eqCells]at hr
 split at hr
 ·rename_i p q hp hq
  cases hq;cases hr
  simpa using h x y c c' p hc hc' hp
 ·cases hr
theorem eqBy_flat:∀(d:Nat) (t:TypeId) (ks:List Kd),plainFlat P d t=some ks→∀D,d≤D→EqBy P w A D t ks
 |0,t,ks,h=>by simp[plainFlat]at h
 |d+1,t,ks,h=>fun D hD=>by
  obtain⟨D,rfl⟩:∃k,D=k+1:=⟨D-1,by omega⟩
  simp only[plainFlat]at h
  split at h
  ·rename_i hu
   split at h
   ·rename_i hs
    cases h
    refine eqBy_scalar hs (by simp[isAggB,hu]) (fun x y c c' r hx hy hr=>?_)
    cases hx<;>first|(cases hr;done)|skip
    cases hy<;>first|(cases hr;done)|skip
    cases hr
    exact run_equalIn_bool w D t _ _ hu
   ·cases h
  ·rename_i hu
   split at h
   ·rename_i hs
    cases h
    refine eqBy_scalar hs (by simp[isAggB,hu]) (fun x y c c' r hx hy hr=>?_)
    cases hx<;>first|(cases hr;done)|skip
    cases hy<;>first|(cases hr;done)|skip
    simp only[eqCell]at hr
    split at hr
    ·rename_i e;cases hr;subst e
     exact run_equalIn_int w D t _ _ _ _ hu
    ·cases hr
   ·cases h
  ·rename_i hu
   split at h
   ·rename_i hs
    cases h
    refine eqBy_scalar hs (by simp[isAggB,hu]) (fun x y c c' r hx hy hr=>?_)
    cases hx<;>first|(cases hr;done)|skip
    cases hy<;>first|(cases hr;done)|skip
    cases hr
    rw[run_equalIn_string w D t _ _ hu]
    simp
   ·cases h
  ·rename_i fs hu
   split at h
   ·rename_i hp
    split at h
    ·rename_i l hl
     split at h
     ·rename_i hs
      cases h
      have ha:isAggB P t=some true:=by simp[isAggB,hu]
      refine⟨hs,⟨true,ha,by simp⟩,fun x y cs ds r hx hy hr=>?_⟩
      obtain⟨_,vs,rfl,hvs⟩:isAggB P t=some true∧∃vs:List Value,x=.agg vs.toArray∧Reps w A vs cs:=by rcases hx with e|⟨e,_⟩;exact e;(rw[ha]at e;cases e)
      obtain⟨_,us,rfl,hus⟩:isAggB P t=some true∧∃vs:List Value,y=.agg vs.toArray∧Reps w A vs ds:=by rcases hy with e|⟨e,_⟩;exact e;(rw[ha]at e;cases e)
      have hf:P.fieldsOf t=fs:=by simp[Program.fieldsOf,hu]
      rw[run_equalIn_struct w D t _ _ (by rw[hf];exact hu) hp,hf]
      exact run_eqFields_flat (plainFlat P d) D (fun t ks h=>eqBy_flat d t ks h D (by omega)) hvs hus _ 0 _ hl (Nat.zero_le _) (Nat.zero_le _) r (by simpa using hr)
     ·cases h
    ·cases h
   ·cases h
  ·cases h
theorem run_eqItems_flat {D:Nat}{e:TypeId}{k:Kd}(hE:EqBy P w A D e [k]){vs us:List Value}{cs ds:List V}(hv:Reps w A vs cs)(hu:Reps w A us ds) :
  ∀(m j:Nat) (r:Bool),j+m≤cs.length→j+m≤ds.length→eqCells (List.replicate m k) ((cs.drop j).take m) ((ds.drop j).take m)=some r→(Op.eqItems D e (P.cellsOf e) vs.toArray us.toArray (List.range' j m)).run P w=.ok r w
 |0,j,r,_,_,h=>by simp[eqCells]at h;subst h;rfl
 |m+1,j,r,h1,h2,h=>by
  obtain⟨hs,⟨b,hb,hb1⟩,h4⟩:=hE
  have hc:P.cellsOf e=1:=by
   show((P.info? e).map (·.size)).getD 0=1
   rw[show(P.info? e).map (·.size)=some 1 from hs];rfl
  obtain⟨x,p1,p2⟩:=part_flat hs hb hb1 hv j (by simp;omega)
  obtain⟨y,q1,q2⟩:=part_flat hs hb hb1 hu j (by simp;omega)
  have ec:cs.drop j=cs[j]'(by omega)::cs.drop (j+1):=List.drop_eq_getElem_cons (by omega)
  have ed:ds.drop j=ds[j]'(by omega)::ds.drop (j+1):=List.drop_eq_getElem_cons (by omega)
  rw[ec,ed,List.take_succ_cons,List.take_succ_cons,List.replicate_succ]at h
  simp only[eqCells]at h
  split at h
  ·rename_i p q hp hq
   cases h
   have hx:=h4 x y _ _ p p2 q2 (by rw[ec,ed,List.length_singleton,List.take_succ_cons,List.take_succ_cons,List.take_zero,List.take_zero];simp only[eqCells,hp,Bool.and_true])
   have hR:=run_eqItems_flat ⟨hs,⟨b,hb,hb1⟩,h4⟩ hv hu m (j+1) q (by omega) (by omega) hq
   rw[hc]at hR
   rw[List.range'_succ]
   simp only[Op.eqItems,Sem.run_bind,hc,Nat.mul_one,p1,q1,hx,Result.andThen_ok]
   cases p with
   |true=>simpa using hR
   |false=>simp
  ·cases h
theorem eqBy_arr {D n:Nat}{t e:TypeId}{ks:List Kd}(hD:61≤D)(hu:P.underlying t=some (.array n e))(hk:arrKd P n e t=some ks):EqBy P w A D t ks:=by
 obtain⟨D,rfl⟩:∃k,D=k+1:=⟨D-1,by omega⟩
 unfold arrKd at hk
 split at hk
 ·rename_i k hp
  split at hk
  ·rename_i hs
   cases hk
   have hE:=eqBy_flat (w:=w) (A:=A) 60 e [k] hp D (by omega)
   have ha:isAggB P t=some true:=by simp[isAggB,hu]
   refine⟨by simpa using hs,⟨true,ha,by simp⟩,fun x y cs ds r hx hy hr=>?_⟩
   obtain⟨_,vs,rfl,hvs⟩:isAggB P t=some true∧∃vs:List Value,x=.agg vs.toArray∧Reps w A vs cs:=by rcases hx with e|⟨e,_⟩;exact e;(rw[ha]at e;cases e)
   obtain⟨_,us,rfl,hus⟩:isAggB P t=some true∧∃vs:List Value,y=.agg vs.toArray∧Reps w A vs ds:=by rcases hy with e|⟨e,_⟩;exact e;(rw[ha]at e;cases e)
   obtain⟨l1,l2⟩:=eqCells_length hr
   rw[List.length_replicate]at l1 l2
   obtain⟨i,hi⟩:∃i,P.info? e=some i:=by
    cases h:P.info? e with
    |none=>have:=hE.1;rw[sizeB,h]at this;cases this
    |some i=>exact⟨i,rfl⟩
   rw[run_equalIn_array w D vs.toArray us.toArray hu hi,List.range_eq_range']
   exact run_eqItems_flat hE hvs hus n 0 r (by omega) (by omega) (by rw[List.drop_zero,List.drop_zero,List.take_of_length_le (by omega),List.take_of_length_le (by omega)];exact hr)
  ·cases hk
 ·cases hk
theorem gives_eqs {ne:Bool}{op:BinOp}{t:TypeId}{ks:List Kd}(hk:EqBy P w A 10000 t ks)(ht:isAggB P t=some true)(hop:op=if ne then .neq else .eql){x y:Value}{dx dy d:V}(hx:Rep w A x dx)(hy:Rep w A y dy)
  (h:eqsV ne ks dx dy=some d):Gives P w A (binOp op t x y) d∧∃p q,x=.agg p∧y=.agg q:=by
 unfold eqsV at h
 cases hx<;>first|(cases h;done)|skip
 cases hy<;>first|(cases h;done)|skip
 obtain⟨r,hr,rfl⟩:=Option.map_eq_some_iff.1 h
 rename_i vs cs hl ho hR us ds hl' ho' hR'
 have hE:=hk.2.2 _ _ _ _ r (.inl ⟨ht,_,rfl,hl,hR⟩) (.inl ⟨ht,_,rfl,hl',hR'⟩) hr
 refine⟨⟨.bool (if ne then !r else r),?_,.bool _⟩,_,_,rfl,rfl⟩
 subst hop
 cases ne
 ·show(binOp .eql t _ _).run P w=_
  rw[run_eql_struct,hE];rfl
 ·show(binOp .neq t _ _).run P w=_
  rw[run_neq_struct,hE];rfl
end
end Go.Sha
